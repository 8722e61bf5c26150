/- Proved here: laws.FnEngineSteps returns true at every input (the tied card), no condition beyond the card. -/
import Derived.Shelf.Strconv.Atoi
import Derived.Shelf.LaysM
import Derived.Shelf.Strconv.Clone
import Derived.Shelf.Strings.Prefix
import Derived.Test.YtooajghcoijkaaaGreatDoorProg
import Derived.Test.YtooajghcoijkaaaGreatDoorChecked
import Derived.WalkKit
import Derived.Recover
import Derived.Laws.Pointers
import Derived.Test.YtooajghcoijkaaaGreatDoorFc
set_option linter.unusedVariables false
set_option linter.unusedSimpArgs false
set_option linter.unusedSectionVars false
set_option linter.defProp false
set_option maxRecDepth 100000
namespace Go.Proofs
open Go.Shelf
def Tryz.Tc:Go.Shelf.Ren:=⟨fun|172=>156|244=>162|245=>163|247=>171|279=>172|280=>173|281=>174|282=>175|287=>181|316=>155|171=>183|205=>182|321=>186|322=>187|243=>188|246=>190|283=>191|284=>192|285=>193|286=>194|129=>196|317=>195|318=>197|319=>198|320=>199|337=>200|338=>201|n=>n,fun|9=>9|3=>3|75=>172|76=>173|4=>4|5=>5|167=>179|37=>29|0=>0|85=>180|2=>2|168=>182|53=>187|175=>188|46=>190|210=>192|127=>177|145=>198|143=>196|21=>21|171=>201|173=>204|212=>206|51=>207|20=>20|213=>208|232=>211|233=>212|80=>114|n=>n,fun|15=>1|16=>2|17=>5|18=>6|19=>7|n=>n⟩
theorem Tryz.abb:Go.Proofs.Lays.n172 Tryz.prog Tryz.Tc:={
 mixed:=by kernel_rfl
 f129:=Tryz.func196.trans (congrArg some (by kernel_rfl))
 f171:=Tryz.func183.trans (congrArg some (by kernel_rfl))
 f172:=Tryz.func156.trans (congrArg some (by kernel_rfl))
 f205:=Tryz.func182.trans (congrArg some (by kernel_rfl))
 f243:=Tryz.func188.trans (congrArg some (by kernel_rfl))
 f244:=Tryz.func162.trans (congrArg some (by kernel_rfl))
 f245:=Tryz.func163.trans (congrArg some (by kernel_rfl))
 f246:=Tryz.func190.trans (congrArg some (by kernel_rfl))
 f247:=Tryz.func171.trans (congrArg some (by kernel_rfl))
 f279:=Tryz.func172.trans (congrArg some (by kernel_rfl))
 f280:=Tryz.func173.trans (congrArg some (by kernel_rfl))
 f281:=Tryz.func174.trans (congrArg some (by kernel_rfl))
 f282:=Tryz.func175.trans (congrArg some (by kernel_rfl))
 f283:=Tryz.func191.trans (congrArg some (by kernel_rfl))
 f284:=Tryz.func192.trans (congrArg some (by kernel_rfl))
 f285:=Tryz.func193.trans (congrArg some (by kernel_rfl))
 f286:=Tryz.func194.trans (congrArg some (by kernel_rfl))
 f287:=Tryz.func181.trans (congrArg some (by kernel_rfl))
 f316:=Tryz.func155.trans (congrArg some (by kernel_rfl))
 f317:=Tryz.func195.trans (congrArg some (by kernel_rfl))
 f318:=Tryz.func197.trans (congrArg some (by kernel_rfl))
 f319:=Tryz.func198.trans (congrArg some (by kernel_rfl))
 f320:=Tryz.func199.trans (congrArg some (by kernel_rfl))
 f321:=Tryz.func186.trans (congrArg some (by kernel_rfl))
 f322:=Tryz.func187.trans (congrArg some (by kernel_rfl))
 f337:=Tryz.func200.trans (congrArg some (by kernel_rfl))
 f338:=Tryz.func201.trans (congrArg some (by kernel_rfl))
 t0:=Tryz.underlying0
 a0:=Tryz.isAgg0
 z0:=Tryz.sizeOf0
 v0:=Tryz.zeroValue0
 t2:=Tryz.underlying2
 a2:=Tryz.isAgg2
 z2:=Tryz.sizeOf2
 v2:=Tryz.zeroValue2
 t3:=Tryz.underlying3
 a3:=Tryz.isAgg3
 z3:=Tryz.sizeOf3
 v3:=Tryz.zeroValue3
 t4:=Tryz.underlying4
 a4:=Tryz.isAgg4
 z4:=Tryz.sizeOf4
 v4:=Tryz.zeroValue4
 t5:=Tryz.underlying5
 a5:=Tryz.isAgg5
 z5:=Tryz.sizeOf5
 v5:=Tryz.zeroValue5
 t9:=Tryz.underlying9
 a9:=Tryz.isAgg9
 z9:=Tryz.sizeOf9
 v9:=Tryz.zeroValue9
 t20:=Tryz.underlying20
 a20:=Tryz.isAgg20
 z20:=Tryz.sizeOf20
 v20:=Tryz.zeroValue20
 t21:=Tryz.underlying21
 a21:=Tryz.isAgg21
 z21:=Tryz.sizeOf21
 v21:=Tryz.zeroValue21
 t37:=Tryz.underlying29
 a37:=Tryz.isAgg29
 z37:=Tryz.sizeOf29
 v37:=Tryz.zeroValue29
 t46:=Tryz.underlying190
 a46:=Tryz.isAgg190
 z46:=Tryz.sizeOf190
 v46:=Tryz.zeroValue190
 t51:=Tryz.underlying207
 a51:=Tryz.isAgg207
 z51:=Tryz.sizeOf207
 v51:=Tryz.zeroValue207
 t53:=Tryz.underlying187
 a53:=Tryz.isAgg187
 z53:=Tryz.sizeOf187
 v53:=Tryz.zeroValue187
 t75:=Tryz.underlying172
 a75:=Tryz.isAgg172
 z75:=Tryz.sizeOf172
 v75:=Tryz.zeroValue172
 t76:=Tryz.underlying173
 a76:=Tryz.isAgg173
 z76:=Tryz.sizeOf173
 v76:=Tryz.zeroValue173
 t85:=Tryz.underlying180
 a85:=Tryz.isAgg180
 z85:=Tryz.sizeOf180
 v85:=Tryz.zeroValue180
 t127:=Tryz.underlying177
 a127:=Tryz.isAgg177
 z127:=Tryz.sizeOf177
 v127:=Tryz.zeroValue177
 t143:=Tryz.underlying196
 a143:=Tryz.isAgg196
 z143:=Tryz.sizeOf196
 v143:=Tryz.zeroValue196
 t145:=Tryz.underlying198
 a145:=Tryz.isAgg198
 z145:=Tryz.sizeOf198
 v145:=Tryz.zeroValue198
 t167:=Tryz.underlying179
 a167:=Tryz.isAgg179
 z167:=Tryz.sizeOf179
 v167:=Tryz.zeroValue179
 t168:=Tryz.underlying182
 a168:=Tryz.isAgg182
 z168:=Tryz.sizeOf182
 v168:=Tryz.zeroValue182
 t171:=Tryz.underlying201
 a171:=Tryz.isAgg201
 z171:=Tryz.sizeOf201
 v171:=Tryz.zeroValue201
 t173:=Tryz.underlying204
 a173:=Tryz.isAgg204
 z173:=Tryz.sizeOf204
 v173:=Tryz.zeroValue204
 t175:=Tryz.underlying188
 a175:=Tryz.isAgg188
 z175:=Tryz.sizeOf188
 v175:=Tryz.zeroValue188
 t210:=Tryz.underlying192
 a210:=Tryz.isAgg192
 z210:=Tryz.sizeOf192
 v210:=Tryz.zeroValue192
 t212:=Tryz.underlying206
 a212:=Tryz.isAgg206
 z212:=Tryz.sizeOf206
 v212:=Tryz.zeroValue206
 t213:=Tryz.underlying208
 a213:=Tryz.isAgg208
 z213:=Tryz.sizeOf208
 t232:=Tryz.underlying211
 a232:=Tryz.isAgg211
 z232:=Tryz.sizeOf211
 v232:=Tryz.zeroValue211
 t233:=Tryz.underlying212
 a233:=Tryz.isAgg212
 z233:=Tryz.sizeOf212
 v233:=Tryz.zeroValue212
 g15:=by kernel_rfl
 g16:=by kernel_rfl
 g17:=by kernel_rfl
 g18:=by kernel_rfl
 g19:=by kernel_rfl}
open Go.RowKit in
theorem Tryz.strconv_Atoi(s:ByteArray)(n:Int)(hl:s.size≤18)(h:Lib.atoi s.data.toList=some n)(w:World):
 Calls Tryz.prog 156 #[.string s] w fun e w'=>e=.returned (.tuple #[.int .i64 n,.nilIface])∧∃ t,w' = Lib.bytesWorld w 5 t:=Any.strconv_Atoi Tryz.abb s n hl h w
def Tryz.Rr:Go.Shelf.Ren:=⟨fun|316=>155|n=>n,fun|9=>9|3=>3|4=>4|37=>29|0=>0|127=>177|5=>5|n=>n,fun|n=>n⟩
theorem Tryz.Zs:Go.Proofs.LaysM.n316 Tryz.prog Tryz.Rr:={
 mixed:=by kernel_rfl
 f316:=Tryz.func155.trans (congrArg some (by kernel_rfl))
 t0:=Tryz.underlying0
 a0:=Tryz.isAgg0
 z0:=Tryz.sizeOf0
 v0:=Tryz.zeroValue0
 t3:=Tryz.underlying3
 a3:=Tryz.isAgg3
 z3:=Tryz.sizeOf3
 v3:=Tryz.zeroValue3
 t4:=Tryz.underlying4
 a4:=Tryz.isAgg4
 z4:=Tryz.sizeOf4
 v4:=Tryz.zeroValue4
 t9:=Tryz.underlying9
 a9:=Tryz.isAgg9
 z9:=Tryz.sizeOf9
 v9:=Tryz.zeroValue9
 t37:=Tryz.underlying29
 a37:=Tryz.isAgg29
 z37:=Tryz.sizeOf29
 v37:=Tryz.zeroValue29
 t127:=Tryz.underlying177
 a127:=Tryz.isAgg177
 z127:=Tryz.sizeOf177
 v127:=Tryz.zeroValue177
 t5:=Tryz.underlying5
 a5:=Tryz.isAgg5
 z5:=Tryz.sizeOf5
 v5:=Tryz.zeroValue5
 i0:=by kernel_rfl
 i3:=by kernel_rfl
 i4:=by kernel_rfl
 i5:=by kernel_rfl
 i9:=by kernel_rfl
 i37:=by kernel_rfl
 i127:=by kernel_rfl}
open Go.RowKit in
theorem Tryz.stringslite_Clone(s:ByteArray)(w:World)(Lw:s.size≤281474976710656):
 Calls Tryz.prog 155 #[.string s] w fun e w'=>e=.returned (.string s)∧Below w.heap.size w w':=Any.stringslite_Clone Tryz.Zs s w Lw
def Tryz.UM:Go.Shelf.Ren:=⟨fun|99=>157|206=>164|n=>n,fun|9=>9|4=>4|3=>3|n=>n,fun|n=>n⟩
theorem Tryz.adB:Go.Proofs.Lays.n99 Tryz.prog Tryz.UM:={
 mixed:=by kernel_rfl
 f99:=Tryz.func157.trans (congrArg some (by kernel_rfl))
 f206:=Tryz.func164.trans (congrArg some (by kernel_rfl))
 t3:=Tryz.underlying3
 a3:=Tryz.isAgg3
 z3:=Tryz.sizeOf3
 v3:=Tryz.zeroValue3
 t4:=Tryz.underlying4
 a4:=Tryz.isAgg4
 z4:=Tryz.sizeOf4
 v4:=Tryz.zeroValue4
 t9:=Tryz.underlying9
 a9:=Tryz.isAgg9
 z9:=Tryz.sizeOf9
 v9:=Tryz.zeroValue9}
open Go.RowKit Go.Lib in
theorem Tryz.strings_HasPrefix(s p:ByteArray)(w:World):
 Calls Tryz.prog 157 #[.string s,.string p] w fun e w'=>e=.returned (.bool (Lib.hasPrefix s.data.toList p.data.toList))∧w' = w:=Any.strings_HasPrefix Tryz.adB s p w
end Go.Proofs
namespace Go.Proofs
open Go.Shelf Go.RowKit
set_option maxHeartbeats 4000000
theorem Np(s:ByteArray)(w:World)(hs:0<s.size)(h:(1<s.size∧(s[0]'hs).toNat=48)∨10<s.size):
  Calls Tryz.prog 127 #[.string s] w fun e w'=>e=.returned (.tuple #[.int .i64 0,.bool false])∧w' = w:=by
 go_enter Tryz.func127,Tryz.ntmps127
 go_wp2_with fail
 all_goals first
  |(go_ret2;exact⟨rfl,rfl⟩)
  |(exfalso;rcases h with ⟨h1,h2⟩|h1<;>simp_all<;>omega)
  |skip
theorem LA(s:ByteArray)(w:World)(hs:0<s.size)(h1:1<s.size→(s[0]'hs).toNat≠48)(h2:s.size≤10)(n:Int)(hn:Lib.atoi s.data.toList=some n):
  Calls Tryz.prog 127 #[.string s] w fun e w'=>e=.returned (.tuple (bif decide (2147483647<n) then #[.int .i64 0,.bool false] else #[.int .i64 n,.bool true]))∧∃ t,w' = Lib.bytesWorld w 5 t:=by
 go_enter Tryz.func127,Tryz.ntmps127
 go_wp2_with (go_at_call 156;refine(Tryz.strconv_Atoi s n (by omega) hn w).mono ?_;rintro e w' ⟨rfl,t,rfl⟩)
 all_goals first
  |(exfalso;simp_all<;>omega)
  |(go_ret2;refine⟨?_,_,rfl⟩;rename_i hh;simp only[hh,decide_true,cond_true];rfl)
  |(go_ret2;refine⟨?_,_,rfl⟩;rename_i hh;simp only[show ¬ 2147483647<n by omega,decide_false,cond_false];rfl)
  |skip
end Go.Proofs
namespace Go.Fx.R5
open Go Go.Proofs
theorem aeb(w:World):(Instr.typeAssert .nilIface 20 128 true).run Tryz.prog w=.ok (.tuple #[.agg #[.int .i64 0,.int .i64 0],.bool false]) w:=by kernel_rfl
theorem abN(u:Value)(w:World):(Instr.typeAssert (.iface 128 u) 20 128 true).run Tryz.prog w=.ok (.tuple #[u,.bool true]) w:=by kernel_rfl
def clA(p2 p3:Addr)(l:List Value):Act:={tmps:=(Value.pointer (some p2)::Value.pointer (some p3)::l).toArray,defers:=[]}
theorem Uy(p2 p3:Addr)(w:World):
  CallsD Tryz.prog 70 #[.pointer (some p2),.pointer (some p3)] .returning w fun e u' w'=>e=.returned (.tuple #[])∧u' = .returning∧w' = w.alloc (.cells #[.int .i64 0,.int .i64 0] 128):=by
 refine callsD_of_wpS Tryz.func70 rfl fun c₀ cs hu=>?_;show Code.wpS _ _ _ {tmps:=#[Value.pointer (some p2),Value.pointer (some p3),undef,undef,undef,undef,undef,undef,undef,undef,undef,undef],defers:=[]} _ _;apply wpS_seq;apply wpS_region;simp[wpOpsS,go_sem,recoverD,hu,Exit.thenS,aeb];apply wpS_seq;apply wpS_region;simp[wpOpsS,go_sem,Exit.thenS];refine wpS_cond (t:=false) (by simp[Act.eval]) ?_
 simp only[asa,aka];refine wpS_of_wp (wp_skip ?_);cases c₀;simp_all[bodyPostS,results,Tryz.results70]
theorem Lg(b2 o2 b3 o3:Nat)(c a:Int)(x y z:Value)(acD:List PanicEntry)(w:World)(hb:b2≠b3)(l2:b2<w.heap.size)(l3:b3<w.heap.size)(h2:w.cell? ⟨b2,o2,none⟩=some x)(z2:w.frozen? ⟨b2,o2,none⟩=false)(h3:w.cell? ⟨b3,o3,none⟩=some y)(z3:w.frozen? ⟨b3,o3,none⟩=false)(h4:w.cell? ⟨b3,o3+1,none⟩=some z)(z4:w.frozen? ⟨b3,o3+1,none⟩=false):
  CallsD Tryz.prog 70 #[.pointer (some ⟨b2,o2,none⟩),.pointer (some ⟨b3,o3,none⟩)] (.panicking ({v:=.iface 128 (.agg #[.int .i64 c,.int .i64 a]),recovered:=false}::acD)) w fun e u' w'=>e=.returned (.tuple #[])∧u' = .panicking ({v:=.iface 128 (.agg #[.int .i64 c,.int .i64 a]),recovered:=true}::acD)∧
   w' = ((((w.alloc (.cells #[.int .i64 c,.int .i64 a] 128)).setCell ⟨b2,o2,none⟩ (.slice none 0 0)).setCell ⟨b3,o3,none⟩ (.int .i64 c)).setCell ⟨b3,o3+1,none⟩ (.int .i64 a)).drew:=by
 refine callsD_of_wpS Tryz.func70 rfl fun c₀ cs hu=>?_;show Code.wpS _ _ _ {tmps:=#[Value.pointer (some ⟨b2,o2,none⟩),Value.pointer (some ⟨b3,o3,none⟩),undef,undef,undef,undef,undef,undef,undef,undef,undef,undef],defers:=[]} _ _;apply wpS_seq;apply wpS_region;simp[wpOpsS,go_sem,recoverD,hu,Exit.thenS,abN];apply wpS_seq;apply wpS_region;simp[wpOpsS,go_sem,Exit.thenS];refine wpS_cond (t:=true) (by simp[Act.eval]) ?_
 simp only[ava];refine wpS_of_wp ?_;have q2:(w.alloc (.cells #[.int .i64 c,.int .i64 a] 128)).cell? ⟨b2,o2,none⟩=some x:=by rw[bMa _ _ _ l2];exact h2
 have q3:(w.alloc (.cells #[.int .i64 c,.int .i64 a] 128)).cell? ⟨b3,o3,none⟩=some y:=by rw[bMa _ _ _ l3];exact h3
 have q4:(w.alloc (.cells #[.int .i64 c,.int .i64 a] 128)).cell? ⟨b3,o3+1,none⟩=some z:=by rw[bMa _ _ _ l3];exact h4
 have r2:(w.alloc (.cells #[.int .i64 c,.int .i64 a] 128)).frozen? ⟨b2,o2,none⟩=false:=by rw[cha _ _ _ l2];exact z2
 have r3:(w.alloc (.cells #[.int .i64 c,.int .i64 a] 128)).frozen? ⟨b3,o3,none⟩=false:=by rw[cha _ _ _ l3];exact z3
 have r4:(w.alloc (.cells #[.int .i64 c,.int .i64 a] 128)).frozen? ⟨b3,o3+1,none⟩=false:=by rw[cha _ _ _ l3];exact z4
 have k0:(w.alloc (.cells #[.int .i64 c,.int .i64 a] 128)).cell? ⟨w.heap.size,0,none⟩=some (.int .i64 c):=by simp[go_sem]
 have k1:(w.alloc (.cells #[.int .i64 c,.int .i64 a] 128)).cell? ⟨w.heap.size,1,none⟩=some (.int .i64 a):=by simp[go_sem]
 have n2:b2≠w.heap.size:=Nat.ne_of_lt l2;have n3:b3≠w.heap.size:=Nat.ne_of_lt l3;generalize w.alloc (.cells #[.int .i64 c,.int .i64 a] 128)=W at *;generalize w.heap.size=B at *
 go_region
 cases c₀;simp_all[bodyPostS,results,Tryz.results70]
end Go.Fx.R5
namespace Go.Fx.R5
open Go Go.Fx Go.Proofs Go.Proofs.Tryz
noncomputable section
abbrev XN:=List (Int×Int×Int×ab×List Int)
abbrev XF:=List (ab×Int×List ab×List ab×Int)
abbrev XT:=List (Int×Int×ab×Int)
abbrev XE:=List (Int×Int×Int×Int×Int)
abbrev XQ:=List (Int×Int×Int×Int)
abbrev XA:=List (ab×Int)
abbrev XL:=List (List Int)
abbrev XS:=List ab
abbrev XI:=List Int
abbrev XB:=List Bool
abbrev tN:Ty:=(.dg I (.dg I (.dg I (.dg .str (.slice I)))))
abbrev tF:Ty:=(.dg .str (.dg I (.dg (.slice .str) (.dg (.slice .str) I))))
abbrev tT:Ty:=(.dg I (.dg I (.dg .str I)))
abbrev tE:Ty:=(.dg I (.dg I (.dg I (.dg I I))))
abbrev tQ:Ty:=(.dg I (.dg I (.dg I I)))
abbrev tA:Ty:=(.dg .str I)
abbrev tP:Ty:=(.dg I I)
abbrev sN:Ty:=(.slice tN)
abbrev sF:Ty:=(.slice tF)
abbrev sT:Ty:=(.slice tT)
abbrev sE:Ty:=(.slice tE)
abbrev sQ:Ty:=(.slice tQ)
abbrev sA:Ty:=(.slice tA)
abbrev sL:Ty:=(.slice (.slice I))
abbrev sI:Ty:=(.slice I)
abbrev sS:Ty:=(.slice .str)
abbrev sB:Ty:=(.slice .bool)
abbrev tM:Ty:=(.dg sA (.dg sS sF))
abbrev tG:Ty:=(.dg (.slice .str) (.dg sS I))
theorem mix:prog.follows .mixedOrders=true:=by kernel_rfl
def xR:List ab:=[[43,37],[45,37],[42,37],[60,60],[62,62],[61,61],[33,61],[60,61],[62,61],[46,46],[43,61],[43],[45],[42],[47],[37],[38],[124],[94],[60],[62],[61],[40],[41],[123],[125],[91],[93],[44],[59]]
def OG:List ab:=[[],[43],[45],[42],[47],[37],[38],[124],[94],[60,60],[62,62],[43,37],[45,37],[42,37]]
def gl4:List ab:=[[],[61,61],[33,61],[60],[60,61],[62],[62,61]]
def gt:Nat→Option GA
 |0=>some ⟨.str,xR⟩
 |3=>some ⟨.str,OG⟩
 |4=>some ⟨.str,gl4⟩
 |_=>none
noncomputable def agY:List (Tb prog):=[tb 3 t3 underlying3 ⟨1,8,some I,.int .i64,[.int .i64 0]⟩,
 tb 4 t4 underlying4 ⟨1,1,some .bool,.bool,[.bool false]⟩,
 tb 5 t5 underlying5 ⟨1,1,some U,.int .u8,[.int .u8 0]⟩,
 tb 9 t9 underlying9 ⟨1,16,some .str,.str,[.string ⟨#[]⟩]⟩,
 tb 22 t22 underlying22 ⟨1,24,some sI,.slice 3,[.slice none 0 0]⟩,
 tb 29 t29 underlying29 ⟨1,24,some (.slice U),.slice 5,[.slice none 0 0]⟩,
 tb 31 t31 underlying31 ⟨1,24,some sA,.slice 42,[.slice none 0 0]⟩,
 tb 32 t32 underlying32 ⟨1,24,some sS,.slice 9,[.slice none 0 0]⟩,
 tb 33 t33 underlying33 ⟨1,24,some sF,.slice 67,[.slice none 0 0]⟩,
 tb 35 t35 underlying35 ⟨3,72,some tM,.struct [(0,31),(1,32),(2,33)],[.slice none 0 0,.slice none 0 0,.slice none 0 0]⟩,
 tb 37 t37 underlying37 ⟨2,16,some tP,.struct [(0,3),(1,3)],[.int .i64 0,.int .i64 0]⟩,
 tb 42 t42 underlying42 ⟨2,24,some tA,.struct [(0,9),(1,3)],[.string ⟨#[]⟩,.int .i64 0]⟩,
 tb 43 t43 underlying43 ⟨1,24,some sN,.slice 47,[.slice none 0 0]⟩,
 tb 47 t47 underlying47 ⟨5,64,some tN,.struct [(0,3),(1,3),(2,3),(3,9),(4,22)],[.int .i64 0,.int .i64 0,.int .i64 0,.string ⟨#[]⟩,.slice none 0 0]⟩,
 tb 52 t52 underlying52 ⟨1,8,none,.lB 86,[.pointer none]⟩,
 tb 56 t56 underlying56 ⟨1,8,none,.lB 93,[.pointer none]⟩,
 tb 67 t67 underlying67 ⟨5,80,some tF,.struct [(0,9),(1,3),(2,32),(3,32),(4,3)],[.string ⟨#[]⟩,.int .i64 0,.slice none 0 0,.slice none 0 0,.int .i64 0]⟩,
 tb 68 t68 underlying68 ⟨1,8,none,.lB 70,[.pointer none]⟩,
 tb 70 t70 underlying70 ⟨8,152,some (.dg tM (.dg sN (.dg .str (.dg sS tP)))),.struct [(0,35),(3,43),(4,9),(5,32),(6,37)],[.slice none 0 0,.slice none 0 0,.slice none 0 0,.slice none 0 0,.string ⟨#[]⟩,.slice none 0 0,.int .i64 0,.int .i64 0]⟩,
 tb 72 t72 underlying72 ⟨1,24,some sT,.slice 110,[.slice none 0 0]⟩,
 tb 75 t75 underlying75 ⟨1,8,none,.lB 77,[.pointer none]⟩,
 tb 77 t77 underlying77 ⟨7,88,some (.dg sT (.dg I (.dg I (.dg sN (.dg I tP))))),.struct [(0,72),(1,3),(2,3),(3,43),(4,3),(5,37)],[.slice none 0 0,.int .i64 0,.int .i64 0,.slice none 0 0,.int .i64 0,.int .i64 0,.int .i64 0]⟩,
 tb 78 t78 underlying78 ⟨1,8,none,.lB 118,[.pointer none]⟩,
 tb 81 t81 underlying81 ⟨1,24,some sB,.slice 4,[.slice none 0 0]⟩,
 tb 82 t82 underlying82 ⟨1,24,some sE,.slice 99,[.slice none 0 0]⟩,
 tb 84 t84 underlying84 ⟨4,96,some (.dg sI (.dg sI (.dg sB sE))),.struct [(0,22),(1,22),(2,81),(3,82)],[.slice none 0 0,.slice none 0 0,.slice none 0 0,.slice none 0 0]⟩,
 tb 86 t86 underlying86 ⟨9,216,some (.dg tM (.dg sN (.dg (.dg sI (.dg sI (.dg sB sE))) sB))),.struct [(0,35),(3,43),(4,84),(8,81)],[.slice none 0 0,.slice none 0 0,.slice none 0 0,.slice none 0 0,.slice none 0 0,.slice none 0 0,.slice none 0 0,.slice none 0 0,.slice none 0 0]⟩,
 tb 90 t90 underlying90 ⟨1,24,some sQ,.slice 167,[.slice none 0 0]⟩,
 tb 91 t91 underlying91 ⟨1,24,some sL,.slice 22,[.slice none 0 0]⟩,
 tb 93 t93 underlying93 ⟨13,312,some (.dg sN (.dg tM (.dg sI (.dg sI (.dg (.dg sI (.dg sI (.dg sB sE))) (.dg sQ (.dg sL sB))))))),.struct [(0,43),(1,35),(4,22),(5,22),(6,84),(10,90),(11,91),(12,81)],[.slice none 0 0,.slice none 0 0,.slice none 0 0,.slice none 0 0,.slice none 0 0,.slice none 0 0,.slice none 0 0,.slice none 0 0,.slice none 0 0,.slice none 0 0,.slice none 0 0,.slice none 0 0,.slice none 0 0]⟩,
 tb 95 t95 underlying95 ⟨1,8,none,.lB 97,[.pointer none]⟩,
 tb 97 t97 underlying97 ⟨7,136,none,.struct [(0,56),(1,3),(2,84),(6,90)],[.pointer none,.int .i64 0,.slice none 0 0,.slice none 0 0,.slice none 0 0,.slice none 0 0,.slice none 0 0]⟩,
 tb 99 t99 underlying99 ⟨5,40,some tE,.struct [(0,3),(1,3),(2,3),(3,3),(4,3)],[.int .i64 0,.int .i64 0,.int .i64 0,.int .i64 0,.int .i64 0]⟩,
 tb 110 t110 underlying110 ⟨4,40,some tT,.struct [(0,3),(1,3),(2,9),(3,3)],[.int .i64 0,.int .i64 0,.string ⟨#[]⟩,.int .i64 0]⟩,
 tb 118 t118 underlying118 ⟨2,32,some (.dg (.slice U) I),.struct [(0,29),(1,3)],[.slice none 0 0,.int .i64 0]⟩,
 tb 120 t120 underlying120 ⟨11,248,some (.dg tM (.dg sN (.dg I (.dg (.dg sI (.dg sI (.dg sB sE))) (.dg sI sI))))),.struct [(0,35),(3,43),(4,3),(5,84),(9,22),(10,22)],[.slice none 0 0,.slice none 0 0,.slice none 0 0,.slice none 0 0,.int .i64 0,.slice none 0 0,.slice none 0 0,.slice none 0 0,.slice none 0 0,.slice none 0 0,.slice none 0 0]⟩,
 tb 121 t121 underlying121 ⟨1,8,none,.lB 120,[.pointer none]⟩,
 tb 124 t124 underlying124 ⟨1,8,none,.lB 126,[.pointer none]⟩,
 tb 126 t126 underlying126 ⟨5,72,some (.dg sT (.dg I (.dg I (.dg I sN)))),.struct [(0,72),(1,3),(2,3),(3,3),(4,43)],[.slice none 0 0,.int .i64 0,.int .i64 0,.int .i64 0,.slice none 0 0]⟩,
 tb 128 t128 underlying128 ⟨2,16,some (.one tP),.struct [(0,37)],[.int .i64 0,.int .i64 0]⟩,
 tb 130 t130 underlying130 ⟨1,8,none,.mp 9 3,[.map none]⟩,
 tb 132 t132 underlying132 ⟨1,8,none,.lB 35,[.pointer none]⟩,
 tb 134 t134 underlying134 ⟨1,8,none,.lB 67,[.pointer none]⟩,
 tb 137 t137 underlying137 ⟨10,184,none,.struct [(0,43),(1,35),(4,67),(9,130)],[.slice none 0 0,.slice none 0 0,.slice none 0 0,.slice none 0 0,.string ⟨#[]⟩,.int .i64 0,.slice none 0 0,.slice none 0 0,.int .i64 0,.map none]⟩,
 tb 142 t142 underlying142 ⟨6,6,some (.arr 6 .bool),.arr 6 4,[.bool false,.bool false,.bool false,.bool false,.bool false,.bool false]⟩,
 tb 143 t143 underlying143 ⟨36,36,some (.arr 6 (.arr 6 .bool)),.arr 6 142,[.bool false,.bool false,.bool false,.bool false,.bool false,.bool false,.bool false,.bool false,.bool false,.bool false,.bool false,.bool false,.bool false,.bool false,.bool false,.bool false,.bool false,.bool false,.bool false,.bool false,.bool false,.bool false,.bool false,.bool false,.bool false,.bool false,.bool false,.bool false,.bool false,.bool false,.bool false,.bool false,.bool false,.bool false,.bool false,.bool false]⟩,
 tb 144 t144 underlying144 ⟨1,8,none,.lB 146,[.pointer none]⟩,
 tb 146 t146 underlying146 ⟨5,88,none,.struct [(0,78),(1,32),(2,32),(3,32),(4,3)],[.pointer none,.slice none 0 0,.slice none 0 0,.slice none 0 0,.int .i64 0]⟩,
 tb 158 t158 underlying158 ⟨1,8,none,.lB 137,[.pointer none]⟩,
 tb 167 t167 underlying167 ⟨4,32,some tQ,.struct [(0,3),(1,3),(2,3),(3,3)],[.int .i64 0,.int .i64 0,.int .i64 0,.int .i64 0]⟩,
 tb 175 t175 underlying175 ⟨30,480,some (.arr 30 .str),.arr 30 9,[.string ⟨#[]⟩,.string ⟨#[]⟩,.string ⟨#[]⟩,.string ⟨#[]⟩,.string ⟨#[]⟩,.string ⟨#[]⟩,.string ⟨#[]⟩,.string ⟨#[]⟩,.string ⟨#[]⟩,.string ⟨#[]⟩,.string ⟨#[]⟩,.string ⟨#[]⟩,.string ⟨#[]⟩,.string ⟨#[]⟩,.string ⟨#[]⟩,.string ⟨#[]⟩,.string ⟨#[]⟩,.string ⟨#[]⟩,.string ⟨#[]⟩,.string ⟨#[]⟩,.string ⟨#[]⟩,.string ⟨#[]⟩,.string ⟨#[]⟩,.string ⟨#[]⟩,.string ⟨#[]⟩,.string ⟨#[]⟩,.string ⟨#[]⟩,.string ⟨#[]⟩,.string ⟨#[]⟩,.string ⟨#[]⟩]⟩,
 tb 186 t186 underlying186 ⟨1,8,none,.lB 47,[.pointer none]⟩,
 tb 194 t194 underlying194 ⟨14,224,some (.arr 14 .str),.arr 14 9,[.string ⟨#[]⟩,.string ⟨#[]⟩,.string ⟨#[]⟩,.string ⟨#[]⟩,.string ⟨#[]⟩,.string ⟨#[]⟩,.string ⟨#[]⟩,.string ⟨#[]⟩,.string ⟨#[]⟩,.string ⟨#[]⟩,.string ⟨#[]⟩,.string ⟨#[]⟩,.string ⟨#[]⟩,.string ⟨#[]⟩]⟩,
 tb 200 t200 underlying200 ⟨7,112,some (.arr 7 .str),.arr 7 9,[.string ⟨#[]⟩,.string ⟨#[]⟩,.string ⟨#[]⟩,.string ⟨#[]⟩,.string ⟨#[]⟩,.string ⟨#[]⟩,.string ⟨#[]⟩]⟩]
noncomputable def bw:Prg:=⟨prog,gt,agY,mix⟩
def Hd(s p:ab):Option (Bool×Unit):=some (p.isPrefixOf s,())
def TY:iL:=Az [.str,.str] [.bool] (fun d=>Hd d.1 d.2.1) id
theorem SS:ld prog gt 157 TY:=by refine⟨EH (ts:=[.str,.str]) (rs:=[.bool]) (dec:=id) rfl rfl call157 fun d y w hg h=>?_,BH _ _ _ _,xW _ _ _ _⟩;cases h;exact(strings_HasPrefix ⟨⟨d.1⟩⟩ ⟨⟨d.2.1⟩⟩ w).mono fun e w' ⟨h1,h2⟩=>⟨h1,h2 ▸ Go.RowKit.Below.refl _ _⟩
def Sw:Cl bw:=⟨_,_,SS⟩
def B4(s:ab):Option (ab×Unit):=bif decide (s.length≤281474976710656) then some (s,()) else none
def WC:iL:=Az [.str] [.str] (fun d=>B4 d.1) id
theorem YN:ld prog gt 155 WC:=by
 refine⟨EH (ts:=[.str]) (rs:=[.str]) (dec:=id) rfl rfl call155 fun d y w hg h=>?_,BH _ _ _ _,xW _ _ _ _⟩;obtain⟨s,u⟩:=d;have h:(bif decide (s.length≤281474976710656) then some (s,()) else none)=some y:=h
 cases hb:decide (s.length≤281474976710656) with
 |false=>rw[hb] at h;cases h
 |true=>rw[hb] at h;cases h;exact stringslite_Clone ⟨⟨s⟩⟩ w (b8a hb)
def aaN:Cl bw:=zp ⟨[⟨155,WC,YN⟩],[],[]⟩ 126 f126 func126 call126 [.str] [.str] (fun d=>B4 d.1) [] (h:=fun d=>(show B4 d.1=(B4 d.1).bind fun r=>some (r.1,()) by unfold B4;cases decide (d.1.length≤281474976710656)<;>rfl).trans (by kernel_rfl))
def SL(s:ab):Bool:=s.all fun b=>decide (48≤b.toNat)&&decide (b.toNat≤57)
def Oe(s:ab):Int:=s.foldl (fun n b=>n * 10+((b.toNat:Int) - 48)) 0
def pD(s:ab):Option (Int×Bool×Unit):=
 bif !(SL s)||s.isEmpty then none else
 bif (decide (1<s.length)&&(s.headD 0==48))||decide (10<s.length) then some (0,false,()) else
 bif decide (2147483647<Oe s) then some (0,false,()) else some (Oe s,true,())
def TZ:iL:=Az [.str] [I,.bool] (fun d=>pD d.1) id
theorem VK:∀(s:ab) (n:Nat),SL s=true→∃ m:Nat,Lib.decFrom n s=some m∧(m:Int)=s.foldl (fun n b=>n * 10+((b.toNat:Int) - 48)) (n:Int)
 |[],n,_=>⟨n,rfl,rfl⟩
 |b::s,n,h=>by
  simp only[SL,bqa,Q3,bTa] at h;obtain⟨m,h1,h2⟩:=VK s (n * 10+(b.toNat - 48)) (by simpa only[SL] using h.2)
  refine⟨m,by simp only[Lib.decFrom,Lib.digitVal,h.1,aPa,ava];exact h1,h2.trans ?_⟩
  rw[b6a]
  congr 1
  omega
theorem Yp(s:ab)(h:SL s=true)(hs:s≠[]):Lib.atoi s=some (Oe s):=by
 obtain⟨m,h1,h2⟩:=VK s 0 h;cases s with
 |nil=>exact absurd rfl hs
 |cons b r=>
  have hb:48≤b.toNat:=by simp only[SL,bqa,Q3,bTa] at h;exact h.1.1
  have n1:(b==45)=false:=by simp only[Q6];rintro rfl;revert hb;decide
  have n2:(b==43)=false:=by simp only[Q6];rintro rfl;revert hb;decide
  show Lib.atoi (b::r)=_;simp only[Lib.atoi,n1,n2,Lib.decNat,h1,List.isEmpty_cons,asa,aka,bLa];exact bWa some h2
theorem SU:ld prog gt 127 TZ:=by
 refine⟨EH (ts:=[.str]) (rs:=[I,.bool]) (dec:=id) rfl rfl call127 fun d y w hg h=>?_,BH _ _ _ _,xW _ _ _ _⟩;obtain⟨s,u⟩:=d;have h:pD s=some y:=h;unfold pD at h;cases hd:SL s with
 |false=>rw[hd] at h;cases h
 |true=>
 cases s with
 |nil=>cases h
 |cons b r=>
 simp only[hd,cKa,List.isEmpty_cons,Bool.or_self,aoa,List.headD_cons] at h;have hs:0<(⟨⟨b::r⟩⟩:ByteArray).size:=Nat.succ_pos _;have h48:((⟨⟨b::r⟩⟩:ByteArray)[0]'hs).toNat=48↔(b==48)=true:=by rw[a_a];exact⟨fun hh=>UInt8.toNat_inj.1 hh,fun hh=>by subst hh;rfl⟩
 cases hb:decide (1<(b::r).length)&&(b==48)||decide (10<(b::r).length) with
 |true=>rw[hb] at h;cases h;refine(Np ⟨⟨b::r⟩⟩ w hs ?_).mono fun e w' ⟨h1,h2⟩=>⟨h1,h2 ▸ Go.RowKit.Below.refl _ _⟩;simp only[a6a,Q3,bTa] at hb;exact hb.imp (fun q=>⟨q.1,h48.2 q.2⟩) id
 |false=>
  rw[hb] at h;simp only[aGa,Bool.and_eq_false_iff,cna] at hb;have hl:¬ 10<(⟨⟨b::r⟩⟩:ByteArray).size:=hb.2;refine(LA ⟨⟨b::r⟩⟩ w hs (fun g1 g2=>?_) (by omega) _ (Yp (b::r) hd (by simp))).mono fun e w' ⟨h1,t,h2⟩=>?_
  ·rcases hb.1 with q|q
   ·exact q g1
   ·rw[h48.1 g2] at q;cases q
  ·have agb:Go.RowKit.Below w.heap.size w w':=by subst h2;exact⟨rfl,rfl,rfl,by rw[Lib.bytesWorld_size];omega,fun j hj=>Lib.bytesWorld_at_old w 5 t j hj⟩
   refine⟨?_,agb⟩;subst h1;cases hv:decide (2147483647<Oe (b::r)) with
   |true=>rw[hv] at h;cases h;rfl
   |false=>rw[hv] at h;cases h;rfl
def Sz:Cl bw:=⟨_,_,SU⟩
end
end Go.Fx.R5
namespace Go.Fx.R5
open Go Go.Fx Go.Proofs Go.Proofs.Tryz
noncomputable section
def eV(am:XT)(jz ab0:Int)(ce:ab):Option (Bool×Unit):=
 aa (fun(v:Bool)=>
  some (v,())) fun cJ=>
 bif decide ((bC (jz+ab0))<(am.length:Int)) then
  (bL am (bC (jz+ab0))).bind fun x1=>
  cJ (x1.2.2.1==ce)
 else
  cJ false
def mZ:Cl bw:=lO ⟨[],[],[]⟩ 129 f129 func129 call129 [500000] ⟨⟨33,[(126,5)],[lD 126 0 sT,lI 126 1,lI 126 2,lI 126 3,lF 126 4 tN],[rP 0 126,rI 1,rD 2 .str],[]⟩,[.ret [rD 500000 .bool] []],fun c v=>eV c.1 c.2.2.1 v.2.1 v.2.2.1⟩ []
def aG(am:XT)(jz:Int)(ce:ab):Option (Bool×Int×Unit):=
 (eV am jz 0 ce).bind fun r1=>
 bif !r1.1 then
  some (false,jz,())
 else
  some (true,(bC (jz+1)),())
def fO:Cl bw:=lO ⟨[mZ],[],[]⟩ 106 f106 func106 call106 [500000] ⟨⟨16,[(126,5)],[lD 126 0 sT,lI 126 1,lI 126 3,lF 126 4 tN],[rP 0 126,rD 1 .str,lI 126 2],[]⟩,[.ret [rD 500000 .bool,lI 126 2] []],fun c v=>aG c.1 v.2.2.1 v.2.1⟩ []
def dn(am:XT)(aE jz:Int):Option (Int×Unit):=
 bif decide (jz<(am.length:Int)) then
  (bL am jz).bind fun x1=>
  some (x1.2.1,())
 else
  some (aE,())
def eK:Cl bw:=lO ⟨[],[],[]⟩ 131 f131 func131 call131 [500000] ⟨⟨28,[(126,5)],[lD 126 0 sT,lI 126 1,lI 126 2,lI 126 3,lF 126 4 tN],[rP 0 126],[]⟩,[.ret [rI 500000] []],fun c v=>dn c.1 c.2.1 c.2.2.1⟩ []
def gZ(am:XT)(aE jz code:Int):Option (Int×Int×Unit):=
 (dn am aE jz).bind fun r1=>
 some (code,r1.1,())
def jA:Cl bw:=lO ⟨[eK],[],[]⟩ 112 f112 func112 call112 [] ⟨⟨10,[(126,5)],[lD 126 0 sT,lI 126 1,lI 126 2,lI 126 3,lF 126 4 tN],[rP 0 126,rI 1],[]⟩,[.AE 128 [I,I]],fun c v=>gZ c.1 c.2.1 c.2.2.1 v.2.1⟩ []
def iC(am:XT)(jz Ee:Int):Option (Bool×Unit):=
 aa (fun(v:Bool)=>
  some (v,())) fun cJ=>
 bif decide (jz<(am.length:Int)) then
  (bL am jz).bind fun x1=>
  cJ (x1.1==Ee)
 else
  cJ false
def mG:Cl bw:=lO ⟨[],[],[]⟩ 130 f130 func130 call130 [500000] ⟨⟨30,[(126,5)],[lD 126 0 sT,lI 126 1,lI 126 2,lI 126 3,lF 126 4 tN],[rP 0 126,rI 1],[]⟩,[.ret [rD 500000 .bool] []],fun c v=>iC c.1 c.2.2.1 v.2.1⟩ []
def dr(am:XT)(aE jz Ee:Int):Option ((((Int×Int×ab×Int)×Int×Unit)⊕(Int×Int×Unit))):=
 (iC am jz Ee).bind fun r1=>
 bif !r1.1 then
  (gZ am aE jz 6).bind fun r2=>
  some (.inr (r2.1,r2.2.1,()))
 else
  (bL am (bC ((bC (jz+1)) - 1))).bind fun x1=>
  some (.inl (x1,(bC (jz+1)),()))
def ib:Cl bw:=lO ⟨[jA,mG],[],[(4,110)]⟩ 107 f107 func107 call107 [500000] ⟨⟨29,[(126,5)],[lD 126 0 sT,lI 126 1,lI 126 3,lF 126 4 tN],[rP 0 126,rI 1,lI 126 2],[]⟩,[.ret [rD 500000 tT,lI 126 2] [],.AE 128 [I,I]],fun c v=>dr c.1 c.2.1 v.2.2.1 v.2.1⟩ []
def a8(am:XT)(aE jz:Int)(ce:ab):Option (((Int×Unit)⊕(Int×Int×Unit))):=
 (aG am jz ce).bind fun r1=>
 bif !r1.1 then
  (gZ am aE r1.2.1 6).bind fun r2=>
  some (.inr (r2.1,r2.2.1,()))
 else
  some (.inl (r1.2.1,()))
def gQ:Cl bw:=lO ⟨[fO,jA],[],[]⟩ 108 f108 func108 call108 [] ⟨⟨10,[(126,5)],[lD 126 0 sT,lI 126 1,lI 126 3,lF 126 4 tN],[rP 0 126,rD 1 .str,lI 126 2],[]⟩,[.ret [lI 126 2] [],.AE 128 [I,I]],fun c v=>a8 c.1 c.2.1 v.2.2.1 v.2.1⟩ []
def bH(aA:XN)(nZ:Int×Int×Int×ab×XI):Option (Int×XN×Unit):=
 (bE aA ([nZ])).bind fun l=>
 some ((bC ((l.length:Int) - 1)),l,())
def dL:Cl bw:=lO ⟨[],[],[(3,47)]⟩ 109 f109 func109 call109 [500000] ⟨⟨21,[(126,5)],[lD 126 0 sT,lI 126 1,lI 126 2,lI 126 3],[rP 0 126,rD 1 tN,lF 126 4 tN],[]⟩,[.ret [rI 500000,lF 126 4 tN] []],fun c v=>bH v.2.2.1 v.2.1⟩ []
def fd(am:XT)(aE jz:Int)(aA:XN)(Ee:Int):Option (((Int×Int×XN×Unit)⊕(Int×Int×Unit))):=
 (dr am aE jz 1).bind fun r=>match r with
 |.inl r1=>
  (bH aA (Ee,r1.1.2.1,0,r1.1.2.2.1,[])).bind fun r3=>
  some (.inl (r3.1,r1.2.1,r3.2.1,()))
 |.inr r2=>
  some (.inr (r2.1,r2.2.1,()))
def rT:Cl bw:=lO ⟨[ib,dL],[],[(5,110)]⟩ 110 f110 func110 call110 [500000] ⟨⟨16,[(126,5)],[lD 126 0 sT,lI 126 1,lI 126 3],[rP 0 126,rI 1,lI 126 2,lF 126 4 tN],[]⟩,[.ret [rI 500000,lI 126 2,lF 126 4 tN] [],.AE 128 [I,I]],fun c v=>fd c.1 c.2.1 v.2.2.1 v.2.2.2.1 v.2.1⟩ []
def fR(am:XT)(aE jz depth:Int):Option (((Int×Unit)⊕(Int×Int×Unit))):=
 bif decide ((bC (depth+1)) > 10) then
  (gZ am aE jz 7).bind fun r1=>
  some (.inr (r1.1,r1.2.1,()))
 else
  some (.inl ((bC (depth+1)),()))
def lr:Cl bw:=lO ⟨[jA],[],[]⟩ 132 f132 func132 call132 [] ⟨⟨16,[(126,5)],[lD 126 0 sT,lI 126 1,lI 126 2,lF 126 4 tN],[rP 0 126,lI 126 3],[]⟩,[.ret [lI 126 3] [],.AE 128 [I,I]],fun c v=>fR c.1 c.2.1 c.2.2.1 v.2.1⟩ []
def mI(q:Nat):Nat→ab→XS→Int→Option (((Unit)⊕(Int×Unit)))
 |0,_,_,_=>none
 |k+1,T2,t51,t61=>
  bif decide (t61<14) then
   (bL t51 t61).bind fun b=>
   aa (fun(v:Bool)=>
    bif v then
     some (.inr (t61,()))
    else
     mI q k T2 t51 (bC (t61+1))) fun cJ=>
   bif decide (t61 > 0) then
    cJ (b==T2)
   else
    cJ false
  else
   some (.inl ())
def EX(k:Nat)(xM:ab):Option (Int×Unit):=
 (mI k k xM OG 0).bind fun r=>match r with
 |.inl o=>
  some (0,())
 |.inr o2=>
  some (o2.1,())
def Ei(k:Nat):mS:=⟨⟨19,[],[rD 0 .str,rD 5 (.arr 14 .str)],[rI 6],[]⟩,[.ex (.exit 0) [],.ex .ret [rI 2]],fun q c v=>mI k q c.1 c.2.1 v.1⟩
def Km(k:Nat):Ev bw:=⟨[],[lp 0 (Ei k) k],[]⟩
def Mi(k q:Nat):Cd bw:=oM (Km k) f178 0 (Ei k) q []
def Sy(k:Nat):Cl bw:=zp (Km k) 178 f178 func178 call178 [.str] [I] (fun d=>EX k d.1) [Mi k k]
def xE(op:Int):Option (Int×Unit):=
 bif op==7 then
  some (1,())
 else
  bif op==8 then
   some (2,())
  else
   bif op==6 then
    some (3,())
   else
    aa (fun(v:Bool)=>
     bif v then
      some (4,())
     else
      aa (fun(v2:Bool)=>
       bif v2 then
        some (5,())
       else
        some (6,())) fun jf=>
      bif op==1 then
       jf (op==1)
      else
       bif op==2 then
        jf (op==2)
       else
        bif op==11 then
         jf (op==11)
        else
         jf (op==12)) fun cJ=>
    bif op==9 then
     cJ (op==9)
    else
     cJ (op==10)
def Mw:Cl bw:=zp ⟨[],[],[]⟩ 179 f179 func179 call179 [I] [I] (fun d=>xE d.1) []
abbrev iA:=XT→Int→Int→Int→XN→Int→Option (((Int×Int×Int×XN×Unit)⊕(Int×Int×Unit)))
def pq(f:iA):CF:=⟨⟨67,[(126,5)],[lD 126 0 sT,lI 126 1],[rP 0 126,rI 1,lI 126 2,lI 126 3,lF 126 4 tN],[]⟩,[.ret [rI 500000,lI 126 2,lI 126 3,lF 126 4 tN] [],.AE 128 [I,I]],fun c v=>f c.1 c.2.1 v.2.2.1 v.2.2.2.1 v.2.2.2.2.1 v.2.1⟩
def yn(f:iA):iL:=mg (pq f).L (pq f).F (zJ [500000] (pq f).V)
abbrev ia:=XT→Int→Int→Int→XN→Option (((Int×Int×Int×XN×Unit)⊕(Int×Int×Unit)))
def oH(f:ia):CF:=⟨⟨35,[(126,5)],[lD 126 0 sT,lI 126 1],[rP 0 126,lI 126 2,lI 126 3,lF 126 4 tN],[]⟩,[.ret [rI 500000,lI 126 2,lI 126 3,lF 126 4 tN] [],.AE 128 [I,I]],fun c v=>f c.1 c.2.1 v.2.1 v.2.2.1 v.2.2.2.1⟩
def wW(f:ia):iL:=mg (oH f).L (oH f).F (zJ [500000] (oH f).V)
abbrev gb:=XT→Int→Int→Int→XN→Option (((Int×Int×Int×XN×Unit)⊕(Int×Int×Unit)))
def nD(f:gb):CF:=⟨⟨78,[(126,5)],[lD 126 0 sT,lI 126 1],[rP 0 126,lI 126 2,lI 126 3,lF 126 4 tN],[]⟩,[.ret [rI 500000,lI 126 2,lI 126 3,lF 126 4 tN] [],.AE 128 [I,I]],fun c v=>f c.1 c.2.1 v.2.1 v.2.2.1 v.2.2.2.1⟩
def uT(f:gb):iL:=mg (nD f).L (nD f).F (zJ [500000] (nD f).V)
def dV(bG:iA)(bO:ia)(bM:gb)(q:Nat):Nat→XT→Int→Int→Int→Int→XN→Int→Option (((Int×Int×XN×Int×Unit)⊕(Int×Int×Unit)))
 |0,_,_,_,_,_,_,_=>none
 |k+1,cV,fY,UO,tX,oQ,b9,left=>
  bif decide (tX<(cV.length:Int)) then
   (bL cV tX).bind fun x1=>
   (EX q x1.2.2.1).bind fun r5=>
   aa (fun(v:Bool)=>
    bif v then
     some (.inl (tX,oQ,b9,left,()))
    else
     (dn cV fY tX).bind fun r7=>
     (bG cV fY (bC (tX+1)) oQ b9 (bC (UO+1))).bind fun r=>match r with
     |.inl r8=>
      (bH r8.2.2.2.1 (28,r7.1,r5.1,([]:ab),[left,r8.1])).bind fun kC=>
      dV bG bO bM q k cV fY UO r8.2.1 r8.2.2.1 kC.2.1 kC.1
     |.inr r9=>
      some (.inr (r9.1,r9.2.1,()))) fun cJ=>
   bif r5.1==0 then
    cJ true
   else
    (xE r5.1).bind fun r6=>
    cJ (r6.1 != UO)
  else
   some (.inl (tX,oQ,b9,left,()))
def iD(bG:iA)(bO:ia)(bM:gb)(k:Nat)(am:XT)(aE jz depth:Int)(aA:XN)(wu:Int):Option (((Int×Int×Int×XN×Unit)⊕(Int×Int×Unit))):=
 bif decide (wu > 6) then
  (bO am aE jz depth aA).bind fun r=>match r with
  |.inl r1=>
   some (.inl (r1.1,r1.2.1,r1.2.2.1,r1.2.2.2.1,()))
  |.inr r2=>
   some (.inr (r2.1,r2.2.1,()))
 else
  (bG am aE jz depth aA (bC (wu+1))).bind fun r=>match r with
  |.inl r3=>
   (dV bG bO bM k k am aE wu r3.2.1 r3.2.2.1 r3.2.2.2.1 r3.1).bind fun r=>match r with
   |.inl o=>
    some (.inl (o.2.2.2.1,o.1,o.2.1,o.2.2.1,()))
   |.inr o2=>
    some (.inr (o2.1,o2.2.1,()))
  |.inr r4=>
   some (.inr (r4.1,r4.2.1,()))
def ie(bG:iA)(bO:ia)(bM:gb)(k:Nat)(am:XT)(aE jz depth:Int)(aA:XN):Option (((Int×Int×Int×XN×Unit)⊕(Int×Int×Unit))):=
 (dn am aE jz).bind fun r1=>
 (aG am jz ([45]:ab)).bind fun r2=>
 bif !r2.1 then
  (bM am aE r2.2.1 depth aA).bind fun r=>match r with
  |.inl r3=>
   some (.inl (r3.1,r3.2.1,r3.2.2.1,r3.2.2.2.1,()))
  |.inr r4=>
   some (.inr (r4.1,r4.2.1,()))
 else
  (fR am aE r2.2.1 depth).bind fun r=>match r with
  |.inl r5=>
   (bH aA (24,r1.1,0,([]:ab),[])).bind fun r7=>
   (bO am aE r2.2.1 r5.1 r7.2.1).bind fun r=>match r with
   |.inl r8=>
    (bH r8.2.2.2.1 (28,r1.1,2,([]:ab),[r7.1,r8.1])).bind fun kC=>
    some (.inl (kC.1,r8.2.1,(bC (r8.2.2.1 - 1)),kC.2.1,()))
   |.inr r9=>
    some (.inr (r9.1,r9.2.1,()))
  |.inr r6=>
   some (.inr (r6.1,r6.2.1,()))
def bV(bG:iA)(bO:ia)(bM:gb)(k:Nat)(am:XT)(aE jz depth:Int)(aA:XN):Option (((Int×Int×Int×XN×Unit)⊕(Int×Int×Unit))):=
 (dn am aE jz).bind fun r1=>
 (iC am jz 2).bind fun r2=>
 bif r2.1 then
  (dr am aE jz 2).bind fun r=>match r with
  |.inl r3=>
   (bH aA (24,r1.1,r3.1.2.2.2,([]:ab),[])).bind fun r5=>
   some (.inl (r5.1,r3.2.1,depth,r5.2.1,()))
  |.inr r4=>
   some (.inr (r4.1,r4.2.1,()))
 else
  (aG am jz ([42]:ab)).bind fun r6=>
  bif r6.1 then
   (dr am aE r6.2.1 1).bind fun r=>match r with
   |.inl r7=>
    (bH aA (27,r1.1,0,r7.1.2.2.1,[])).bind fun r9=>
    some (.inl (r9.1,r7.2.1,depth,r9.2.1,()))
   |.inr r8=>
    some (.inr (r8.1,r8.2.1,()))
  else
   (aG am r6.2.1 ([40]:ab)).bind fun kC=>
   bif kC.1 then
    (fR am aE kC.2.1 depth).bind fun r=>match r with
    |.inl oc=>
     (bG am aE kC.2.1 oc.1 aA 1).bind fun r=>match r with
     |.inl p7=>
      (a8 am aE p7.2.1 ([41]:ab)).bind fun r=>match r with
      |.inl qW=>
       some (.inl (p7.1,qW.1,(bC (p7.2.2.1 - 1)),p7.2.2.2.1,()))
      |.inr th=>
       some (.inr (th.1,th.2.1,()))
     |.inr rY=>
      some (.inr (rY.1,rY.2.1,()))
    |.inr pf=>
     some (.inr (pf.1,pf.2.1,()))
   else
    (dr am aE kC.2.1 1).bind fun r=>match r with
    |.inl vA=>
     (aG am vA.2.1 ([91]:ab)).bind fun qX=>
     bif !qX.1 then
      (bH aA (25,r1.1,0,vA.1.2.2.1,[])).bind fun vB=>
      some (.inl (vB.1,qX.2.1,depth,vB.2.1,()))
     else
      (fR am aE qX.2.1 depth).bind fun r=>match r with
      |.inl y8=>
       (bG am aE qX.2.1 y8.1 aA 1).bind fun r=>match r with
       |.inl I3=>
        (a8 am aE I3.2.1 ([93]:ab)).bind fun r=>match r with
        |.inl r25=>
         (bH I3.2.2.2.1 (26,r1.1,0,vA.1.2.2.1,[I3.1])).bind fun r27=>
         some (.inl (r27.1,r25.1,(bC (I3.2.2.1 - 1)),r27.2.1,()))
        |.inr r26=>
         some (.inr (r26.1,r26.2.1,()))
       |.inr Jk=>
        some (.inr (Jk.1,Jk.2.1,()))
      |.inr Kf=>
       some (.inr (Kf.1,Kf.2.1,()))
    |.inr rW=>
     some (.inr (rW.1,rW.2.1,()))
def dB:Nat→iA×ia×gb
 |0=>(fun _ _ _ _ _ _=>none,fun _ _ _ _ _=>none,fun _ _ _ _ _=>none)
 |k+1=>(iD (dB k).1 (dB k).2.1 (dB k).2.2 k,ie (dB k).1 (dB k).2.1 (dB k).2.2 k,bV (dB k).1 (dB k).2.1 (dB k).2.2 k)
def ak(k:Nat):iA:=(dB k).1
def fJ(k:Nat):ia:=(dB k).2.1
def gj(k:Nat):gb:=(dB k).2.2
section
variable (bG:Gd bw 166 yn) (bO:Gd bw 177 wW) (bM:Gd bw 184 uT)
def uZ(k:Nat):mS:=⟨⟨67,[(126,5)],[lD 126 0 sT,lI 126 1,rP 0 126,rI 1],[lI 126 2,lI 126 3,lF 126 4 tN,rI 5],[]⟩,[.ex (.exit 0) [lI 126 2,lI 126 3,lF 126 4 tN,rI 5],.AE 128 [I,I]],fun q c v=>dV bG.1 bO.1 bM.1 k q c.1 c.2.1 c.2.2.2.1 v.1 v.2.1 v.2.2.1 v.2.2.2.1⟩
def ye(k:Nat):Ev bw:=⟨[dL,eK,bG.cl,bO.cl,Sy k,Mw],[lp 0 (uZ bG bO bM k) k],[]⟩
def Dh(k q:Nat):Cd bw:=oM (ye bG bO bM k) f166 0 (uZ bG bO bM k) q []
def G8(k:Nat):Cl bw:=lO (ye bG bO bM k) 166 f166 func166 call166 [500000] (pq (iD bG.1 bO.1 bM.1 k)) [Dh bG bO bM k k]
def FH(k:Nat):Cl bw:=lO ⟨[fO,dL,eK,lr,bO.cl,bM.cl],[],[]⟩ 177 f177 func177 call177 [500000] (oH (ie bG.1 bO.1 bM.1 k)) []
def Dq(k:Nat):Cl bw:=lO ⟨[fO,ib,gQ,dL,mG,eK,lr,bG.cl],[],[(5,110)]⟩ 184 f184 func184 call184 [500000] (nD (bV bG.1 bO.1 bM.1 k)) []
end
theorem lQ:∀ k,ld prog gt 166 (yn (ak k))∧ld prog gt 177 (wW (fJ k))∧ld prog gt 184 (uT (gj k))
 |0=>⟨cU (fun _ _=>rfl),cU (fun _ _=>rfl),cU (fun _ _=>rfl)⟩
 |k+1=>have ih:=lQ k;⟨(G8 ⟨_,ih.1⟩ ⟨_,ih.2.1⟩ ⟨_,ih.2.2⟩ k).ok,(FH ⟨_,ih.1⟩ ⟨_,ih.2.1⟩ ⟨_,ih.2.2⟩ k).ok,(Dq ⟨_,ih.1⟩ ⟨_,ih.2.1⟩ ⟨_,ih.2.2⟩ k).ok⟩
def m6(k:Nat):Cl bw:=⟨_,_,(lQ k).1⟩
def Ul(k:Nat):Cl bw:=⟨_,_,(lQ k).2.1⟩
def Sb(k:Nat):Cl bw:=⟨_,_,(lQ k).2.2⟩
def de(q:Nat):Nat→XT→Int→XI→Int→Int→XN→Option (((XI×Int×Int×XN×Unit)⊕(Int×Int×Unit)))
 |0,_,_,_,_,_,_=>none
 |k+1,cV,fY,abX,tX,oQ,b9=>
  (aG cV tX ([44]:ab)).bind fun qX=>
  bif qX.1 then
   (ak q cV fY qX.2.1 oQ b9 1).bind fun r=>match r with
   |.inl vB=>
    (bE abX ([vB.1])).bind fun l2=>
    de q k cV fY l2 vB.2.1 vB.2.2.1 vB.2.2.2.1
   |.inr y8=>
    some (.inr (y8.1,y8.2.1,()))
  else
   some (.inl (abX,qX.2.1,oQ,b9,()))
def ez(k:Nat)(am:XT)(aE jz depth:Int)(aA:XN):Option (((Int×XI×Int×Int×XN×Unit)⊕(Int×Int×Unit))):=
 (aG am jz ([38]:ab)).bind fun r1=>
 bif r1.1 then
  (fd am aE r1.2.1 aA 23).bind fun r=>match r with
  |.inl r2=>
   (a8 am aE r2.2.1 ([91]:ab)).bind fun r=>match r with
   |.inl r4=>
    (ak k am aE r4.1 depth r2.2.2.1 1).bind fun r=>match r with
    |.inl r6=>
     (a8 am aE r6.2.1 ([93]:ab)).bind fun r=>match r with
     |.inl r8=>
      some (.inl (12,[r2.1,r6.1],r8.1,r6.2.2.1,r6.2.2.2.1,()))
     |.inr r9=>
      some (.inr (r9.1,r9.2.1,()))
    |.inr r7=>
     some (.inr (r7.1,r7.2.1,()))
   |.inr r5=>
    some (.inr (r5.1,r5.2.1,()))
  |.inr r3=>
   some (.inr (r3.1,r3.2.1,()))
 else
  (iC am r1.2.1 1).bind fun kC=>
  aa (fun(v:Bool)=>
   bif v then
    (fd am aE r1.2.1 aA 23).bind fun r=>match r with
    |.inl pf=>
     (a8 am aE pf.2.1 ([40]:ab)).bind fun r=>match r with
     |.inl rY=>
      (aG am rY.1 ([41]:ab)).bind fun th=>
      bif th.1 then
       some (.inl (22,[pf.1],th.2.1,depth,pf.2.2.1,()))
      else
       (ak k am aE th.2.1 depth pf.2.2.1 1).bind fun r=>match r with
       |.inl vA=>
        (bE ([pf.1]) ([vA.1])).bind fun l=>
        (de k k am aE l vA.2.1 vA.2.2.1 vA.2.2.2.1).bind fun r=>match r with
        |.inl o=>
         (a8 am aE o.2.1 ([41]:ab)).bind fun r=>match r with
         |.inl qX=>
          some (.inl (22,o.1,qX.1,o.2.2.1,o.2.2.2.1,()))
         |.inr vB=>
          some (.inr (vB.1,vB.2.1,()))
        |.inr o2=>
         some (.inr (o2.1,o2.2.1,()))
       |.inr rW=>
        some (.inr (rW.1,rW.2.1,()))
     |.inr qW=>
      some (.inr (qW.1,qW.2.1,()))
    |.inr p7=>
     some (.inr (p7.1,p7.2.1,()))
   else
    (eV am r1.2.1 0 ([110,117,108,108]:ab)).bind fun y8=>
    bif y8.1 then
     (dn am aE r1.2.1).bind fun Kf=>
     (bH aA (29,Kf.1,0,([]:ab),[])).bind fun I3=>
     some (.inl (9,[I3.1],(bC (r1.2.1+1)),depth,I3.2.1,()))
    else
     (ak k am aE r1.2.1 depth aA 1).bind fun r=>match r with
     |.inl Jk=>
      some (.inl (9,[Jk.1],Jk.2.1,Jk.2.2.1,Jk.2.2.2.1,()))
     |.inr r25=>
      some (.inr (r25.1,r25.2.1,()))) fun cJ=>
  bif kC.1 then
   (eV am r1.2.1 1 ([40]:ab)).bind fun oc=>
   cJ oc.1
  else
   cJ false
def ur(k:Nat):mS:=⟨⟨101,[(47,5),(126,5)],[lI 47 0,lI 47 1,lI 47 2,lD 47 3 .str,lD 126 0 sT,lI 126 1,rP 0 126,rP 1 47],[lF 47 4 I,lI 126 2,lI 126 3,lF 126 4 tN],[]⟩,[.ex (.exit 1) [lF 47 4 I,lI 126 2,lI 126 3,lF 126 4 tN],.AE 128 [I,I]],fun q c v=>de k q c.2.2.2.2.1 c.2.2.2.2.2.1 v.1 v.2.1 v.2.2.1 v.2.2.2.1⟩
def wT(k:Nat):Ev bw:=⟨[fO,gQ,dL,rT,mZ,mG,eK,m6 k],[lp 1 (ur k) k],[]⟩
def BN(k q:Nat):Cd bw:=oM (wT k) f176 1 (ur k) q []
def FA(k:Nat):Cl bw:=lO (wT k) 176 f176 func176 call176 [] ⟨⟨101,[(126,5),(47,5)],[lD 126 0 sT,lI 126 1,lI 47 1,lI 47 2,lD 47 3 .str],[rP 0 126,rP 1 47,lI 126 2,lI 126 3,lF 126 4 tN,lI 47 0,lF 47 4 I],[]⟩,[.ret [lI 47 0,lF 47 4 I,lI 126 2,lI 126 3,lF 126 4 tN] [],.AE 128 [I,I]],fun c v=>ez k c.1 c.2.1 v.2.2.1 v.2.2.2.1 v.2.2.2.2.1⟩ [BN k k]
def cw(k:Nat)(am:XT)(aE jz depth:Int)(aA:XN):Option (((Int×Int×Int×XN×Unit)⊕(Int×Int×Unit))):=
 (dr am aE jz 1).bind fun r=>match r with
 |.inl r1=>
  aa (fun(jv:Int×Int×XN×Int×XI)=>
   (a8 am aE (jv.1) ([59]:ab)).bind fun r=>match r with
   |.inl qX=>
    (bH (jv.2.2.1) ((jv.2.2.2.1),r1.1.2.1,0,r1.1.2.2.1,(jv.2.2.2.2))).bind fun y8=>
    some (.inl (y8.1,qX.1,(jv.2.1),y8.2.1,()))
   |.inr vB=>
    some (.inr (vB.1,vB.2.1,()))) fun cJ=>
  (aG am r1.2.1 ([61]:ab)).bind fun r3=>
  bif r3.1 then
   (ez k am aE r3.2.1 depth aA).bind fun r=>match r with
   |.inl r4=>
    cJ (r4.2.2.1,r4.2.2.2.1,r4.2.2.2.2.1,r4.1,r4.2.1)
   |.inr r5=>
    some (.inr (r5.1,r5.2.1,()))
  else
   (aG am r3.2.1 ([43,61]:ab)).bind fun r6=>
   bif r6.1 then
    (ak k am aE r6.2.1 depth aA 1).bind fun r=>match r with
    |.inl r7=>
     cJ (r7.2.1,r7.2.2.1,r7.2.2.2.1,13,[r7.1])
    |.inr r8=>
     some (.inr (r8.1,r8.2.1,()))
   else
    (aG am r6.2.1 ([91]:ab)).bind fun r9=>
    bif r9.1 then
     (ak k am aE r9.2.1 depth aA 1).bind fun r=>match r with
     |.inl kC=>
      (a8 am aE kC.2.1 ([93]:ab)).bind fun r=>match r with
      |.inl pf=>
       (a8 am aE pf.1 ([61]:ab)).bind fun r=>match r with
       |.inl rY=>
        (ak k am aE rY.1 kC.2.2.1 kC.2.2.2.1 1).bind fun r=>match r with
        |.inl th=>
         cJ (th.2.1,th.2.2.1,th.2.2.2.1,10,[kC.1,th.1])
        |.inr vA=>
         some (.inr (vA.1,vA.2.1,()))
       |.inr qW=>
        some (.inr (qW.1,qW.2.1,()))
      |.inr p7=>
       some (.inr (p7.1,p7.2.1,()))
     |.inr oc=>
      some (.inr (oc.1,oc.2.1,()))
    else
     (gZ am aE r9.2.1 6).bind fun rW=>
     some (.inr (rW.1,rW.2.1,()))
 |.inr r2=>
  some (.inr (r2.1,r2.2.1,()))
def Dn(k:Nat):Cl bw:=lO ⟨[fO,ib,gQ,dL,jA,m6 k,FA k],[],[(3,110),(4,47)]⟩ 165 f165 func165 call165 [500000] ⟨⟨48,[(126,5)],[lD 126 0 sT,lI 126 1],[rP 0 126,lI 126 2,lI 126 3,lF 126 4 tN],[]⟩,[.ret [rI 500000,lI 126 2,lI 126 3,lF 126 4 tN] [],.AE 128 [I,I]],fun c v=>cw k c.1 c.2.1 v.2.1 v.2.2.1 v.2.2.2.1⟩ []
def lh(q:Nat):Nat→ab→XS→Int→Option (((Unit)⊕(Int×Unit)))
 |0,_,_,_=>none
 |k+1,T2,t51,t61=>
  bif decide (t61<7) then
   (bL t51 t61).bind fun b=>
   aa (fun(v:Bool)=>
    bif v then
     some (.inr (t61,()))
    else
     lh q k T2 t51 (bC (t61+1))) fun cJ=>
   bif decide (t61 > 0) then
    cJ (b==T2)
   else
    cJ false
  else
   some (.inl ())
def Cc(k:Nat)(xM:ab):Option (Int×Unit):=
 (lh k k xM gl4 0).bind fun r=>match r with
 |.inl o=>
  some (0,())
 |.inr o2=>
  some (o2.1,())
def C0(k:Nat):mS:=⟨⟨19,[],[rD 0 .str,rD 5 (.arr 7 .str)],[rI 6],[]⟩,[.ex (.exit 0) [],.ex .ret [rI 2]],fun q c v=>lh k q c.1 c.2.1 v.1⟩
def HT(k:Nat):Ev bw:=⟨[],[lp 0 (C0 k) k],[]⟩
def KO(k q:Nat):Cd bw:=oM (HT k) f189 0 (C0 k) q []
def QH(k:Nat):Cl bw:=zp (HT k) 189 f189 func189 call189 [.str] [I] (fun d=>Cc k d.1) [KO k k]
end
end Go.Fx.R5
namespace Go.Fx.R5
open Go Go.Fx Go.Proofs Go.Proofs.Tryz
noncomputable section
abbrev gO:=XT→Int→Int→Int→XN→Option (((Int×Int×Int×XN×Unit)⊕(Int×Int×Unit)))
def po(f:gO):CF:=⟨⟨27,[(126,5)],[lD 126 0 sT,lI 126 1],[rP 0 126,lI 126 2,lI 126 3,lF 126 4 tN],[]⟩,[.ret [rI 500000,lI 126 2,lI 126 3,lF 126 4 tN] [],.AE 128 [I,I]],fun c v=>f c.1 c.2.1 v.2.1 v.2.2.1 v.2.2.2.1⟩
def yl(f:gO):iL:=mg (po f).L (po f).F (zJ [500000] (po f).V)
abbrev gN:=XT→Int→Int→Int→XN→Option (((Int×Int×Int×XN×Unit)⊕(Int×Int×Unit)))
def pm(f:gN):CF:=⟨⟨27,[(126,5)],[lD 126 0 sT,lI 126 1],[rP 0 126,lI 126 2,lI 126 3,lF 126 4 tN],[]⟩,[.ret [rI 500000,lI 126 2,lI 126 3,lF 126 4 tN] [],.AE 128 [I,I]],fun c v=>f c.1 c.2.1 v.2.1 v.2.2.1 v.2.2.2.1⟩
def yk(f:gN):iL:=mg (pm f).L (pm f).F (zJ [500000] (pm f).V)
abbrev gP:=XT→Int→Int→Int→XN→Option (((Int×Int×Int×XN×Unit)⊕(Int×Int×Unit)))
def pp(f:gP):CF:=⟨⟨103,[(126,5)],[lD 126 0 sT,lI 126 1],[rP 0 126,lI 126 2,lI 126 3,lF 126 4 tN],[]⟩,[.ret [rI 500000,lI 126 2,lI 126 3,lF 126 4 tN] [],.AE 128 [I,I]],fun c v=>f c.1 c.2.1 v.2.1 v.2.2.1 v.2.2.2.1⟩
def ym(f:gP):iL:=mg (pp f).L (pp f).F (zJ [500000] (pp f).V)
def fB(aV:gO)(aP:gN)(aK:gP)(q:Nat):Nat→XT→Int→Int→Int→XN→Int→Option (((Int×Int×XN×Int×Unit)⊕(Int×Int×Unit)))
 |0,_,_,_,_,_,_=>none
 |k+1,cV,fY,tX,oQ,b9,left=>
  (eV cV tX 0 ([111,114]:ab)).bind fun r3=>
  bif r3.1 then
   (dn cV fY tX).bind fun r4=>
   (aP cV fY (bC (tX+1)) oQ b9).bind fun r=>match r with
   |.inl r5=>
    (bH r5.2.2.2.1 (32,r4.1,0,([]:ab),[left,r5.1])).bind fun r7=>
    fB aV aP aK q k cV fY r5.2.1 r5.2.2.1 r7.2.1 r7.1
   |.inr r6=>
    some (.inr (r6.1,r6.2.1,()))
  else
   some (.inl (tX,oQ,b9,left,()))
def kT(aV:gO)(aP:gN)(aK:gP)(k:Nat)(am:XT)(aE jz depth:Int)(aA:XN):Option (((Int×Int×Int×XN×Unit)⊕(Int×Int×Unit))):=
 (aP am aE jz depth aA).bind fun r=>match r with
 |.inl r1=>
  (fB aV aP aK k k am aE r1.2.1 r1.2.2.1 r1.2.2.2.1 r1.1).bind fun r=>match r with
  |.inl o=>
   some (.inl (o.2.2.2.1,o.1,o.2.1,o.2.2.1,()))
  |.inr o2=>
   some (.inr (o2.1,o2.2.1,()))
 |.inr r2=>
  some (.inr (r2.1,r2.2.1,()))
def fA(aV:gO)(aP:gN)(aK:gP)(q:Nat):Nat→XT→Int→Int→Int→XN→Int→Option (((Int×Int×XN×Int×Unit)⊕(Int×Int×Unit)))
 |0,_,_,_,_,_,_=>none
 |k+1,cV,fY,tX,oQ,b9,left=>
  (eV cV tX 0 ([97,110,100]:ab)).bind fun r3=>
  bif r3.1 then
   (dn cV fY tX).bind fun r4=>
   (aK cV fY (bC (tX+1)) oQ b9).bind fun r=>match r with
   |.inl r5=>
    (bH r5.2.2.2.1 (31,r4.1,0,([]:ab),[left,r5.1])).bind fun r7=>
    fA aV aP aK q k cV fY r5.2.1 r5.2.2.1 r7.2.1 r7.1
   |.inr r6=>
    some (.inr (r6.1,r6.2.1,()))
  else
   some (.inl (tX,oQ,b9,left,()))
def kS(aV:gO)(aP:gN)(aK:gP)(k:Nat)(am:XT)(aE jz depth:Int)(aA:XN):Option (((Int×Int×Int×XN×Unit)⊕(Int×Int×Unit))):=
 (aK am aE jz depth aA).bind fun r=>match r with
 |.inl r1=>
  (fA aV aP aK k k am aE r1.2.1 r1.2.2.1 r1.2.2.2.1 r1.1).bind fun r=>match r with
  |.inl o=>
   some (.inl (o.2.2.2.1,o.1,o.2.1,o.2.2.1,()))
  |.inr o2=>
   some (.inr (o2.1,o2.2.1,()))
 |.inr r2=>
  some (.inr (r2.1,r2.2.1,()))
def cG(aV:gO)(aP:gN)(aK:gP)(k:Nat)(am:XT)(aE jz depth:Int)(aA:XN):Option (((Int×Int×Int×XN×Unit)⊕(Int×Int×Unit))):=
 (dn am aE jz).bind fun r1=>
 (aG am jz ([110,111,116]:ab)).bind fun r2=>
 bif r2.1 then
  (fR am aE r2.2.1 depth).bind fun r=>match r with
  |.inl r3=>
   (aK am aE r2.2.1 r3.1 aA).bind fun r=>match r with
   |.inl r5=>
    (bH r5.2.2.2.1 (33,r1.1,0,([]:ab),[r5.1])).bind fun r7=>
    some (.inl (r7.1,r5.2.1,(bC (r5.2.2.1 - 1)),r7.2.1,()))
   |.inr r6=>
    some (.inr (r6.1,r6.2.1,()))
  |.inr r4=>
   some (.inr (r4.1,r4.2.1,()))
 else
  (aG am r2.2.1 ([91]:ab)).bind fun r8=>
  bif r8.1 then
   (fR am aE r8.2.1 depth).bind fun r=>match r with
   |.inl r9=>
    (aV am aE r8.2.1 r9.1 aA).bind fun r=>match r with
    |.inl oc=>
     (a8 am aE oc.2.1 ([93]:ab)).bind fun r=>match r with
     |.inl p7=>
      some (.inl (oc.1,p7.1,(bC (oc.2.2.1 - 1)),oc.2.2.2.1,()))
     |.inr rY=>
      some (.inr (rY.1,rY.2.1,()))
    |.inr pf=>
     some (.inr (pf.1,pf.2.1,()))
   |.inr kC=>
    some (.inr (kC.1,kC.2.1,()))
  else
   (aG am r8.2.1 ([110,117,108,108]:ab)).bind fun qW=>
   bif qW.1 then
    (dr am aE qW.2.1 1).bind fun r=>match r with
    |.inl th=>
     (bH aA (34,r1.1,0,th.1.2.2.1,[])).bind fun rW=>
     some (.inl (rW.1,th.2.1,depth,rW.2.1,()))
    |.inr vA=>
     some (.inr (vA.1,vA.2.1,()))
   else
    (ak k am aE qW.2.1 depth aA 1).bind fun r=>match r with
    |.inl qX=>
     (dn am aE qX.2.1).bind fun y8=>
     aa (fun(cmp:Int)=>
      bif cmp==0 then
       (gZ am aE qX.2.1 6).bind fun I3=>
       some (.inr (I3.1,I3.2.1,()))
      else
       (ak k am aE (bC (qX.2.1+1)) qX.2.2.1 qX.2.2.2.1 1).bind fun r=>match r with
       |.inl Jk=>
        (bH Jk.2.2.2.1 (30,y8.1,cmp,([]:ab),[qX.1,Jk.1])).bind fun r26=>
        some (.inl (r26.1,Jk.2.1,Jk.2.2.1,r26.2.1,()))
       |.inr r25=>
        some (.inr (r25.1,r25.2.1,()))) fun cJ=>
     bif decide (qX.2.1<(am.length:Int)) then
      (bL am qX.2.1).bind fun x1=>
      (Cc k x1.2.2.1).bind fun Kf=>
      cJ Kf.1
     else
      cJ 0
    |.inr vB=>
     some (.inr (vB.1,vB.2.1,()))
def dA:Nat→gO×gN×gP
 |0=>(fun _ _ _ _ _=>none,fun _ _ _ _ _=>none,fun _ _ _ _ _=>none)
 |k+1=>(kT (dA k).1 (dA k).2.1 (dA k).2.2 k,kS (dA k).1 (dA k).2.1 (dA k).2.2 k,cG (dA k).1 (dA k).2.1 (dA k).2.2 k)
def dQ(k:Nat):gO:=(dA k).1
def eU(k:Nat):gN:=(dA k).2.1
def dR(k:Nat):gP:=(dA k).2.2
section
variable (aV:Gd bw 167 yl) (aP:Gd bw 180 yk) (aK:Gd bw 185 ym)
def uY(k:Nat):mS:=⟨⟨27,[(126,5)],[lD 126 0 sT,lI 126 1,rP 0 126],[lI 126 2,lI 126 3,lF 126 4 tN,rI 3],[]⟩,[.ex (.exit 0) [lI 126 2,lI 126 3,lF 126 4 tN,rI 3],.AE 128 [I,I]],fun q c v=>fB aV.1 aP.1 aK.1 k q c.1 c.2.1 v.1 v.2.1 v.2.2.1 v.2.2.2.1⟩
def yd(k:Nat):Ev bw:=⟨[dL,mZ,eK,aP.cl],[lp 0 (uY aV aP aK k) k],[]⟩
def Dg(k q:Nat):Cd bw:=oM (yd aV aP aK k) f167 0 (uY aV aP aK k) q []
def G0(k:Nat):Cl bw:=lO (yd aV aP aK k) 167 f167 func167 call167 [500000] (po (kT aV.1 aP.1 aK.1 k)) [Dg aV aP aK k k]
def uX(k:Nat):mS:=⟨⟨27,[(126,5)],[lD 126 0 sT,lI 126 1,rP 0 126],[lI 126 2,lI 126 3,lF 126 4 tN,rI 3],[]⟩,[.ex (.exit 0) [lI 126 2,lI 126 3,lF 126 4 tN,rI 3],.AE 128 [I,I]],fun q c v=>fA aV.1 aP.1 aK.1 k q c.1 c.2.1 v.1 v.2.1 v.2.2.1 v.2.2.2.1⟩
def xZ(k:Nat):Ev bw:=⟨[dL,mZ,eK,aK.cl],[lp 0 (uX aV aP aK k) k],[]⟩
def Df(k q:Nat):Cd bw:=oM (xZ aV aP aK k) f180 0 (uX aV aP aK k) q []
def GZ(k:Nat):Cl bw:=lO (xZ aV aP aK k) 180 f180 func180 call180 [500000] (pm (kS aV.1 aP.1 aK.1 k)) [Df aV aP aK k k]
def G6(k:Nat):Cl bw:=lO ⟨[fO,ib,gQ,dL,jA,eK,lr,m6 k,aV.cl,aK.cl,QH k],[],[]⟩ 185 f185 func185 call185 [500000] (pp (cG aV.1 aP.1 aK.1 k)) []
end
theorem lP:∀ k,ld prog gt 167 (yl (dQ k))∧ld prog gt 180 (yk (eU k))∧ld prog gt 185 (ym (dR k))
 |0=>⟨cU (fun _ _=>rfl),cU (fun _ _=>rfl),cU (fun _ _=>rfl)⟩
 |k+1=>have ih:=lP k;⟨(G0 ⟨_,ih.1⟩ ⟨_,ih.2.1⟩ ⟨_,ih.2.2⟩ k).ok,(GZ ⟨_,ih.1⟩ ⟨_,ih.2.1⟩ ⟨_,ih.2.2⟩ k).ok,(G6 ⟨_,ih.1⟩ ⟨_,ih.2.1⟩ ⟨_,ih.2.2⟩ k).ok⟩
def GR(k:Nat):Cl bw:=⟨_,_,(lP k).1⟩
def Uu(k:Nat):Cl bw:=⟨_,_,(lP k).2.1⟩
def Uv(k:Nat):Cl bw:=⟨_,_,(lP k).2.2⟩
abbrev dY:=XT→Int→Int→Int→XN→Int→Option (((Int×Int×Int×XN×Unit)⊕(Int×Int×Unit)))
def lc(f:dY):CF:=⟨⟨26,[(126,5)],[lD 126 0 sT,lI 126 1],[rP 0 126,rI 1,lI 126 2,lI 126 3,lF 126 4 tN],[]⟩,[.ret [rI 500000,lI 126 2,lI 126 3,lF 126 4 tN] [],.AE 128 [I,I]],fun c v=>f c.1 c.2.1 v.2.2.1 v.2.2.2.1 v.2.2.2.2.1 v.2.1⟩
def sf(f:dY):iL:=mg (lc f).L (lc f).F (zJ [500000] (lc f).V)
abbrev ey:=XT→Int→Int→Int→XN→Option (((Int×Int×Int×XN×Unit)⊕(Int×Int×Unit)))
def lL(f:ey):CF:=⟨⟨128,[(126,5)],[lD 126 0 sT,lI 126 1],[rP 0 126,lI 126 2,lI 126 3,lF 126 4 tN],[]⟩,[.ret [rI 500000,lI 126 2,lI 126 3,lF 126 4 tN] [],.AE 128 [I,I]],fun c v=>f c.1 c.2.1 v.2.1 v.2.2.1 v.2.2.2.1⟩
def tH(f:ey):iL:=mg (lL f).L (lL f).F (zJ [500000] (lL f).V)
abbrev gg:=XT→Int→Int→Int→XN→Option (((Int×Int×Int×XN×Unit)⊕(Int×Int×Unit)))
def oG(f:gg):CF:=⟨⟨13,[(126,5)],[lD 126 0 sT,lI 126 1],[rP 0 126,lI 126 2,lI 126 3,lF 126 4 tN],[]⟩,[.ret [rI 500000,lI 126 2,lI 126 3,lF 126 4 tN] [],.AE 128 [I,I]],fun c v=>f c.1 c.2.1 v.2.1 v.2.2.1 v.2.2.2.1⟩
def wV(f:gg):iL:=mg (oG f).L (oG f).F (zJ [500000] (oG f).V)
abbrev eM:=XT→Int→Int→Int→XN→Option (((Int×Int×Int×XN×Unit)⊕(Int×Int×Unit)))
def mE(f:eM):CF:=⟨⟨30,[(126,5)],[lD 126 0 sT,lI 126 1],[rP 0 126,lI 126 2,lI 126 3,lF 126 4 tN],[]⟩,[.ret [rI 500000,lI 126 2,lI 126 3,lF 126 4 tN] [],.AE 128 [I,I]],fun c v=>f c.1 c.2.1 v.2.1 v.2.2.1 v.2.2.2.1⟩
def uf(f:eM):iL:=mg (mE f).L (mE f).F (zJ [500000] (mE f).V)
def bW(aT:dY)(aZ:ey)(a7:gg)(bh:eM)(q:Nat):Nat→XT→Int→Int→Int→XN→XI→Option (((Int×Int×XN×XI×Unit)⊕(Int×Int×Unit)))
 |0,_,_,_,_,_,_=>none
 |k+1,cV,fY,at3,oQ,b9,cL=>
  (aG cV at3 ([125]:ab)).bind fun r1=>
  bif !r1.1 then
   (aZ cV fY r1.2.1 oQ b9).bind fun r=>match r with
   |.inl r2=>
    (bE cL ([r2.1])).bind fun l=>
    bW aT aZ a7 bh q k cV fY r2.2.1 r2.2.2.1 r2.2.2.2.1 l
   |.inr r3=>
    some (.inr (r3.1,r3.2.1,()))
  else
   some (.inl (r1.2.1,oQ,b9,cL,()))
def fT(aT:dY)(aZ:ey)(a7:gg)(bh:eM)(k:Nat)(am:XT)(aE jz depth:Int)(aA:XN)(tX:Int):Option (((Int×Int×Int×XN×Unit)⊕(Int×Int×Unit))):=
 (bW aT aZ a7 bh k k am aE jz depth aA []).bind fun r=>match r with
 |.inl o=>
  (bH o.2.2.1 (8,tX,0,([]:ab),o.2.2.2.1)).bind fun r1=>
  some (.inl (r1.1,o.1,(bC (o.2.1 - 1)),r1.2.1,()))
 |.inr o2=>
  some (.inr (o2.1,o2.2.1,()))
def bx(aT:dY)(aZ:ey)(a7:gg)(bh:eM)(k:Nat)(am:XT)(aE jz depth:Int)(aA:XN):Option (((Int×Int×Int×XN×Unit)⊕(Int×Int×Unit))):=
 (iC am jz 1).bind fun r1=>
 bif r1.1 then
  (cw k am aE jz depth aA).bind fun r=>match r with
  |.inl r2=>
   some (.inl (r2.1,r2.2.1,r2.2.2.1,r2.2.2.2.1,()))
  |.inr r3=>
   some (.inr (r3.1,r3.2.1,()))
 else
  (dn am aE jz).bind fun r4=>
  aa (fun(jv:Int×Int×Int×XN×Int×ab×XI)=>
   (a8 am aE (jv.2.1) ([59]:ab)).bind fun r=>match r with
   |.inl r44=>
    (bH (jv.2.2.2.1) ((jv.2.2.2.2.1),(jv.1),0,(jv.2.2.2.2.2.1),(jv.2.2.2.2.2.2))).bind fun r46=>
    some (.inl (r46.1,r44.1,(jv.2.2.1),r46.2.1,()))
   |.inr r45=>
    some (.inr (r45.1,r45.2.1,()))) fun jf=>
  (aG am jz ([42]:ab)).bind fun r5=>
  bif r5.1 then
   (dr am aE r5.2.1 1).bind fun r=>match r with
   |.inl r6=>
    (a8 am aE r6.2.1 ([61]:ab)).bind fun r=>match r with
    |.inl r8=>
     (ak k am aE r8.1 depth aA 1).bind fun r=>match r with
     |.inl kC=>
      jf (r4.1,kC.2.1,kC.2.2.1,kC.2.2.2.1,11,r6.1.2.2.1,[kC.1])
     |.inr oc=>
      some (.inr (oc.1,oc.2.1,()))
    |.inr r9=>
     some (.inr (r9.1,r9.2.1,()))
   |.inr r7=>
    some (.inr (r7.1,r7.2.1,()))
  else
   (aG am r5.2.1 ([105,102]:ab)).bind fun pf=>
   bif pf.1 then
    (dQ k am aE pf.2.1 depth aA).bind fun r=>match r with
    |.inl p7=>
     (a7 am aE p7.2.1 p7.2.2.1 p7.2.2.2.1).bind fun r=>match r with
     |.inl qW=>
      (bE ([p7.1]) ([qW.1])).bind fun l=>
      aa (fun(jv:Int×Int×XN×XI)=>
       (bH (jv.2.2.1) (14,r4.1,0,([]:ab),(jv.2.2.2))).bind fun vB=>
       some (.inl (vB.1,(jv.1),(jv.2.1),vB.2.1,()))) fun cJ=>
      (aG am qW.2.1 ([101,108,115,101]:ab)).bind fun vA=>
      bif vA.1 then
       (a7 am aE vA.2.1 qW.2.2.1 qW.2.2.2.1).bind fun r=>match r with
       |.inl rW=>
        (bE l ([rW.1])).bind fun l2=>
        cJ (rW.2.1,rW.2.2.1,rW.2.2.2.1,l2)
       |.inr qX=>
        some (.inr (qX.1,qX.2.1,()))
      else
       cJ (vA.2.1,qW.2.2.1,qW.2.2.2.1,l)
     |.inr th=>
      some (.inr (th.1,th.2.1,()))
    |.inr rY=>
     some (.inr (rY.1,rY.2.1,()))
   else
    (aG am pf.2.1 ([119,104,105,108,101]:ab)).bind fun y8=>
    bif y8.1 then
     (dQ k am aE y8.2.1 depth aA).bind fun r=>match r with
     |.inl Kf=>
      (a7 am aE Kf.2.1 Kf.2.2.1 Kf.2.2.2.1).bind fun r=>match r with
      |.inl Jk=>
       (bE ([Kf.1]) ([Jk.1])).bind fun l3=>
       (bH Jk.2.2.2.1 (15,r4.1,0,([]:ab),l3)).bind fun r26=>
       some (.inl (r26.1,Jk.2.1,Jk.2.2.1,r26.2.1,()))
      |.inr r25=>
       some (.inr (r25.1,r25.2.1,()))
     |.inr I3=>
      some (.inr (I3.1,I3.2.1,()))
    else
     (aG am y8.2.1 ([102,111,114]:ab)).bind fun r27=>
     bif r27.1 then
      (bh am aE r27.2.1 depth aA).bind fun r=>match r with
      |.inl r28=>
       some (.inl (r28.1,r28.2.1,r28.2.2.1,r28.2.2.2.1,()))
      |.inr r29=>
       some (.inr (r29.1,r29.2.1,()))
     else
      (aG am r27.2.1 ([114,101,97,100]:ab)).bind fun r30=>
      bif r30.1 then
       (dr am aE r30.2.1 1).bind fun r=>match r with
       |.inl r31=>
        (bL am (bC (r31.2.1 - 1))).bind fun x1=>
        jf (x1.2.1,r31.2.1,depth,aA,17,r31.1.2.2.1,[])
       |.inr r32=>
        some (.inr (r32.1,r32.2.1,()))
      else
       (aG am r30.2.1 ([112,114,105,110,116]:ab)).bind fun r33=>
       bif r33.1 then
        (ak k am aE r33.2.1 depth aA 1).bind fun r=>match r with
        |.inl r34=>
         jf (r4.1,r34.2.1,r34.2.2.1,r34.2.2.2.1,18,([]:ab),[r34.1])
        |.inr r35=>
         some (.inr (r35.1,r35.2.1,()))
       else
        (aG am r33.2.1 ([97,115,115,101,114,116]:ab)).bind fun r36=>
        bif r36.1 then
         (dQ k am aE r36.2.1 depth aA).bind fun r=>match r with
         |.inl r37=>
          jf (r4.1,r37.2.1,r37.2.2.1,r37.2.2.2.1,19,([]:ab),[r37.1])
         |.inr r38=>
          some (.inr (r38.1,r38.2.1,()))
        else
         (aG am r36.2.1 ([115,116,111,112]:ab)).bind fun r39=>
         bif r39.1 then
          jf (r4.1,r39.2.1,depth,aA,20,([]:ab),[])
         else
          (aG am r39.2.1 ([114,101,116,117,114,110]:ab)).bind fun r40=>
          bif r40.1 then
           (ak k am aE r40.2.1 depth aA 1).bind fun r=>match r with
           |.inl r41=>
            jf (r4.1,r41.2.1,r41.2.2.1,r41.2.2.2.1,21,([]:ab),[r41.1])
           |.inr r42=>
            some (.inr (r42.1,r42.2.1,()))
          else
           (gZ am aE r40.2.1 6).bind fun r43=>
           some (.inr (r43.1,r43.2.1,()))
def iU(aT:dY)(aZ:ey)(a7:gg)(bh:eM)(k:Nat)(am:XT)(aE jz depth:Int)(aA:XN):Option (((Int×Int×Int×XN×Unit)⊕(Int×Int×Unit))):=
 (dn am aE jz).bind fun r1=>
 (a8 am aE jz ([123]:ab)).bind fun r=>match r with
 |.inl r2=>
  (fR am aE r2.1 depth).bind fun r=>match r with
  |.inl r4=>
   (aT am aE r2.1 r4.1 aA r1.1).bind fun r=>match r with
   |.inl r6=>
    some (.inl (r6.1,r6.2.1,r6.2.2.1,r6.2.2.2.1,()))
   |.inr r7=>
    some (.inr (r7.1,r7.2.1,()))
  |.inr r5=>
   some (.inr (r5.1,r5.2.1,()))
 |.inr r3=>
  some (.inr (r3.1,r3.2.1,()))
def kf(aT:dY)(aZ:ey)(a7:gg)(bh:eM)(k:Nat)(am:XT)(aE jz depth:Int)(aA:XN):Option (((Int×Int×Int×XN×Unit)⊕(Int×Int×Unit))):=
 (dr am aE jz 1).bind fun r=>match r with
 |.inl r1=>
  (a8 am aE r1.2.1 ([61]:ab)).bind fun r=>match r with
  |.inl r3=>
   (ak k am aE r3.1 depth aA 1).bind fun r=>match r with
   |.inl r5=>
    (a8 am aE r5.2.1 ([46,46]:ab)).bind fun r=>match r with
    |.inl r7=>
     (ak k am aE r7.1 r5.2.2.1 r5.2.2.2.1 1).bind fun r=>match r with
     |.inl r9=>
      (a7 am aE r9.2.1 r9.2.2.1 r9.2.2.2.1).bind fun r=>match r with
      |.inl oc=>
       (bH oc.2.2.2.1 (16,r1.1.2.1,0,r1.1.2.2.1,[r5.1,r9.1,oc.1])).bind fun p7=>
       some (.inl (p7.1,oc.2.1,oc.2.2.1,p7.2.1,()))
      |.inr pf=>
       some (.inr (pf.1,pf.2.1,()))
     |.inr kC=>
      some (.inr (kC.1,kC.2.1,()))
    |.inr r8=>
     some (.inr (r8.1,r8.2.1,()))
   |.inr r6=>
    some (.inr (r6.1,r6.2.1,()))
  |.inr r4=>
   some (.inr (r4.1,r4.2.1,()))
 |.inr r2=>
  some (.inr (r2.1,r2.2.1,()))
def aF:Nat→dY×ey×gg×eM
 |0=>(fun _ _ _ _ _ _=>none,fun _ _ _ _ _=>none,fun _ _ _ _ _=>none,fun _ _ _ _ _=>none)
 |k+1=>(fT (aF k).1 (aF k).2.1 (aF k).2.2.1 (aF k).2.2.2 k,bx (aF k).1 (aF k).2.1 (aF k).2.2.1 (aF k).2.2.2 k,iU (aF k).1 (aF k).2.1 (aF k).2.2.1 (aF k).2.2.2 k,kf (aF k).1 (aF k).2.1 (aF k).2.2.1 (aF k).2.2.2 k)
def dq(k:Nat):dY:=(aF k).1
def dh(k:Nat):ey:=(aF k).2.1
def iq(k:Nat):gg:=(aF k).2.2.1
def gI(k:Nat):eM:=(aF k).2.2.2
section
variable (aT:Gd bw 133 sf) (aZ:Gd bw 158 tH) (a7:Gd bw 168 wV) (bh:Gd bw 169 uf)
def qr(k:Nat):mS:=⟨⟨26,[(126,5)],[lD 126 0 sT,lI 126 1,rP 0 126,rI 1],[lI 126 2,lI 126 3,lF 126 4 tN,(.r 5,.h .eL I)],[]⟩,[.ex (.exit 0) [lI 126 2,lI 126 3,lF 126 4 tN,(.r 5,.h .eL I)],.AE 128 [I,I]],fun q c v=>bW aT.1 aZ.1 a7.1 bh.1 k q c.1 c.2.1 v.1 v.2.1 v.2.2.1 v.2.2.2.1⟩
def sa(k:Nat):Ev bw:=⟨[fO,dL,aZ.cl],[lp 0 (qr aT aZ a7 bh k) k],[]⟩
def xv(k q:Nat):Cd bw:=oM (sa aT aZ a7 bh k) f133 0 (qr aT aZ a7 bh k) q []
def Ao(k:Nat):Cl bw:=lO (sa aT aZ a7 bh k) 133 f133 func133 call133 [500000] (lc (fT aT.1 aZ.1 a7.1 bh.1 k)) [xv aT aZ a7 bh k k]
def Ba(k:Nat):Cl bw:=lO ⟨[fO,ib,gQ,dL,jA,mG,eK,Dn k,m6 k,GR k,a7.cl,bh.cl],[],[(4,47)]⟩ 158 f158 func158 call158 [500000] (lL (bx aT.1 aZ.1 a7.1 bh.1 k)) []
def FF(k:Nat):Cl bw:=lO ⟨[gQ,eK,lr,aT.cl],[],[]⟩ 168 f168 func168 call168 [500000] (oG (iU aT.1 aZ.1 a7.1 bh.1 k)) []
def B7(k:Nat):Cl bw:=lO ⟨[ib,gQ,dL,m6 k,a7.cl],[],[(3,110)]⟩ 169 f169 func169 call169 [500000] (mE (kf aT.1 aZ.1 a7.1 bh.1 k)) []
end
theorem gF:∀ k,ld prog gt 133 (sf (dq k))∧ld prog gt 158 (tH (dh k))∧ld prog gt 168 (wV (iq k))∧ld prog gt 169 (uf (gI k))
 |0=>⟨cU (fun _ _=>rfl),cU (fun _ _=>rfl),cU (fun _ _=>rfl),cU (fun _ _=>rfl)⟩
 |k+1=>have ih:=gF k;⟨(Ao ⟨_,ih.1⟩ ⟨_,ih.2.1⟩ ⟨_,ih.2.2.1⟩ ⟨_,ih.2.2.2⟩ k).ok,(Ba ⟨_,ih.1⟩ ⟨_,ih.2.1⟩ ⟨_,ih.2.2.1⟩ ⟨_,ih.2.2.2⟩ k).ok,(FF ⟨_,ih.1⟩ ⟨_,ih.2.1⟩ ⟨_,ih.2.2.1⟩ ⟨_,ih.2.2.2⟩ k).ok,(B7 ⟨_,ih.1⟩ ⟨_,ih.2.1⟩ ⟨_,ih.2.2.1⟩ ⟨_,ih.2.2.2⟩ k).ok⟩
def Ak(k:Nat):Cl bw:=⟨_,_,(gF k).1⟩
def Ph(k:Nat):Cl bw:=⟨_,_,(gF k).2.1⟩
def Uk(k:Nat):Cl bw:=⟨_,_,(gF k).2.2.1⟩
def QJ(k:Nat):Cl bw:=⟨_,_,(gF k).2.2.2⟩
end
end Go.Fx.R5
namespace Go.Fx.R5
open Go Go.Fx Go.Proofs Go.Proofs.Tryz
noncomputable section
def cf(q:Nat):Nat→XT→Int→Int→XN→XI→Option (((Int×XN×XI×Unit)⊕(Int×Int×Unit)))
 |0,_,_,_,_,_=>none
 |k+1,cV,fY,tX,b9,cL=>
  (aG cV tX ([44]:ab)).bind fun r8=>
  bif r8.1 then
   (fd cV fY r8.2.1 b9 5).bind fun r=>match r with
   |.inl r9=>
    (bE cL ([r9.1])).bind fun l2=>
    cf q k cV fY r9.2.1 r9.2.2.1 l2
   |.inr kC=>
    some (.inr (kC.1,kC.2.1,()))
  else
   some (.inl (r8.2.1,b9,cL,()))
def cP(q:Nat):Nat→XT→Int→Int→Int→XN→XI→Option (((Int×XN×XI×Unit)⊕(Int×Int×Unit)))
 |0,_,_,_,_,_,_=>none
 |k+1,R6,Xa,acu,at5,ZJ,acs=>
  (aG R6 at5 ([44]:ab)).bind fun vB=>
  bif vB.1 then
   (fd R6 Xa vB.2.1 ZJ acu).bind fun r=>match r with
   |.inl y8=>
    (bE acs ([y8.1])).bind fun l3=>
    cP q k R6 Xa acu y8.2.1 y8.2.2.1 l3
   |.inr Kf=>
    some (.inr (Kf.1,Kf.2.1,()))
  else
   some (.inl (vB.2.1,ZJ,acs,()))
def cD(q:Nat):Nat→XT→Int→Int→XN→XI→Option (((Int×XN×XI×Unit)⊕(Int×Int×Unit)))
 |0,_,_,_,_,_=>none
 |k+1,cV,fY,at3,Er,PO=>
  (eV cV at3 0 ([118,97,114]:ab)).bind fun qW=>
  aa (fun(v:Bool)=>
   bif v then
    aa (fun(Ee:Int)=>
     (fd cV fY (bC (at3+1)) Er Ee).bind fun r=>match r with
     |.inl rW=>
      (bE PO ([rW.1])).bind fun l2=>
      (cP q q cV fY Ee rW.2.1 rW.2.2.1 l2).bind fun r=>match r with
      |.inl o3=>
       (a8 cV fY o3.1 ([59]:ab)).bind fun r=>match r with
       |.inl vB=>
        cD q k cV fY vB.1 o3.2.1 o3.2.2.1
       |.inr y8=>
        some (.inr (y8.1,y8.2.1,()))
      |.inr o4=>
       some (.inr (o4.1,o4.2.1,()))
     |.inr qX=>
      some (.inr (qX.1,qX.2.1,()))) fun jf=>
    (eV cV at3 0 ([114,101,102]:ab)).bind fun vA=>
    bif vA.1 then
     jf 7
    else
     jf 6
   else
    some (.inl (at3,Er,PO,()))) fun cJ=>
  bif qW.1 then
   cJ true
  else
   (eV cV at3 0 ([114,101,102]:ab)).bind fun th=>
   cJ th.1
def dd(k:Nat)(am:XT)(aE jz depth:Int)(aA:XN):Option (((Int×Int×Int×XN×Unit)⊕(Int×Int×Unit))):=
 (dr am aE jz 1).bind fun r=>match r with
 |.inl r1=>
  (a8 am aE r1.2.1 ([40]:ab)).bind fun r=>match r with
  |.inl r3=>
   aa (fun(jv:XI×Int×XN)=>
    (dn am aE (jv.2.1)).bind fun kC=>
    (a8 am aE (jv.2.1) ([123]:ab)).bind fun r=>match r with
    |.inl oc=>
     (fR am aE oc.1 depth).bind fun r=>match r with
     |.inl p7=>
      (cD k k am aE oc.1 (jv.2.2) (jv.1)).bind fun r=>match r with
      |.inl o3=>
       (dq k am aE o3.1 p7.1 o3.2.1 kC.1).bind fun r=>match r with
       |.inl qW=>
        (bE o3.2.2.1 ([qW.1])).bind fun l2=>
        (bH qW.2.2.2.1 (4,r1.1.2.1,0,r1.1.2.2.1,l2)).bind fun vA=>
        some (.inl (vA.1,qW.2.1,qW.2.2.1,vA.2.1,()))
       |.inr th=>
        some (.inr (th.1,th.2.1,()))
      |.inr o4=>
       some (.inr (o4.1,o4.2.1,()))
     |.inr rY=>
      some (.inr (rY.1,rY.2.1,()))
    |.inr pf=>
     some (.inr (pf.1,pf.2.1,()))) fun cJ=>
   (aG am r3.1 ([41]:ab)).bind fun r5=>
   bif !r5.1 then
    (fd am aE r5.2.1 aA 5).bind fun r=>match r with
    |.inl r6=>
     (bE ([]:XI) ([r6.1])).bind fun l=>
     (cf k k am aE r6.2.1 r6.2.2.1 l).bind fun r=>match r with
     |.inl o=>
      (a8 am aE o.1 ([41]:ab)).bind fun r=>match r with
      |.inl r8=>
       cJ (o.2.2.1,r8.1,o.2.1)
      |.inr r9=>
       some (.inr (r9.1,r9.2.1,()))
     |.inr o2=>
      some (.inr (o2.1,o2.2.1,()))
    |.inr r7=>
     some (.inr (r7.1,r7.2.1,()))
   else
    cJ ([],r5.2.1,aA)
  |.inr r4=>
   some (.inr (r4.1,r4.2.1,()))
 |.inr r2=>
  some (.inr (r2.1,r2.2.1,()))
def rM(k:Nat):mS:=⟨⟨79,[(110,4),(126,5)],[lI 110 0,lI 110 1,lD 110 2 .str,lI 110 3,lD 126 0 sT,lI 126 1,lI 126 3,rP 0 126,rP 3 110],[lI 126 2,lF 126 4 tN,(.r 4,.h .eL I)],[]⟩,[.ex (.exit 0) [lI 126 2,lF 126 4 tN,(.r 4,.h .eL I)],.AE 128 [I,I]],fun q c v=>cf k q c.2.2.2.2.1 c.2.2.2.2.2.1 v.1 v.2.1 v.2.2.1⟩
def rO(k:Nat):mS:=⟨⟨79,[(110,4),(126,5)],[lI 110 0,lI 110 1,lD 110 2 .str,lI 110 3,lD 126 0 sT,lI 126 1,lI 126 3,rP 0 126,rP 3 110,rI 5,rI 6],[lI 126 2,lF 126 4 tN,(.r 4,.h .eL I)],[]⟩,[.ex (.exit 4) [lI 126 2,lF 126 4 tN,(.r 4,.h .eL I)],.AE 128 [I,I]],fun q c v=>cP k q c.2.2.2.2.1 c.2.2.2.2.2.1 c.2.2.2.2.2.2.2.2.2.2.1 v.1 v.2.1 v.2.2.1⟩
def rN(k:Nat):mS:=⟨⟨79,[(110,4),(126,5)],[lI 110 0,lI 110 1,lD 110 2 .str,lI 110 3,lD 126 0 sT,lI 126 1,lI 126 3,rP 0 126,rP 3 110,rI 5],[lI 126 2,lF 126 4 tN,(.r 4,.h .eL I)],[]⟩,[.ex (.exit 2) [lI 126 2,lF 126 4 tN,(.r 4,.h .eL I)],.AE 128 [I,I]],fun q c v=>cD k q c.2.2.2.2.1 c.2.2.2.2.2.1 v.1 v.2.1 v.2.2.1⟩
def mF(k:Nat):Ev bw:=⟨[fO,ib,gQ,dL,rT,mZ,eK,lr,Ak k],[lp 0 (rM k) k,lp 4 (rO k) k,lp 2 (rN k) k],[(3,110)]⟩
def zj(k q:Nat):Cd bw:=oM (mF k) f111 0 (rM k) q []
def zm(k q:Nat):Cd bw:=oM (mF k) f111 4 (rO k) q []
def zk(k q:Nat):Cd bw:=oM (mF k) f111 2 (rN k) q [zm k k]
def B0(k:Nat):Cl bw:=lO (mF k) 111 f111 func111 call111 [500000] ⟨⟨79,[(126,5)],[lD 126 0 sT,lI 126 1],[rP 0 126,lI 126 2,lI 126 3,lF 126 4 tN],[]⟩,[.ret [rI 500000,lI 126 2,lI 126 3,lF 126 4 tN] [],.AE 128 [I,I]],fun c v=>dd k c.1 c.2.1 v.2.1 v.2.2.1 v.2.2.2.1⟩ [zj k k,zk k k]
def aL(q:Nat):Nat→XT→Int→Int→Int→XN→XI→Option (((Int×Int×XN×XI×Unit)⊕(Int×Int×Unit)))
 |0,_,_,_,_,_,_=>none
 |k+1,cV,fY,tX,oQ,b9,cL=>
  bif decide (tX<(cV.length:Int)) then
   (aG cV tX ([97,114,114,97,121]:ab)).bind fun r1=>
   bif r1.1 then
    (dr cV fY r1.2.1 1).bind fun r=>match r with
    |.inl r2=>
     (a8 cV fY r2.2.1 ([91]:ab)).bind fun r=>match r with
     |.inl r4=>
      (dr cV fY r4.1 2).bind fun r=>match r with
      |.inl r6=>
       (a8 cV fY r6.2.1 ([93]:ab)).bind fun r=>match r with
       |.inl r8=>
        (a8 cV fY r8.1 ([59]:ab)).bind fun r=>match r with
        |.inl kC=>
         (bH b9 (2,r2.1.2.1,r6.1.2.2.2,r2.1.2.2.1,[])).bind fun pf=>
         (bE cL ([pf.1])).bind fun l=>
         aL q k cV fY kC.1 oQ pf.2.1 l
        |.inr oc=>
         some (.inr (oc.1,oc.2.1,()))
       |.inr r9=>
        some (.inr (r9.1,r9.2.1,()))
      |.inr r7=>
       some (.inr (r7.1,r7.2.1,()))
     |.inr r5=>
      some (.inr (r5.1,r5.2.1,()))
    |.inr r3=>
     some (.inr (r3.1,r3.2.1,()))
   else
    (aG cV r1.2.1 ([118,97,114]:ab)).bind fun p7=>
    bif p7.1 then
     (fd cV fY p7.2.1 b9 3).bind fun r=>match r with
     |.inl rY=>
      (bE cL ([rY.1])).bind fun l2=>
      (a8 cV fY rY.2.1 ([59]:ab)).bind fun r=>match r with
      |.inl th=>
       aL q k cV fY th.1 oQ rY.2.2.1 l2
      |.inr vA=>
       some (.inr (vA.1,vA.2.1,()))
     |.inr qW=>
      some (.inr (qW.1,qW.2.1,()))
    else
     (aG cV p7.2.1 ([102,117,110,99]:ab)).bind fun rW=>
     bif rW.1 then
      (dd q cV fY rW.2.1 oQ b9).bind fun r=>match r with
      |.inl qX=>
       (bE cL ([qX.1])).bind fun l3=>
       aL q k cV fY qX.2.1 qX.2.2.1 qX.2.2.2.1 l3
      |.inr vB=>
       some (.inr (vB.1,vB.2.1,()))
     else
      (gZ cV fY rW.2.1 6).bind fun y8=>
      some (.inr (y8.1,y8.2.1,()))
  else
   some (.inl (tX,oQ,b9,cL,()))
def oK(k:Nat)(am:XT)(aE jz depth:Int)(aA:XN):Option (((Int×Int×XN×Unit)⊕(Int×Int×Unit))):=
 (aL k k am aE jz depth aA []).bind fun r=>match r with
 |.inl o=>
  (bH o.2.2.1 (1,0,0,([]:ab),o.2.2.2.1)).bind fun r1=>
  some (.inl (o.1,o.2.1,r1.2.1,()))
 |.inr o2=>
  some (.inr (o2.1,o2.2.1,()))
def ss(k:Nat):mS:=⟨⟨64,[(126,5)],[lD 126 0 sT,lI 126 1,rP 0 126],[lI 126 2,lI 126 3,lF 126 4 tN,(.r 2,.h .eL I)],[]⟩,[.ex (.exit 0) [lI 126 2,lI 126 3,lF 126 4 tN,(.r 2,.h .eL I)],.AE 128 [I,I]],fun q c v=>aL k q c.1 c.2.1 v.1 v.2.1 v.2.2.1 v.2.2.2.1⟩
def uQ(k:Nat):Ev bw:=⟨[fO,ib,gQ,dL,rT,B0 k,jA],[lp 0 (ss k) k],[]⟩
def Ae(k q:Nat):Cd bw:=oM (uQ k) f71 0 (ss k) q []
def Dm(k:Nat):Cl bw:=lO (uQ k) 71 f71 func71 call71 [] ⟨⟨64,[(126,5)],[lD 126 0 sT,lI 126 1],[rP 0 126,lI 126 2,lI 126 3,lF 126 4 tN],[]⟩,[.ret [lI 126 2,lI 126 3,lF 126 4 tN] [],.AE 128 [I,I]],fun c v=>oK k c.1 c.2.1 v.2.1 v.2.2.1 v.2.2.2.1⟩ [Ae k k]
def pT(q:Nat):Nat→ab→Int→Option (Int×Unit)
 |0,_,_=>none
 |k+1,N9,at3=>
  aa (fun(v2:Bool)=>
   bif v2 then
    pT q k N9 (bC (at3+1))
   else
    some (at3,())) fun cJ=>
  bif decide (at3<(N9.length:Int)) then
   (bL N9 at3).bind fun b2=>
   cJ ((b2.toNat:Int) != 10)
  else
   cJ false
def iI(q:Nat):Nat→ab→Int→Option (((Int×Unit)⊕(Int×Unit)))
 |0,_,_=>none
 |k+1,iw,tX=>
  bif decide (tX<(iw.length:Int)) then
   (bL iw tX).bind fun b=>
   aa (fun(v:Bool)=>
    bif v then
     iI q k iw (bC (tX+1))
    else
     bif (b.toNat:Int)==35 then
      (pT q q iw tX).bind fun o=>
      iI q k iw o.1
     else
      some (.inr (tX,()))) fun cJ=>
   bif (b.toNat:Int)==32 then
    cJ ((b.toNat:Int)==32)
   else
    cJ ((b.toNat:Int)==10)
  else
   some (.inl (tX,()))
def nX(k:Nat)(ce:ab)(jz:Int):Option (Int×Unit):=
 (iI k k ce jz).bind fun r=>match r with
 |.inl o=>
  some (o.1,())
 |.inr o2=>
  some (o2.1,())
def zQ(k:Nat):mS:=⟨⟨33,[],[rD 0 .str],[rI 1],[]⟩,[.ex (.exit 3) [rI 1]],fun q c v=>pT k q c.1 v.1⟩
def zP(k:Nat):mS:=⟨⟨33,[],[rD 0 .str],[rI 1],[]⟩,[.ex (.exit 0) [rI 1],.ex .ret [rI 4]],fun q c v=>iI k q c.1 v.1⟩
def xY(k:Nat):Ev bw:=⟨[],[lp 3 (zQ k) k,lp 0 (zP k) k],[]⟩
def HL(k q:Nat):Cd bw:=oM (xY k) f104 3 (zQ k) q []
def HK(k q:Nat):Cd bw:=oM (xY k) f104 0 (zP k) q [HL k k]
def Mv(k:Nat):Cl bw:=zp (xY k) 104 f104 func104 call104 [.str,I] [I] (fun d=>nX k d.1 d.2.1) [HK k k]
def um(b:Int):Option (Bool×Unit):=
 aa (fun(v:Bool)=>
  some (v,())) fun cJ=>
 bif decide (b≥97) then
  cJ (decide (b≤122))
 else
  cJ false
def Jx:Cl bw:=zp ⟨[],[],[]⟩ 123 f123 func123 call123 [U] [.bool] (fun d=>um d.1) []
def sm(b:Int):Option (Bool×Unit):=
 aa (fun(v:Bool)=>
  some (v,())) fun cJ=>
 bif decide (b≥48) then
  cJ (decide (b≤57))
 else
  cJ false
def K0:Cl bw:=zp ⟨[],[],[]⟩ 124 f124 func124 call124 [U] [.bool] (fun d=>sm d.1) []
def zN(ce:ab):Option (Bool×Unit):=
 aa (fun(v:Bool)=>
  bif v then
   some (true,())
  else
   some (false,())) fun cJ=>
 bif ce==([97,114,114,97,121]:ab) then
  cJ (ce==([97,114,114,97,121]:ab))
 else
  bif ce==([118,97,114]:ab) then
   cJ (ce==([118,97,114]:ab))
  else
   bif ce==([114,101,102]:ab) then
    cJ (ce==([114,101,102]:ab))
   else
    bif ce==([102,117,110,99]:ab) then
     cJ (ce==([102,117,110,99]:ab))
    else
     bif ce==([105,102]:ab) then
      cJ (ce==([105,102]:ab))
     else
      bif ce==([101,108,115,101]:ab) then
       cJ (ce==([101,108,115,101]:ab))
      else
       bif ce==([119,104,105,108,101]:ab) then
        cJ (ce==([119,104,105,108,101]:ab))
       else
        bif ce==([102,111,114]:ab) then
         cJ (ce==([102,111,114]:ab))
        else
         bif ce==([114,101,97,100]:ab) then
          cJ (ce==([114,101,97,100]:ab))
         else
          bif ce==([112,114,105,110,116]:ab) then
           cJ (ce==([112,114,105,110,116]:ab))
          else
           bif ce==([97,115,115,101,114,116]:ab) then
            cJ (ce==([97,115,115,101,114,116]:ab))
           else
            bif ce==([115,116,111,112]:ab) then
             cJ (ce==([115,116,111,112]:ab))
            else
             bif ce==([114,101,116,117,114,110]:ab) then
              cJ (ce==([114,101,116,117,114,110]:ab))
             else
              bif ce==([97,110,100]:ab) then
               cJ (ce==([97,110,100]:ab))
              else
               bif ce==([111,114]:ab) then
                cJ (ce==([111,114]:ab))
               else
                bif ce==([110,111,116]:ab) then
                 cJ (ce==([110,111,116]:ab))
                else
                 cJ (ce==([110,117,108,108]:ab))
def Ov:Cl bw:=zp ⟨[],[],[]⟩ 125 f125 func125 call125 [.str] [.bool] (fun d=>zN d.1) []
def nh(q:Nat):Nat→ab→Int→XS→Int→Option (((Unit)⊕(ab×Unit)))
 |0,_,_,_,_=>none
 |k+1,iw,tX,LL,R2=>
  bif decide (R2<30) then
   (bL LL R2).bind fun b=>
   (sub iw tX (iw.length:Int)).bind fun l=>
   (Hd l b).bind fun r1=>
   bif r1.1 then
    some (.inr (b,()))
   else
    nh q k iw tX LL (bC (R2+1))
  else
   some (.inl ())
def zM(k:Nat)(ce:ab)(jz:Int):Option (ab×Unit):=
 aa (fun(v:Bool)=>
  bif v then
   some (([]:ab),())
  else
   (nh k k ce jz xR 0).bind fun r=>match r with
   |.inl o=>
    some (([]:ab),())
   |.inr o2=>
    some (o2.1,())) fun cJ=>
 bif decide (jz<0) then
  cJ true
 else
  cJ (decide (jz≥(ce.length:Int)))
def Bq(k:Nat):mS:=⟨⟨26,[],[rD 0 .str,rI 1,rD 15 (.arr 30 .str)],[rI 16],[]⟩,[.ex (.exit 0) [],.ex .ret [rD 4 .str]],fun q c v=>nh k q c.1 c.2.1 c.2.2.1 v.1⟩
def FR(k:Nat):Ev bw:=⟨[Sw],[lp 0 (Bq k) k],[]⟩
def Jl(k q:Nat):Cd bw:=oM (FR k) f128 0 (Bq k) q []
def Ou(k:Nat):Cl bw:=zp (FR k) 128 f128 func128 call128 [.str,I] [.str] (fun d=>zM k d.1 d.2.1) [Jl k k]
def oU(q:Nat):Nat→ab→Int→Option (Int×Unit)
 |0,_,_=>none
 |k+1,iw,aE=>
  aa (fun(v2:Bool)=>
   bif v2 then
    oU q k iw (bC (aE+1))
   else
    some (aE,())) fun jf=>
  bif decide (aE<(iw.length:Int)) then
   (bL iw aE).bind fun b2=>
   (um (b2.toNat:Int)).bind fun r2=>
   aa (fun(v:Bool)=>
    jf v) fun cJ=>
   bif r2.1 then
    cJ true
   else
    (bL iw aE).bind fun b3=>
    (sm (b3.toNat:Int)).bind fun r3=>
    cJ r3.1
  else
   jf false
def oV(q:Nat):Nat→ab→Int→Option (Int×Unit)
 |0,_,_=>none
 |k+1,iw,aE=>
  aa (fun(v:Bool)=>
   bif v then
    oV q k iw (bC (aE+1))
   else
    some (aE,())) fun cJ=>
  bif decide (aE<(iw.length:Int)) then
   (bL iw aE).bind fun b3=>
   (sm (b3.toNat:Int)).bind fun r5=>
   cJ r5.1
  else
   cJ false
def jX(k:Nat)(ce:ab)(jz:Int):Option ((Int×Int×ab×Int)×Int×Unit):=
 (bL ce jz).bind fun b=>
 (um (b.toNat:Int)).bind fun r1=>
 bif r1.1 then
  (oU k k ce jz).bind fun o=>
  bif decide ((bC (o.1 - jz)) > 8) then
   some ((0,0,([]:ab),0),3,())
  else
   aa (fun(Ee:Int)=>
    (sub ce jz o.1).bind fun l2=>
    (B4 l2).bind fun r3=>
    some ((Ee,jz,r3.1,0),0,())) fun cJ=>
   (sub ce jz o.1).bind fun l=>
   (zN l).bind fun r2=>
   bif r2.1 then
    cJ 3
   else
    cJ 1
 else
  (bL ce jz).bind fun b2=>
  (sm (b2.toNat:Int)).bind fun r4=>
  bif r4.1 then
   (oV k k ce jz).bind fun o2=>
   (sub ce jz o2.1).bind fun l3=>
   (pD l3).bind fun r5=>
   bif !r5.2.1 then
    some ((0,0,([]:ab),0),4,())
   else
    (sub ce jz o2.1).bind fun l4=>
    (B4 l4).bind fun r6=>
    some ((2,jz,r6.1,r5.1),0,())
  else
   (zM k ce jz).bind fun r7=>
   bif r7.1==([]:ab) then
    some ((0,0,([]:ab),0),2,())
   else
    some ((4,jz,r7.1,0),0,())
def yL(k:Nat):mS:=⟨⟨98,[(110,4)],[lI 110 0,lI 110 1,lD 110 2 .str,lI 110 3,rD 0 .str,rI 1,rP 4 110],[rI 6],[]⟩,[.ex (.exit 1) [rI 6]],fun q c v=>oU k q c.2.2.2.2.1 v.1⟩
def yM(k:Nat):mS:=⟨⟨98,[(110,4)],[lI 110 0,lI 110 1,lD 110 2 .str,lI 110 3,rD 0 .str,rI 1,rP 4 110],[rI 6],[]⟩,[.ex (.exit 3) [rI 6]],fun q c v=>oV k q c.2.2.2.2.1 v.1⟩
def wD(k:Nat):Ev bw:=⟨[Jx,K0,Ov,aaN,Sz,Ou k],[lp 1 (yL k) k,lp 3 (yM k) k],[(4,110)]⟩
def Gx(k q:Nat):Cd bw:=oM (wD k) f105 1 (yL k) q []
def Gy(k q:Nat):Cd bw:=oM (wD k) f105 3 (yM k) q []
def K3(k:Nat):Cl bw:=zp (wD k) 105 f105 func105 call105 [.str,I] [tT,I] (fun d=>jX k d.1 d.2.1) [Gx k k,Gy k k]
def eZ(q:Nat):Nat→ab→Int→Int→XT→Int→Option (((Int×Int×XT×Unit)⊕(Int×Int×Unit)))
 |0,_,_,_,_,_=>none
 |k+1,iw,w,w2,am,jz=>
  bif decide (jz<(iw.length:Int)) then
   (jX q iw jz).bind fun r2=>
   aa (fun(code:Int)=>
    bif code != 0 then
     some (.inr (code,jz,()))
    else
     (bE am ([r2.1])).bind fun l=>
     (nX q iw (bC (jz+(r2.1.2.2.1.length:Int)))).bind fun r3=>
     eZ q k iw w w2 l r3.1) fun jf=>
   aa (fun(v:Bool)=>
    bif v then
     jf 5
    else
     jf r2.2.1) fun cJ=>
   bif r2.2.1==0 then
    cJ ((am.length:Int)==700)
   else
    cJ false
  else
   some (.inl (w,w2,am,()))
def ng(k:Nat)(ce:ab):Option (XT×(Int×Int)×Unit):=
 bif decide ((ce.length:Int) > 3000) then
  some ([],(1,0),())
 else
  (nX k ce 0).bind fun r1=>
  (eZ k k ce 0 0 [] r1.1).bind fun r=>match r with
  |.inl o=>
   some (o.2.2.1,(0,0),())
  |.inr o2=>
   some ([],(o2.1,o2.2.1),())
def wZ(k:Nat):mS:=⟨⟨50,[(37,2)],[rD 0 .str,rP 3 37],[lI 37 0,lI 37 1,(.r 4,.h .eL tT),rI 5],[]⟩,[.ex (.exit 0) [lI 37 0,lI 37 1,(.r 4,.h .eL tT)],.ex .ret [lI 37 0,lI 37 1,(.r 2,.lit .nil)]],fun q c v=>eZ k q c.1 v.1 v.2.1 v.2.2.1 v.2.2.2.1⟩
def AI(k:Nat):Ev bw:=⟨[Mv k,K3 k],[lp 0 (wZ k) k],[(3,37)]⟩
def Fi(k q:Nat):Cd bw:=oM (AI k) f69 0 (wZ k) q []
def Jw(k:Nat):Cl bw:=zp (AI k) 69 f69 func69 call69 [.str] [sT,tP] (fun d=>ng k d.1) [Fi k k]
def kn(q:Nat):Nat→ab→Int→Option (Int×Unit)
 |0,_,_=>none
 |k+1,N9,at3=>
  aa (fun(v2:Bool)=>
   bif v2 then
    kn q k N9 (bC (at3+1))
   else
    some (at3,())) fun cJ=>
  bif decide (at3<(N9.length:Int)) then
   (bL N9 at3).bind fun b4=>
   cJ ((b4.toNat:Int) != 10)
  else
   cJ false
def jg(q:Nat):Nat→ab→Int→Option (((Int×Unit)⊕(Int×Unit)))
 |0,_,_=>none
 |k+1,iw,tX=>
  bif decide (tX<(iw.length:Int)) then
   (bL iw tX).bind fun b=>
   aa (fun(v:Bool)=>
    bif v then
     jg q k iw (bC (tX+1))
    else
     (bL iw tX).bind fun b3=>
     bif (b3.toNat:Int) != 35 then
      some (.inr (tX,()))
     else
      (kn q q iw tX).bind fun o=>
      jg q k iw o.1) fun cJ=>
   bif (b.toNat:Int)==32 then
    cJ true
   else
    (bL iw tX).bind fun b2=>
    cJ ((b2.toNat:Int)==10)
  else
   some (.inl (tX,()))
def pi(k:Nat)(ce:ab)(jz:Int):Option (Int×Unit):=
 (jg k k ce jz).bind fun r=>match r with
 |.inl o=>
  some (o.1,())
 |.inr o2=>
  some (o2.1,())
def Bu(k:Nat):mS:=⟨⟨39,[],[rD 0 .str],[rI 1],[]⟩,[.ex (.exit 2) [rI 1]],fun q c v=>kn k q c.1 v.1⟩
def Bs(k:Nat):mS:=⟨⟨39,[],[rD 0 .str],[rI 1],[]⟩,[.ex (.exit 0) [rI 1],.ex .ret [rI 4]],fun q c v=>jg k q c.1 v.1⟩
def Ag(k:Nat):Ev bw:=⟨[],[lp 2 (Bu k) k,lp 0 (Bs k) k],[]⟩
def Jo(k q:Nat):Cd bw:=oM (Ag k) f58 2 (Bu k) q []
def Jn(k q:Nat):Cd bw:=oM (Ag k) f58 0 (Bs k) q [Jo k k]
def OA(k:Nat):Cl bw:=zp (Ag k) 58 f58 func58 call58 [.str,I] [I] (fun d=>pi k d.1 d.2.1) [Jn k k]
def sH(c:Int):Option (Bool×Unit):=
 aa (fun(v:Bool)=>
  some (v,())) fun cJ=>
 bif decide (c≥97) then
  cJ (decide (c≤122))
 else
  cJ false
def CU:Cl bw:=zp ⟨[],[],[]⟩ 88 f88 func88 call88 [U] [.bool] (fun d=>sH d.1) []
def rH(c:Int):Option (Bool×Unit):=
 aa (fun(v:Bool)=>
  some (v,())) fun cJ=>
 bif decide (c≥48) then
  cJ (decide (c≤57))
 else
  cJ false
def yt:Cl bw:=zp ⟨[],[],[]⟩ 91 f91 func91 call91 [U] [.bool] (fun d=>rH d.1) []
def lj(q:Nat):Nat→ab→Int→Option (Int×Unit)
 |0,_,_=>none
 |k+1,iw,tX=>
  aa (fun(v2:Bool)=>
   bif v2 then
    lj q k iw (bC (tX+1))
   else
    some (tX,())) fun jf=>
  bif decide (tX<(iw.length:Int)) then
   (bL iw tX).bind fun b=>
   (sH (b.toNat:Int)).bind fun r1=>
   aa (fun(v:Bool)=>
    jf v) fun cJ=>
   bif r1.1 then
    cJ true
   else
    (bL iw tX).bind fun b2=>
    (rH (b2.toNat:Int)).bind fun r2=>
    cJ r2.1
  else
   jf false
def Cq(k:Nat)(ce:ab)(jz:Int):Option (Int×Unit):=
 (lj k k ce jz).bind fun o=>
 some (o.1,())
def C3(k:Nat):mS:=⟨⟨24,[],[rD 0 .str],[rI 1],[]⟩,[.ex (.exit 0) [rI 1]],fun q c v=>lj k q c.1 v.1⟩
def HU(k:Nat):Ev bw:=⟨[CU,yt],[lp 0 (C3 k) k],[]⟩
def KS(k q:Nat):Cd bw:=oM (HU k) f89 0 (C3 k) q []
def QM(k:Nat):Cl bw:=zp (HU k) 89 f89 func89 call89 [.str,I] [I] (fun d=>Cq k d.1 d.2.1) [KS k k]
def Aa(ce:ab):Option (Bool×Unit):=
 aa (fun(v:Bool)=>
  aa (fun(v2:Bool)=>
   aa (fun(v3:Bool)=>
    aa (fun(v4:Bool)=>
     aa (fun(v5:Bool)=>
      aa (fun(v6:Bool)=>
       aa (fun(v7:Bool)=>
        aa (fun(v8:Bool)=>
         aa (fun(v9:Bool)=>
          aa (fun(v10:Bool)=>
           aa (fun(v11:Bool)=>
            aa (fun(v12:Bool)=>
             aa (fun(v13:Bool)=>
              aa (fun(v14:Bool)=>
               aa (fun(v15:Bool)=>
                aa (fun(v16:Bool)=>
                 some (v16,())) fun afk=>
                bif v15 then
                 afk true
                else
                 afk (ce==([110,117,108,108]:ab))) fun afj=>
               bif v14 then
                afj true
               else
                afj (ce==([110,111,116]:ab))) fun afi=>
              bif v13 then
               afi true
              else
               afi (ce==([111,114]:ab))) fun Zo=>
             bif v12 then
              Zo true
             else
              Zo (ce==([97,110,100]:ab))) fun Zn=>
            bif v11 then
             Zn true
            else
             Zn (ce==([114,101,116,117,114,110]:ab))) fun Zm=>
           bif v10 then
            Zm true
           else
            Zm (ce==([115,116,111,112]:ab))) fun S8=>
          bif v9 then
           S8 true
          else
           S8 (ce==([97,115,115,101,114,116]:ab))) fun jx9=>
         bif v8 then
          jx9 true
         else
          jx9 (ce==([112,114,105,110,116]:ab))) fun jx8=>
        bif v7 then
         jx8 true
        else
         jx8 (ce==([114,101,97,100]:ab))) fun jx7=>
       bif v6 then
        jx7 true
       else
        jx7 (ce==([102,111,114]:ab))) fun jx6=>
      bif v5 then
       jx6 true
      else
       jx6 (ce==([119,104,105,108,101]:ab))) fun jx5=>
     bif v4 then
      jx5 true
     else
      jx5 (ce==([101,108,115,101]:ab))) fun jx4=>
    bif v3 then
     jx4 true
    else
     jx4 (ce==([105,102]:ab))) fun wg=>
   bif v2 then
    wg true
   else
    wg (ce==([102,117,110,99]:ab))) fun jf=>
  bif v then
   jf true
  else
   jf (ce==([114,101,102]:ab))) fun cJ=>
 bif ce==([97,114,114,97,121]:ab) then
  cJ true
 else
  cJ (ce==([118,97,114]:ab))
def Oy:Cl bw:=zp ⟨[],[],[]⟩ 90 f90 func90 call90 [.str] [.bool] (fun d=>Aa d.1) []
end
end Go.Fx.R5
namespace Go.Fx.R5
open Go Go.Fx Go.Proofs Go.Proofs.Tryz
noncomputable section
def iN(q:Nat):Nat→ab→Int→Option (Int×Unit)
 |0,_,_=>none
 |k+1,iw,tX=>
  aa (fun(v:Bool)=>
   bif v then
    iN q k iw (bC (tX+1))
   else
    some (tX,())) fun cJ=>
  bif decide (tX<(iw.length:Int)) then
   (bL iw tX).bind fun b=>
   (rH (b.toNat:Int)).bind fun r1=>
   cJ r1.1
  else
   cJ false
def vR(k:Nat)(ce:ab)(jz:Int):Option (Int×Unit):=
 (iN k k ce jz).bind fun o=>
 some (o.1,())
def yS(k:Nat):mS:=⟨⟨18,[],[rD 0 .str],[rI 1],[]⟩,[.ex (.exit 0) [rI 1]],fun q c v=>iN k q c.1 v.1⟩
def Cx(k:Nat):Ev bw:=⟨[yt],[lp 0 (yS k) k],[]⟩
def GF(k q:Nat):Cd bw:=oM (Cx k) f92 0 (yS k) q []
def K7(k:Nat):Cl bw:=zp (Cx k) 92 f92 func92 call92 [.str,I] [I] (fun d=>vR k d.1 d.2.1) [GF k k]
def mi(q:Nat):Nat→ab→Int→Int→Option (Int×Unit)
 |0,_,_,_=>none
 |k+1,s2,v3,i1=>
  bif decide (i1<(s2.length:Int)) then
   (bL s2 i1).bind fun b2=>
   mi q k s2 (bC ((bC (v3 * 10))+(bC ((IntKind.u8.wrap ((b2.toNat:Int) - 48)))))) (bC (i1+1))
  else
   some (v3,())
def pJ(k:Nat)(s:ab):Option (Int×Unit):=
 aa (fun(v2:Bool)=>
  bif v2 then
   some ((-1),())
  else
   (mi k k s 0 0).bind fun o=>
   bif decide (o.1 > 2147483647) then
    some ((-1),())
   else
    some (o.1,())) fun jf=>
 bif decide ((s.length:Int) > 10) then
  jf true
 else
  aa (fun(v:Bool)=>
   jf v) fun cJ=>
  bif decide ((s.length:Int) > 1) then
   (bL s 0).bind fun b=>
   cJ ((b.toNat:Int)==48)
  else
   cJ false
def zR(k:Nat):mS:=⟨⟨35,[],[rD 0 .str],[rI 3,rI 4],[]⟩,[.ex (.exit 0) [rI 3]],fun q c v=>mi k q c.1 v.1 v.2.1⟩
def DE(k:Nat):Ev bw:=⟨[],[lp 0 (zR k) k],[]⟩
def HM(k q:Nat):Cd bw:=oM (DE k) f93 0 (zR k) q []
def My(k:Nat):Cl bw:=zp (DE k) 93 f93 func93 call93 [.str] [I] (fun d=>pJ k d.1) [HM k k]
def xO:Option (XS×Unit):=
 some ([([43,37]:ab),([45,37]:ab),([42,37]:ab),([60,60]:ab),([62,62]:ab),([61,61]:ab),([33,61]:ab),([60,61]:ab),([62,61]:ab),([46,46]:ab),([43,61]:ab),([43]:ab),([45]:ab),([42]:ab),([47]:ab),([37]:ab),([38]:ab),([124]:ab),([94]:ab),([60]:ab),([62]:ab),([61]:ab),([40]:ab),([41]:ab),([123]:ab),([125]:ab),([91]:ab),([93]:ab),([44]:ab),([59]:ab)],())
def DR:Cl bw:=zp ⟨[],[],[]⟩ 117 f117 func117 call117 [] [sS] (fun d=>xO) []
def nw(q:Nat):Nat→ab→Int→XS→Int→Option (((Unit)⊕(ab×Unit)))
 |0,_,_,_,_=>none
 |k+1,iw,tX,l,i1=>
  bif decide (i1<(l.length:Int)) then
   (bL l i1).bind fun x1=>
   aa (fun(v2:Bool)=>
    bif v2 then
     (bL l i1).bind fun x3=>
     some (.inr (x3,()))
    else
     nw q k iw tX l (bC (i1+1))) fun cJ=>
   bif decide ((x1.length:Int)≤(bC ((iw.length:Int) - tX))) then
    (sub iw tX (bC (tX+(x1.length:Int)))).bind fun l2=>
    (bL l i1).bind fun x2=>
    cJ (l2==x2)
   else
    cJ false
  else
   some (.inl ())
def z8(k:Nat)(ce:ab)(jz:Int):Option (ab×Unit):=
 aa (fun(v:Bool)=>
  bif v then
   some (([]:ab),())
  else
   (xO).bind fun r1=>
   (nw k k ce jz r1.1 0).bind fun r=>match r with
   |.inl o=>
    some (([]:ab),())
   |.inr o2=>
    some (o2.1,())) fun cJ=>
 bif decide (jz<0) then
  cJ true
 else
  cJ (decide (jz≥(ce.length:Int)))
def Br(k:Nat):mS:=⟨⟨51,[],[rD 0 .str,rI 1,rD 5 sS],[rI 6],[]⟩,[.ex (.exit 0) [],.ex .ret [rD 4 .str]],fun q c v=>nw k q c.1 c.2.1 c.2.2.1 v.1⟩
def FT(k:Nat):Ev bw:=⟨[DR],[lp 0 (Br k) k],[]⟩
def Jm(k q:Nat):Cd bw:=oM (FT k) f94 0 (Br k) q []
def Ox(k:Nat):Cl bw:=zp (FT k) 94 f94 func94 call94 [.str,I] [.str] (fun d=>z8 k d.1 d.2.1) [Jm k k]
def oA(k:Nat)(ce:ab)(jz:Int):Option ((Int×Int×ab×Int)×Int×Int×Unit):=
 (bL ce jz).bind fun b=>
 (sH (b.toNat:Int)).bind fun r1=>
 bif r1.1 then
  (Cq k ce jz).bind fun r2=>
  (sub ce jz r2.1).bind fun l=>
  aa (fun(v:Int)=>
   bif decide ((l.length:Int) > 8) then
    some ((v,jz,l,0),r2.1,3,())
   else
    some ((v,jz,l,0),r2.1,0,())) fun cJ=>
  (Aa l).bind fun r3=>
  bif r3.1 then
   cJ 3
  else
   cJ 1
 else
  (bL ce jz).bind fun b2=>
  (rH (b2.toNat:Int)).bind fun r4=>
  bif r4.1 then
   (vR k ce jz).bind fun r5=>
   (sub ce jz r5.1).bind fun l2=>
   (pJ k l2).bind fun r6=>
   bif decide (r6.1<0) then
    some ((2,jz,l2,r6.1),r5.1,4,())
   else
    some ((2,jz,l2,r6.1),r5.1,0,())
  else
   (z8 k ce jz).bind fun r7=>
   bif r7.1==([]:ab) then
    some ((4,jz,r7.1,0),jz,2,())
   else
    some ((4,jz,r7.1,0),(bC (jz+(r7.1.length:Int))),0,())
def QL(k:Nat):Cl bw:=zp ⟨[CU,QM k,Oy,yt,K7 k,My k,Ox k],[],[(4,110)]⟩ 59 f59 func59 call59 [.str,I] [tT,I,I] (fun d=>oA k d.1 d.2.1) []
def fe(q:Nat):Nat→ab→Int→Int→XT→XT→Int→Option (((Int×Int×XT×Unit)⊕(Int×Int×XT×Unit)))
 |0,_,_,_,_,_,_=>none
 |k+1,iw,w,w2,ZK,out,jz=>
  bif decide (jz<(iw.length:Int)) then
   (oA q iw jz).bind fun r2=>
   bif r2.2.2.1 != 0 then
    some (.inr (r2.2.2.1,jz,ZK,()))
   else
    bif decide ((out.length:Int)≥700) then
     some (.inr (5,jz,ZK,()))
    else
     (bE out ([r2.1])).bind fun l=>
     (pi q iw r2.2.1).bind fun r3=>
     fe q k iw w w2 ZK l r3.1
  else
   some (.inl (w,w2,out,()))
def nv(k:Nat)(ce:ab):Option (XT×(Int×Int)×Unit):=
 bif decide ((ce.length:Int) > 3000) then
  some ([],(1,0),())
 else
  (pi k ce 0).bind fun r1=>
  (fe k k ce 0 0 [] [] r1.1).bind fun r=>match r with
  |.inl o=>
   some (o.2.2.1,(0,0),())
  |.inr o2=>
   some (o2.2.2.1,(o2.1,o2.2.1),())
def xf(k:Nat):mS:=⟨⟨51,[(37,2)],[rD 0 .str,rP 3 37],[lI 37 0,lI 37 1,(.r 4,.h .eL tT),(.r 5,.h .eL tT),rI 6],[]⟩,[.ex (.exit 0) [lI 37 0,lI 37 1,(.r 5,.h .eL tT)],.ex .ret [lI 37 0,lI 37 1,(.r 2,.h .eL tT)]],fun q c v=>fe k q c.1 v.1 v.2.1 v.2.2.1 v.2.2.2.1 v.2.2.2.2.1⟩
def AK(k:Nat):Ev bw:=⟨[OA k,QL k],[lp 0 (xf k) k],[(3,37)]⟩
def Fm(k q:Nat):Cd bw:=oM (AK k) f35 0 (xf k) q []
def Jz(k:Nat):Cl bw:=zp (AK k) 35 f35 func35 call35 [.str] [sT,tP] (fun d=>nv k d.1) [Fm k k]
def fK(t:XT)(p Code:Int)(ce:ab):Option (Bool×Unit):=
 aa (fun(v:Bool)=>
  aa (fun(v2:Bool)=>
   aa (fun(v3:Bool)=>
    some (v3,())) fun wg=>
   bif v2 then
    (bL t p).bind fun x2=>
    wg (decide (x2.1≥3))
   else
    wg false) fun jf=>
  bif v then
   (bL t p).bind fun x1=>
   jf (x1.2.2.1==ce)
  else
   jf false) fun cJ=>
 bif Code==0 then
  cJ (decide (p<(t.length:Int)))
 else
  cJ false
def mK:Cl bw:=lO ⟨[],[],[]⟩ 95 f95 func95 call95 [500000] ⟨⟨52,[(77,7)],[lD 77 0 sT,lI 77 1,lI 77 2,lF 77 3 tN,lI 77 4,lI 77 5,lI 77 6],[rP 0 77,rD 1 .str],[]⟩,[.ret [rD 500000 .bool] []],fun c v=>fK c.1 c.2.1 c.2.2.2.2.2.1 v.2.1⟩ []
def b8(t:XT)(p Code:Int)(ce:ab):Option (Bool×Int×Unit):=
 (fK t p Code ce).bind fun r1=>
 bif r1.1 then
  some (true,(bC (p+1)),())
 else
  some (false,p,())
def jt:Cl bw:=lO ⟨[mK],[],[]⟩ 60 f60 func60 call60 [500000] ⟨⟨16,[(77,7)],[lD 77 0 sT,lI 77 2,lF 77 3 tN,lI 77 4,lI 77 5,lI 77 6],[rP 0 77,rD 1 .str,lI 77 1],[]⟩,[.ret [rD 500000 .bool,lI 77 1] []],fun c v=>b8 c.1 v.2.2.1 c.2.2.2.2.1 v.2.1⟩ []
def dl(t:XT)(p aE:Int):Option (Int×Unit):=
 bif decide (p<(t.length:Int)) then
  (bL t p).bind fun x1=>
  some (x1.2.1,())
 else
  some (aE,())
def fP:Cl bw:=lO ⟨[],[],[]⟩ 61 f61 func61 call61 [500000] ⟨⟨28,[(77,7)],[lD 77 0 sT,lI 77 1,lI 77 2,lF 77 3 tN,lI 77 4,lI 77 5,lI 77 6],[rP 0 77],[]⟩,[.ret [rI 500000] []],fun c v=>dl c.1 c.2.1 c.2.2.1⟩ []
def jj(t:XT)(p Code k1:Int):Option (Bool×Unit):=
 aa (fun(v:Bool)=>
  aa (fun(v2:Bool)=>
   some (v2,())) fun jf=>
  bif v then
   (bL t p).bind fun x1=>
   jf (x1.1==k1)
  else
   jf false) fun cJ=>
 bif Code==0 then
  cJ (decide (p<(t.length:Int)))
 else
  cJ false
def nP:Cl bw:=lO ⟨[],[],[]⟩ 96 f96 func96 call96 [500000] ⟨⟨38,[(77,7)],[lD 77 0 sT,lI 77 1,lI 77 2,lF 77 3 tN,lI 77 4,lI 77 5,lI 77 6],[rP 0 77,rI 1],[]⟩,[.ret [rD 500000 .bool] []],fun c v=>jj c.1 c.2.1 c.2.2.2.2.2.1 v.2.1⟩ []
def ji(t:XT)(p aE Code At code:Int):Option (Int×Int×Unit):=
 bif Code==0 then
  (dl t p aE).bind fun r1=>
  some (code,r1.1,())
 else
  some (Code,At,())
def nO:Cl bw:=lO ⟨[fP],[],[]⟩ 97 f97 func97 call97 [] ⟨⟨17,[(77,7)],[lD 77 0 sT,lI 77 1,lI 77 2,lF 77 3 tN,lI 77 4],[rP 0 77,rI 1,lI 77 5,lI 77 6],[]⟩,[.ret [lI 77 5,lI 77 6] []],fun c v=>ji c.1 c.2.1 c.2.2.1 v.2.2.1 v.2.2.2.1 v.2.1⟩ []
def dI(t:XT)(p aE Code At:Int):Option (ab×Int×Int×Int×Unit):=
 (jj t p Code 1).bind fun r1=>
 bif !r1.1 then
  (ji t p aE Code At 6).bind fun r2=>
  some (([]:ab),p,r2.1,r2.2.1,())
 else
  (bL t (bC ((bC (p+1)) - 1))).bind fun x1=>
  some (x1.2.2.1,(bC (p+1)),Code,At,())
def js:Cl bw:=lO ⟨[nP,nO],[],[]⟩ 62 f62 func62 call62 [500000] ⟨⟨28,[(77,7)],[lD 77 0 sT,lI 77 2,lF 77 3 tN,lI 77 4],[rP 0 77,lI 77 1,lI 77 5,lI 77 6],[]⟩,[.ret [rD 500000 .str,lI 77 1,lI 77 5,lI 77 6] []],fun c v=>dI c.1 v.2.1 c.2.1 v.2.2.1 v.2.2.2.1⟩ []
def aO(t:XT)(p aE Code At:Int)(ce:ab):Option (Int×Int×Int×Unit):=
 (b8 t p Code ce).bind fun r1=>
 bif !r1.1 then
  (ji t r1.2.1 aE Code At 6).bind fun r2=>
  some (r1.2.1,r2.1,r2.2.1,())
 else
  some (r1.2.1,Code,At,())
def jr:Cl bw:=lO ⟨[jt,nO],[],[]⟩ 63 f63 func63 call63 [] ⟨⟨10,[(77,7)],[lD 77 0 sT,lI 77 2,lF 77 3 tN,lI 77 4],[rP 0 77,rD 1 .str,lI 77 1,lI 77 5,lI 77 6],[]⟩,[.ret [lI 77 1,lI 77 5,lI 77 6] []],fun c v=>aO c.1 v.2.2.1 c.2.1 v.2.2.2.1 v.2.2.2.2.1 v.2.1⟩ []
def mn(t:XT)(p aE Code At:Int):Option (Int×Int×Int×Int×Unit):=
 (jj t p Code 2).bind fun r1=>
 bif !r1.1 then
  (ji t p aE Code At 6).bind fun r2=>
  some (0,p,r2.1,r2.2.1,())
 else
  (bL t (bC ((bC (p+1)) - 1))).bind fun x1=>
  some (x1.2.2.2,(bC (p+1)),Code,At,())
def zH:Cl bw:=lO ⟨[nP,nO],[],[]⟩ 64 f64 func64 call64 [500000] ⟨⟨28,[(77,7)],[lD 77 0 sT,lI 77 2,lF 77 3 tN,lI 77 4],[rP 0 77,lI 77 1,lI 77 5,lI 77 6],[]⟩,[.ret [rI 500000,lI 77 1,lI 77 5,lI 77 6] []],fun c v=>mn c.1 v.2.1 c.2.1 v.2.2.1 v.2.2.2.1⟩ []
def aW(aA:XN)(Code:Int)(n:Int×Int×Int×ab×XI):Option (Int×XN×Unit):=
 bif Code != 0 then
  some (0,aA,())
 else
  (bE aA ([n])).bind fun l=>
  some ((bC ((l.length:Int) - 1)),l,())
def eW:Cl bw:=lO ⟨[],[],[(3,47)]⟩ 65 f65 func65 call65 [500000] ⟨⟨27,[(77,7)],[lD 77 0 sT,lI 77 1,lI 77 2,lI 77 4,lI 77 5,lI 77 6],[rP 0 77,rD 1 tN,lF 77 3 tN],[]⟩,[.ret [rI 500000,lF 77 3 tN] []],fun c v=>aW v.2.2.1 c.2.2.2.2.1 v.2.1⟩ []
def iJ(t:XT)(p aE bA Code At:Int):Option (Bool×Int×Int×Int×Unit):=
 aa (fun(jv:Int×Int)=>
  some ((jv.1)==0,(bC (bA+1)),(jv.1),(jv.2),())) fun cJ=>
 bif decide ((bC (bA+1)) > 10) then
  (ji t p aE Code At 7).bind fun r1=>
  cJ (r1.1,r1.2.1)
 else
  cJ (Code,At)
def pP:Cl bw:=lO ⟨[nO],[],[]⟩ 98 f98 func98 call98 [500000] ⟨⟨24,[(77,7)],[lD 77 0 sT,lI 77 1,lI 77 2,lF 77 3 tN],[rP 0 77,lI 77 4,lI 77 5,lI 77 6],[]⟩,[.ret [rD 500000 .bool,lI 77 4,lI 77 5,lI 77 6] []],fun c v=>iJ c.1 c.2.1 c.2.2.1 v.2.1 v.2.2.1 v.2.2.2.1⟩ []
def db(q:Nat):Nat→XT→Int→Int→Int→XN→Int→Int→XI→Option (Int×XN×Int×Int×XI×Unit)
 |0,_,_,_,_,_,_,_,_=>none
 |k+1,t3,Xa,k2,p3,Er,HS,At3,vw=>
  (b8 t3 p3 HS ([44]:ab)).bind fun r7=>
  bif r7.1 then
   (dl t3 r7.2.1 Xa).bind fun r8=>
   (dI t3 r7.2.1 Xa HS At3).bind fun r9=>
   (aW Er r9.2.2.1 (k2,r8.1,0,r9.1,[])).bind fun kC=>
   (bE vw ([kC.1])).bind fun l2=>
   db q k t3 Xa k2 r9.2.1 kC.2.1 r9.2.2.1 r9.2.2.2.1 l2
  else
   some (r7.2.1,Er,HS,At3,vw,())
def da(q:Nat):Nat→XT→Int→Int→XN→Int→Int→XI→Option (Int×XN×Int×Int×XI×Unit)
 |0,_,_,_,_,_,_,_=>none
 |k+1,t2,fY,p2,b9,il,HF,out=>
  (fK t2 p2 il ([118,97,114]:ab)).bind fun r1=>
  aa (fun(v:Bool)=>
   bif v then
    aa (fun(k1:Int)=>
     (dl t2 (bC (p2+1)) fY).bind fun r4=>
     (dI t2 (bC (p2+1)) fY il HF).bind fun r5=>
     (aW b9 r5.2.2.1 (k1,r4.1,0,r5.1,[])).bind fun r6=>
     (bE out ([r6.1])).bind fun l=>
     (db q q t2 fY k1 r5.2.1 r6.2.1 r5.2.2.1 r5.2.2.2.1 l).bind fun o=>
     (aO t2 o.1 fY o.2.2.1 o.2.2.2.1 ([59]:ab)).bind fun r7=>
     da q k t2 fY r7.1 o.2.1 r7.2.1 r7.2.2.1 o.2.2.2.2.1) fun jf=>
    (fK t2 p2 il ([114,101,102]:ab)).bind fun r3=>
    bif r3.1 then
     jf 7
    else
     jf 6
   else
    some (p2,b9,il,HF,out,())) fun cJ=>
  bif r1.1 then
   cJ true
  else
   (fK t2 p2 il ([114,101,102]:ab)).bind fun r2=>
   cJ r2.1
def pY(k:Nat)(t:XT)(p aE:Int)(aA:XN)(Code At:Int):Option (XI×Int×XN×Int×Int×Unit):=
 (da k k t aE p aA Code At []).bind fun o=>
 some (o.2.2.2.2.1,o.1,o.2.1,o.2.2.1,o.2.2.2.1,())
def wo(k:Nat):mS:=⟨⟨55,[(77,7)],[lD 77 0 sT,lI 77 2,lI 77 4,rP 0 77,rI 4],[lI 77 1,lF 77 3 tN,lI 77 5,lI 77 6,(.r 3,.h .eL I)],[]⟩,[.ex (.exit 2) [lI 77 1,lF 77 3 tN,lI 77 5,lI 77 6,(.r 3,.h .eL I)]],fun q c v=>db k q c.1 c.2.1 c.2.2.2.2.1 v.1 v.2.1 v.2.2.1 v.2.2.2.1 v.2.2.2.2.1⟩
def wn(k:Nat):mS:=⟨⟨55,[(77,7)],[lD 77 0 sT,lI 77 2,lI 77 4,rP 0 77],[lI 77 1,lF 77 3 tN,lI 77 5,lI 77 6,(.r 3,.h .eL I)],[]⟩,[.ex (.exit 0) [lI 77 1,lF 77 3 tN,lI 77 5,lI 77 6,(.r 3,.h .eL I)]],fun q c v=>da k q c.1 c.2.1 v.1 v.2.1 v.2.2.1 v.2.2.2.1 v.2.2.2.2.1⟩
def ud(k:Nat):Ev bw:=⟨[jt,fP,js,jr,eW,mK],[lp 2 (wo k) k,lp 0 (wn k) k],[]⟩
def DC(k q:Nat):Cd bw:=oM (ud k) f99 2 (wo k) q []
def DB(k q:Nat):Cd bw:=oM (ud k) f99 0 (wn k) q [DC k k]
def Ie(k:Nat):Cl bw:=lO (ud k) 99 f99 func99 call99 [500000] ⟨⟨55,[(77,7)],[lD 77 0 sT,lI 77 2,lI 77 4],[rP 0 77,lI 77 1,lF 77 3 tN,lI 77 5,lI 77 6],[]⟩,[.ret [(.r 500000,.h .eL I),lI 77 1,lF 77 3 tN,lI 77 5,lI 77 6] []],fun c v=>pY k c.1 v.2.1 c.2.1 v.2.2.1 v.2.2.2.1 v.2.2.2.2.1⟩ [DB k k]
def vH(xM:ab)(wu:Int):Option (Int×Unit):=
 aa (fun(v:Bool)=>
  bif v then
   some (7,())
  else
   aa (fun(v2:Bool)=>
    bif v2 then
     some (8,())
    else
     aa (fun(v3:Bool)=>
      bif v3 then
       some (6,())
      else
       aa (fun(v4:Bool)=>
        bif v4 then
         some (9,())
        else
         aa (fun(v5:Bool)=>
          bif v5 then
           some (10,())
          else
           aa (fun(v6:Bool)=>
            bif v6 then
             some (1,())
            else
             aa (fun(v7:Bool)=>
              bif v7 then
               some (2,())
              else
               aa (fun(v8:Bool)=>
                bif v8 then
                 some (11,())
                else
                 aa (fun(v9:Bool)=>
                  bif v9 then
                   some (12,())
                  else
                   aa (fun(v10:Bool)=>
                    bif v10 then
                     some (3,())
                    else
                     aa (fun(v11:Bool)=>
                      bif v11 then
                       some (4,())
                      else
                       aa (fun(v12:Bool)=>
                        bif v12 then
                         some (5,())
                        else
                         aa (fun(v13:Bool)=>
                          bif v13 then
                           some (13,())
                          else
                           some (0,())) fun Zo=>
                         bif wu==6 then
                          Zo (xM==([42,37]:ab))
                         else
                          Zo false) fun Zn=>
                       bif wu==6 then
                        Zn (xM==([37]:ab))
                       else
                        Zn false) fun Zm=>
                     bif wu==6 then
                      Zm (xM==([47]:ab))
                     else
                      Zm false) fun S8=>
                   bif wu==6 then
                    S8 (xM==([42]:ab))
                   else
                    S8 false) fun jx9=>
                 bif wu==5 then
                  jx9 (xM==([45,37]:ab))
                 else
                  jx9 false) fun jx8=>
               bif wu==5 then
                jx8 (xM==([43,37]:ab))
               else
                jx8 false) fun jx7=>
             bif wu==5 then
              jx7 (xM==([45]:ab))
             else
              jx7 false) fun jx6=>
           bif wu==5 then
            jx6 (xM==([43]:ab))
           else
            jx6 false) fun jx5=>
         bif wu==4 then
          jx5 (xM==([62,62]:ab))
         else
          jx5 false) fun jx4=>
       bif wu==4 then
        jx4 (xM==([60,60]:ab))
       else
        jx4 false) fun wg=>
     bif wu==3 then
      wg (xM==([38]:ab))
     else
      wg false) fun jf=>
   bif wu==2 then
    jf (xM==([94]:ab))
   else
    jf false) fun cJ=>
 bif wu==1 then
  cJ (xM==([124]:ab))
 else
  cJ false
theorem lvl{P:Int→Prop}(h0:P 0)(h1:P 1)(h2:P 2)(h3:P 3)(h4:P 4)(h5:P 5)(h6:P 6)(hn:∀ n:Nat,P (.ofNat (n+7)))(hm:∀ n:Nat,P (.negSucc n)):∀ l,P l
 |.ofNat 0=>h0 | .ofNat 1=>h1 | .ofNat 2=>h2 | .ofNat 3=>h3 | .ofNat 4=>h4 | .ofNat 5=>h5 | .ofNat 6=>h6 | .ofNat (n+7)=>hn n | .negSucc n=>hm n
def Um:Ev bw:=⟨[],[],[]⟩
def SC:Cl bw:=zp Um 150 f150 func150 call150 [.str,I] [I] (fun d=>vH d.1 d.2.1) [] (h:=fun d=>lvl (P:=fun l=>∀ s,vH s l=tB Um.e (rR f150) (stD f150.ntmps [.str,I] (s,l,())) (kD Um.e f150.results.toList [I]) (fun _ _=>none)) (fun s=>by kernel_rfl) (fun s=>by kernel_rfl) (fun s=>by kernel_rfl) (fun s=>by kernel_rfl) (fun s=>by kernel_rfl) (fun s=>by kernel_rfl) (fun s=>by kernel_rfl) (fun n s=>by kernel_rfl) (fun n s=>by kernel_rfl) d.2.1 d.1)
def mP(t:XT)(p Code:Int):Option (ab×Unit):=
 (jj t p Code 4).bind fun r1=>
 bif r1.1 then
  (bL t p).bind fun x1=>
  some (x1.2.2.1,())
 else
  some (([]:ab),())
def CW:Cl bw:=lO ⟨[nP],[],[]⟩ 151 f151 func151 call151 [500000] ⟨⟨16,[(77,7)],[lD 77 0 sT,lI 77 1,lI 77 2,lF 77 3 tN,lI 77 4,lI 77 5,lI 77 6],[rP 0 77],[]⟩,[.ret [rD 500000 .str] []],fun c v=>mP c.1 c.2.1 c.2.2.2.2.2.1⟩ []
end
end Go.Fx.R5
namespace Go.Fx.R5
open Go Go.Fx Go.Proofs Go.Proofs.Tryz
noncomputable section
abbrev jF:=XT→Int→Int→XN→Int→Int→Int→Int→Option (Int×Int×XN×Int×Int×Int×Unit)
def rh(f:jF):CF:=⟨⟨57,[(77,7)],[lD 77 0 sT,lI 77 2],[rP 0 77,rI 1,lI 77 1,lF 77 3 tN,lI 77 4,lI 77 5,lI 77 6],[]⟩,[.ret [rI 500000,lI 77 1,lF 77 3 tN,lI 77 4,lI 77 5,lI 77 6] []],fun c v=>f c.1 v.2.2.1 c.2.1 v.2.2.2.1 v.2.2.2.2.1 v.2.2.2.2.2.1 v.2.2.2.2.2.2.1 v.2.1⟩
def AW(f:jF):iL:=mg (rh f).L (rh f).F (zJ [500000] (rh f).V)
abbrev jG:=XT→Int→Int→XN→Int→Int→Int→Option (Int×Int×XN×Int×Int×Int×Unit)
def ri(f:jG):CF:=⟨⟨36,[(77,7)],[lD 77 0 sT,lI 77 2],[rP 0 77,lI 77 1,lF 77 3 tN,lI 77 4,lI 77 5,lI 77 6],[]⟩,[.ret [rI 500000,lI 77 1,lF 77 3 tN,lI 77 4,lI 77 5,lI 77 6] []],fun c v=>f c.1 v.2.1 c.2.1 v.2.2.1 v.2.2.2.1 v.2.2.2.2.1 v.2.2.2.2.2.1⟩
def AX(f:jG):iL:=mg (ri f).L (ri f).F (zJ [500000] (ri f).V)
abbrev iB:=XT→Int→Int→XN→Int→Int→Int→Option (Int×Int×XN×Int×Int×Int×Unit)
def pr(f:iB):CF:=⟨⟨78,[(77,7)],[lD 77 0 sT,lI 77 2],[rP 0 77,lI 77 1,lF 77 3 tN,lI 77 4,lI 77 5,lI 77 6],[]⟩,[.ret [rI 500000,lI 77 1,lF 77 3 tN,lI 77 4,lI 77 5,lI 77 6] []],fun c v=>f c.1 v.2.1 c.2.1 v.2.2.1 v.2.2.2.1 v.2.2.2.2.1 v.2.2.2.2.2.1⟩
def yo(f:iB):iL:=mg (pr f).L (pr f).F (zJ [500000] (pr f).V)
def fL(cq:jF)(cM:jG)(cH:iB)(q:Nat):Nat→XT→Int→Int→Int→XN→Int→Int→Int→Int→Option (Int×XN×Int×Int×Int×Int×Unit)
 |0,_,_,_,_,_,_,_,_,_=>none
 |k+1,t2,fY,n2,p2,b9,kZ,il,HF,x1=>
  aa (fun(v:Bool)=>
   bif v then
    (dl t2 p2 fY).bind fun r5=>
    (mP t2 p2 il).bind fun r6=>
    (vH r6.1 n2).bind fun r7=>
    (cq t2 (bC (p2+1)) fY b9 kZ il HF (bC (n2+1))).bind fun r8=>
    (aW r8.2.2.1 r8.2.2.2.2.1 (28,r5.1,r7.1,([]:ab),[x1,r8.1])).bind fun r9=>
    fL cq cM cH q k t2 fY n2 r8.2.1 r9.2.1 r8.2.2.2.1 r8.2.2.2.2.1 r8.2.2.2.2.2.1 r9.1
   else
    some (p2,b9,kZ,il,HF,x1,())) fun cJ=>
  bif il==0 then
   (mP t2 p2 il).bind fun r3=>
   (vH r3.1 n2).bind fun r4=>
   cJ (r4.1 != 0)
  else
   cJ false
def hJ(cq:jF)(cM:jG)(cH:iB)(k:Nat)(t:XT)(p aE:Int)(aA:XN)(bA Code At n:Int):Option (Int×Int×XN×Int×Int×Int×Unit):=
 bif decide (n > 6) then
  (cM t p aE aA bA Code At).bind fun r1=>
  some (r1.1,r1.2.1,r1.2.2.1,r1.2.2.2.1,r1.2.2.2.2.1,r1.2.2.2.2.2.1,())
 else
  (cq t p aE aA bA Code At (bC (n+1))).bind fun r2=>
  (fL cq cM cH k k t aE n r2.2.1 r2.2.2.1 r2.2.2.2.1 r2.2.2.2.2.1 r2.2.2.2.2.2.1 r2.1).bind fun o=>
  some (o.2.2.2.2.2.1,o.1,o.2.1,o.2.2.1,o.2.2.2.1,o.2.2.2.2.1,())
def iO(cq:jF)(cM:jG)(cH:iB)(k:Nat)(t:XT)(p aE:Int)(aA:XN)(bA Code At:Int):Option (Int×Int×XN×Int×Int×Int×Unit):=
 (dl t p aE).bind fun r1=>
 (b8 t p Code ([45]:ab)).bind fun r2=>
 bif r2.1 then
  (iJ t r2.2.1 aE bA Code At).bind fun r3=>
  bif !r3.1 then
   some (0,r2.2.1,aA,r3.2.1,r3.2.2.1,r3.2.2.2.1,())
  else
   (aW aA r3.2.2.1 (24,r1.1,0,([]:ab),[])).bind fun r4=>
   (cM t r2.2.1 aE r4.2.1 r3.2.1 r3.2.2.1 r3.2.2.2.1).bind fun r5=>
   (aW r5.2.2.1 r5.2.2.2.2.1 (28,r1.1,2,([]:ab),[r4.1,r5.1])).bind fun r6=>
   some (r6.1,r5.2.1,r6.2.1,(bC (r5.2.2.2.1 - 1)),r5.2.2.2.2.1,r5.2.2.2.2.2.1,())
 else
  (cH t r2.2.1 aE aA bA Code At).bind fun r7=>
  some (r7.1,r7.2.1,r7.2.2.1,r7.2.2.2.1,r7.2.2.2.2.1,r7.2.2.2.2.2.1,())
def cI(cq:jF)(cM:jG)(cH:iB)(k:Nat)(t:XT)(p aE:Int)(aA:XN)(bA Code At:Int):Option (Int×Int×XN×Int×Int×Int×Unit):=
 (dl t p aE).bind fun r1=>
 (jj t p Code 2).bind fun r2=>
 bif r2.1 then
  (mn t p aE Code At).bind fun r3=>
  (aW aA r3.2.2.1 (24,r1.1,r3.1,([]:ab),[])).bind fun r4=>
  some (r4.1,r3.2.1,r4.2.1,bA,r3.2.2.1,r3.2.2.2.1,())
 else
  (b8 t p Code ([40]:ab)).bind fun r5=>
  bif r5.1 then
   (iJ t r5.2.1 aE bA Code At).bind fun r6=>
   bif !r6.1 then
    some (0,r5.2.1,aA,r6.2.1,r6.2.2.1,r6.2.2.2.1,())
   else
    (cq t r5.2.1 aE aA r6.2.1 r6.2.2.1 r6.2.2.2.1 1).bind fun r7=>
    (aO t r7.2.1 aE r7.2.2.2.2.1 r7.2.2.2.2.2.1 ([41]:ab)).bind fun r8=>
    some (r7.1,r8.1,r7.2.2.1,(bC (r7.2.2.2.1 - 1)),r8.2.1,r8.2.2.1,())
  else
   (b8 t r5.2.1 Code ([42]:ab)).bind fun r9=>
   bif r9.1 then
    (dI t r9.2.1 aE Code At).bind fun kC=>
    (aW aA kC.2.2.1 (27,r1.1,0,kC.1,[])).bind fun oc=>
    some (oc.1,kC.2.1,oc.2.1,bA,kC.2.2.1,kC.2.2.2.1,())
   else
    (dI t r9.2.1 aE Code At).bind fun pf=>
    (b8 t pf.2.1 pf.2.2.1 ([91]:ab)).bind fun p7=>
    bif p7.1 then
     (iJ t p7.2.1 aE bA pf.2.2.1 pf.2.2.2.1).bind fun rY=>
     bif !rY.1 then
      some (0,p7.2.1,aA,rY.2.1,rY.2.2.1,rY.2.2.2.1,())
     else
      (cq t p7.2.1 aE aA rY.2.1 rY.2.2.1 rY.2.2.2.1 1).bind fun qW=>
      (aO t qW.2.1 aE qW.2.2.2.2.1 qW.2.2.2.2.2.1 ([93]:ab)).bind fun th=>
      (aW qW.2.2.1 th.2.1 (26,r1.1,0,pf.1,[qW.1])).bind fun vA=>
      some (vA.1,th.1,vA.2.1,(bC (qW.2.2.2.1 - 1)),th.2.1,th.2.2.1,())
    else
     (aW aA pf.2.2.1 (25,r1.1,0,pf.1,[])).bind fun rW=>
     some (rW.1,p7.2.1,rW.2.1,bA,pf.2.2.1,pf.2.2.2.1,())
def eE:Nat→jF×jG×iB
 |0=>(fun _ _ _ _ _ _ _ _=>none,fun _ _ _ _ _ _ _=>none,fun _ _ _ _ _ _ _=>none)
 |k+1=>(hJ (eE k).1 (eE k).2.1 (eE k).2.2 k,iO (eE k).1 (eE k).2.1 (eE k).2.2 k,cI (eE k).1 (eE k).2.1 (eE k).2.2 k)
def ao(k:Nat):jF:=(eE k).1
def iF(k:Nat):jG:=(eE k).2.1
def hU(k:Nat):iB:=(eE k).2.2
section
variable (cq:Gd bw 120 AW) (cM:Gd bw 149 AX) (cH:Gd bw 160 yo)
def xp(k:Nat):mS:=⟨⟨57,[(77,7)],[lD 77 0 sT,lI 77 2,rP 0 77,rI 1],[lI 77 1,lF 77 3 tN,lI 77 4,lI 77 5,lI 77 6,rI 5],[]⟩,[.ex (.exit 0) [lI 77 1,lF 77 3 tN,lI 77 4,lI 77 5,lI 77 6,rI 5]],fun q c v=>fL cq.1 cM.1 cH.1 k q c.1 c.2.1 c.2.2.2.1 v.1 v.2.1 v.2.2.1 v.2.2.2.1 v.2.2.2.2.1 v.2.2.2.2.2.1⟩
def AO(k:Nat):Ev bw:=⟨[fP,eW,cq.cl,cM.cl,SC,CW],[lp 0 (xp cq cM cH k) k],[]⟩
def Fw(k q:Nat):Cd bw:=oM (AO cq cM cH k) f120 0 (xp cq cM cH k) q []
def JN(k:Nat):Cl bw:=lO (AO cq cM cH k) 120 f120 func120 call120 [500000] (rh (hJ cq.1 cM.1 cH.1 k)) [Fw cq cM cH k k]
def JO(k:Nat):Cl bw:=lO ⟨[jt,fP,eW,pP,cM.cl,cH.cl],[],[]⟩ 149 f149 func149 call149 [500000] (ri (iO cq.1 cM.1 cH.1 k)) []
def G9(k:Nat):Cl bw:=lO ⟨[jt,fP,js,jr,zH,eW,nP,pP,cq.cl],[],[]⟩ 160 f160 func160 call160 [500000] (pr (cI cq.1 cM.1 cH.1 k)) []
end
theorem nG:∀ k,ld prog gt 120 (AW (ao k))∧ld prog gt 149 (AX (iF k))∧ld prog gt 160 (yo (hU k))
 |0=>⟨cU (fun _ _=>rfl),cU (fun _ _=>rfl),cU (fun _ _=>rfl)⟩
 |k+1=>have ih:=nG k;⟨(JN ⟨_,ih.1⟩ ⟨_,ih.2.1⟩ ⟨_,ih.2.2⟩ k).ok,(JO ⟨_,ih.1⟩ ⟨_,ih.2.1⟩ ⟨_,ih.2.2⟩ k).ok,(G9 ⟨_,ih.1⟩ ⟨_,ih.2.1⟩ ⟨_,ih.2.2⟩ k).ok⟩
def rm(k:Nat):Cl bw:=⟨_,_,(nG k).1⟩
def W5(k:Nat):Cl bw:=⟨_,_,(nG k).2.1⟩
def Ux(k:Nat):Cl bw:=⟨_,_,(nG k).2.2⟩
def oi(t:XT)(p aE:Int)(aA:XN)(Code At:Int):Option (Int×Int×XN×Int×Int×Unit):=
 (dl t p aE).bind fun r1=>
 (dI t p aE Code At).bind fun r2=>
 (aW aA r2.2.2.1 (23,r1.1,0,r2.1,[])).bind fun r3=>
 some (r3.1,r2.2.1,r3.2.1,r2.2.2.1,r2.2.2.2.1,())
def Mz:Cl bw:=lO ⟨[fP,js,eW],[],[]⟩ 146 f146 func146 call146 [500000] ⟨⟨14,[(77,7)],[lD 77 0 sT,lI 77 2,lI 77 4],[rP 0 77,lI 77 1,lF 77 3 tN,lI 77 5,lI 77 6],[]⟩,[.ret [rI 500000,lI 77 1,lF 77 3 tN,lI 77 5,lI 77 6] []],fun c v=>oi c.1 v.2.1 c.2.1 v.2.2.1 v.2.2.2.1 v.2.2.2.2.1⟩ []
def vS(t:XT)(p:Int)(ce:ab):Option (Bool×Unit):=
 aa (fun(v:Bool)=>
  aa (fun(v2:Bool)=>
   some (v2,())) fun jf=>
  bif v then
   (bL t (bC (p+1))).bind fun x2=>
   jf (x2.1==4)
  else
   jf false) fun cJ=>
 bif decide ((bC (p+1))<(t.length:Int)) then
  (bL t (bC (p+1))).bind fun x1=>
  cJ (x1.2.2.1==ce)
 else
  cJ false
def Lb:Cl bw:=lO ⟨[],[],[]⟩ 147 f147 func147 call147 [500000] ⟨⟨47,[(77,7)],[lD 77 0 sT,lI 77 1,lI 77 2,lF 77 3 tN,lI 77 4,lI 77 5,lI 77 6],[rP 0 77,rD 1 .str],[]⟩,[.ret [rD 500000 .bool] []],fun c v=>vS c.1 c.2.1 v.2.1⟩ []
def bz(q:Nat):Nat→XT→Int→Int→XN→Int→Int→Int→XI→Option (Int×XN×Int×Int×Int×XI×Unit)
 |0,_,_,_,_,_,_,_,_=>none
 |k+1,t2,fY,p2,b9,kZ,il,HF,cL=>
  aa (fun(v2:Bool)=>
   bif v2 then
    aa (fun(jv:Int×Int×Int)=>
     (ao q t2 (jv.1) fY b9 kZ (jv.2.1) (jv.2.2) 1).bind fun r28=>
     (bE cL ([r28.1])).bind fun l=>
     bz q k t2 fY r28.2.1 r28.2.2.1 r28.2.2.2.1 r28.2.2.2.2.1 r28.2.2.2.2.2.1 l) fun jf=>
    bif decide ((cL.length:Int) > 1) then
     (aO t2 p2 fY il HF ([44]:ab)).bind fun r27=>
     jf (r27.1,r27.2.1,r27.2.2.1)
    else
     jf (p2,il,HF)
   else
    some (p2,b9,kZ,il,HF,cL,())) fun cJ=>
  bif il==0 then
   (fK t2 p2 il ([41]:ab)).bind fun r26=>
   cJ (!r26.1)
  else
   cJ false
def eq(k:Nat)(t:XT)(p aE:Int)(aA:XN)(bA Code At:Int):Option (Int×Int×XN×Int×Int×Int×Unit):=
 (dl t p aE).bind fun r1=>
 (dI t p aE Code At).bind fun r2=>
 (b8 t r2.2.1 r2.2.2.1 ([91]:ab)).bind fun r3=>
 bif r3.1 then
  (ao k t r3.2.1 aE aA bA r2.2.2.1 r2.2.2.2.1 1).bind fun r4=>
  (aO t r4.2.1 aE r4.2.2.2.2.1 r4.2.2.2.2.2.1 ([93]:ab)).bind fun r5=>
  (aO t r5.1 aE r5.2.1 r5.2.2.1 ([61]:ab)).bind fun r6=>
  (ao k t r6.1 aE r4.2.2.1 r4.2.2.2.1 r6.2.1 r6.2.2.1 1).bind fun r7=>
  (aO t r7.2.1 aE r7.2.2.2.2.1 r7.2.2.2.2.2.1 ([59]:ab)).bind fun r8=>
  (aW r7.2.2.1 r8.2.1 (10,r1.1,0,r2.1,[r4.1,r7.1])).bind fun r9=>
  some (r9.1,r8.1,r9.2.1,r7.2.2.2.1,r8.2.1,r8.2.2.1,())
 else
  (b8 t r3.2.1 r2.2.2.1 ([43,61]:ab)).bind fun kC=>
  bif kC.1 then
   (ao k t kC.2.1 aE aA bA r2.2.2.1 r2.2.2.2.1 1).bind fun oc=>
   (aO t oc.2.1 aE oc.2.2.2.2.1 oc.2.2.2.2.2.1 ([59]:ab)).bind fun pf=>
   (aW oc.2.2.1 pf.2.1 (13,r1.1,0,r2.1,[oc.1])).bind fun p7=>
   some (p7.1,pf.1,p7.2.1,oc.2.2.2.1,pf.2.1,pf.2.2.1,())
  else
   (aO t kC.2.1 aE r2.2.2.1 r2.2.2.2.1 ([61]:ab)).bind fun rY=>
   (b8 t rY.1 rY.2.1 ([38]:ab)).bind fun qW=>
   bif qW.1 then
    (oi t qW.2.1 aE aA rY.2.1 rY.2.2.1).bind fun th=>
    (aO t th.2.1 aE th.2.2.2.1 th.2.2.2.2.1 ([91]:ab)).bind fun vA=>
    (ao k t vA.1 aE th.2.2.1 bA vA.2.1 vA.2.2.1 1).bind fun rW=>
    (aO t rW.2.1 aE rW.2.2.2.2.1 rW.2.2.2.2.2.1 ([93]:ab)).bind fun qX=>
    (aO t qX.1 aE qX.2.1 qX.2.2.1 ([59]:ab)).bind fun vB=>
    (aW rW.2.2.1 vB.2.1 (12,r1.1,0,r2.1,[th.1,rW.1])).bind fun y8=>
    some (y8.1,vB.1,y8.2.1,rW.2.2.2.1,vB.2.1,vB.2.2.1,())
   else
    (jj t qW.2.1 rY.2.1 1).bind fun Kf=>
    aa (fun(v:Bool)=>
     bif v then
      (oi t qW.2.1 aE aA rY.2.1 rY.2.2.1).bind fun Jk=>
      (aO t Jk.2.1 aE Jk.2.2.2.1 Jk.2.2.2.2.1 ([40]:ab)).bind fun r25=>
      (bz k k t aE r25.1 Jk.2.2.1 bA r25.2.1 r25.2.2.1 ([Jk.1])).bind fun o=>
      (aO t o.1 aE o.2.2.2.1 o.2.2.2.2.1 ([41]:ab)).bind fun r26=>
      (aO t r26.1 aE r26.2.1 r26.2.2.1 ([59]:ab)).bind fun r27=>
      (aW o.2.1 r27.2.1 (22,r1.1,0,r2.1,o.2.2.2.2.2.1)).bind fun r28=>
      some (r28.1,r27.1,r28.2.1,o.2.2.1,r27.2.1,r27.2.2.1,())
     else
      aa (fun(jv:Int×Int×XN×Int×Int×Int)=>
       (aO t (jv.2.1) aE (jv.2.2.2.2.1) (jv.2.2.2.2.2) ([59]:ab)).bind fun r33=>
       (aW (jv.2.2.1) r33.2.1 (9,r1.1,0,r2.1,[(jv.1)])).bind fun r34=>
       some (r34.1,r33.1,r34.2.1,(jv.2.2.2.1),r33.2.1,r33.2.2.1,())) fun jf=>
      (fK t qW.2.1 rY.2.1 ([110,117,108,108]:ab)).bind fun r29=>
      bif r29.1 then
       (dl t qW.2.1 aE).bind fun r30=>
       (aW aA rY.2.1 (29,r30.1,0,([]:ab),[])).bind fun r31=>
       jf (r31.1,(bC (qW.2.1+1)),r31.2.1,bA,rY.2.1,rY.2.2.1)
      else
       (ao k t qW.2.1 aE aA bA rY.2.1 rY.2.2.1 1).bind fun r32=>
       jf (r32.1,r32.2.1,r32.2.2.1,r32.2.2.2.1,r32.2.2.2.2.1,r32.2.2.2.2.2.1)) fun cJ=>
    bif Kf.1 then
     (vS t qW.2.1 ([40]:ab)).bind fun I3=>
     cJ I3.1
    else
     cJ false
def xq(k:Nat):mS:=⟨⟨139,[(77,7)],[lD 77 0 sT,lI 77 2,rP 0 77,rI 3,rD 4 .str],[lI 77 1,lF 77 3 tN,lI 77 4,lI 77 5,lI 77 6,(.r 10,.h .eL I)],[]⟩,[.ex (.exit 0) [lI 77 1,lF 77 3 tN,lI 77 4,lI 77 5,lI 77 6,(.r 10,.h .eL I)]],fun q c v=>bz k q c.1 c.2.1 v.1 v.2.1 v.2.2.1 v.2.2.2.1 v.2.2.2.2.1 v.2.2.2.2.2.1⟩
def AP(k:Nat):Ev bw:=⟨[jt,fP,js,jr,eW,mK,nP,rm k,Mz,Lb],[lp 0 (xq k) k],[]⟩
def Fy(k q:Nat):Cd bw:=oM (AP k) f118 0 (xq k) q []
def JB(k:Nat):Cl bw:=lO (AP k) 118 f118 func118 call118 [500000] ⟨⟨139,[(77,7)],[lD 77 0 sT,lI 77 2],[rP 0 77,lI 77 1,lF 77 3 tN,lI 77 4,lI 77 5,lI 77 6],[]⟩,[.ret [rI 500000,lI 77 1,lF 77 3 tN,lI 77 4,lI 77 5,lI 77 6] []],fun c v=>eq k c.1 v.2.1 c.2.1 v.2.2.1 v.2.2.2.1 v.2.2.2.2.1 v.2.2.2.2.2.1⟩ [Fy k k]
def Cr(xM:ab):Option (Int×Unit):=
 bif xM==([61,61]:ab) then
  some (1,())
 else
  bif xM==([33,61]:ab) then
   some (2,())
  else
   bif xM==([60]:ab) then
    some (3,())
   else
    bif xM==([60,61]:ab) then
     some (4,())
    else
     bif xM==([62]:ab) then
      some (5,())
     else
      bif xM==([62,61]:ab) then
       some (6,())
      else
       some (0,())
def QN:Cl bw:=zp ⟨[],[],[]⟩ 170 f170 func170 call170 [.str] [I] (fun d=>Cr d.1) []
abbrev jn:=XT→Int→Int→XN→Int→Int→Int→Option (Int×Int×XN×Int×Int×Int×Unit)
def sP(f:jn):CF:=⟨⟨30,[(77,7)],[lD 77 0 sT,lI 77 2],[rP 0 77,lI 77 1,lF 77 3 tN,lI 77 4,lI 77 5,lI 77 6],[]⟩,[.ret [rI 500000,lI 77 1,lF 77 3 tN,lI 77 4,lI 77 5,lI 77 6] []],fun c v=>f c.1 v.2.1 c.2.1 v.2.2.1 v.2.2.2.1 v.2.2.2.2.1 v.2.2.2.2.2.1⟩
def CL(f:jn):iL:=mg (sP f).L (sP f).F (zJ [500000] (sP f).V)
abbrev jm:=XT→Int→Int→XN→Int→Int→Int→Option (Int×Int×XN×Int×Int×Int×Unit)
def sO(f:jm):CF:=⟨⟨30,[(77,7)],[lD 77 0 sT,lI 77 2],[rP 0 77,lI 77 1,lF 77 3 tN,lI 77 4,lI 77 5,lI 77 6],[]⟩,[.ret [rI 500000,lI 77 1,lF 77 3 tN,lI 77 4,lI 77 5,lI 77 6] []],fun c v=>f c.1 v.2.1 c.2.1 v.2.2.1 v.2.2.2.1 v.2.2.2.2.1 v.2.2.2.2.2.1⟩
def CK(f:jm):iL:=mg (sO f).L (sO f).F (zJ [500000] (sO f).V)
abbrev jo:=XT→Int→Int→XN→Int→Int→Int→Option (Int×Int×XN×Int×Int×Int×Unit)
def sR(f:jo):CF:=⟨⟨89,[(77,7)],[lD 77 0 sT,lI 77 2],[rP 0 77,lI 77 1,lF 77 3 tN,lI 77 4,lI 77 5,lI 77 6],[]⟩,[.ret [rI 500000,lI 77 1,lF 77 3 tN,lI 77 4,lI 77 5,lI 77 6] []],fun c v=>f c.1 v.2.1 c.2.1 v.2.2.1 v.2.2.2.1 v.2.2.2.2.1 v.2.2.2.2.2.1⟩
def CM(f:jo):iL:=mg (sR f).L (sR f).F (zJ [500000] (sR f).V)
def gu(bI:jn)(bD:jm)(bj:jo)(q:Nat):Nat→XT→Int→Int→XN→Int→Int→Int→Int→Option (Int×XN×Int×Int×Int×Int×Unit)
 |0,_,_,_,_,_,_,_,_=>none
 |k+1,t2,fY,p2,b9,kZ,il,HF,x1=>
  (fK t2 p2 il ([111,114]:ab)).bind fun r2=>
  bif r2.1 then
   (dl t2 p2 fY).bind fun r3=>
   (bD t2 (bC (p2+1)) fY b9 kZ il HF).bind fun r4=>
   (aW r4.2.2.1 r4.2.2.2.2.1 (32,r3.1,0,([]:ab),[x1,r4.1])).bind fun r5=>
   gu bI bD bj q k t2 fY r4.2.1 r5.2.1 r4.2.2.2.1 r4.2.2.2.2.1 r4.2.2.2.2.2.1 r5.1
  else
   some (p2,b9,kZ,il,HF,x1,())
def mm(bI:jn)(bD:jm)(bj:jo)(k:Nat)(t:XT)(p aE:Int)(aA:XN)(bA Code At:Int):Option (Int×Int×XN×Int×Int×Int×Unit):=
 (bD t p aE aA bA Code At).bind fun r1=>
 (gu bI bD bj k k t aE r1.2.1 r1.2.2.1 r1.2.2.2.1 r1.2.2.2.2.1 r1.2.2.2.2.2.1 r1.1).bind fun o=>
 some (o.2.2.2.2.2.1,o.1,o.2.1,o.2.2.1,o.2.2.2.1,o.2.2.2.2.1,())
def gq(bI:jn)(bD:jm)(bj:jo)(q:Nat):Nat→XT→Int→Int→XN→Int→Int→Int→Int→Option (Int×XN×Int×Int×Int×Int×Unit)
 |0,_,_,_,_,_,_,_,_=>none
 |k+1,t2,fY,p2,b9,kZ,il,HF,x1=>
  (fK t2 p2 il ([97,110,100]:ab)).bind fun r2=>
  bif r2.1 then
   (dl t2 p2 fY).bind fun r3=>
   (bj t2 (bC (p2+1)) fY b9 kZ il HF).bind fun r4=>
   (aW r4.2.2.1 r4.2.2.2.2.1 (31,r3.1,0,([]:ab),[x1,r4.1])).bind fun r5=>
   gq bI bD bj q k t2 fY r4.2.1 r5.2.1 r4.2.2.2.1 r4.2.2.2.2.1 r4.2.2.2.2.2.1 r5.1
  else
   some (p2,b9,kZ,il,HF,x1,())
def mj(bI:jn)(bD:jm)(bj:jo)(k:Nat)(t:XT)(p aE:Int)(aA:XN)(bA Code At:Int):Option (Int×Int×XN×Int×Int×Int×Unit):=
 (bj t p aE aA bA Code At).bind fun r1=>
 (gq bI bD bj k k t aE r1.2.1 r1.2.2.1 r1.2.2.2.1 r1.2.2.2.2.1 r1.2.2.2.2.2.1 r1.1).bind fun o=>
 some (o.2.2.2.2.2.1,o.1,o.2.1,o.2.2.1,o.2.2.2.1,o.2.2.2.2.1,())
def dF(bI:jn)(bD:jm)(bj:jo)(k:Nat)(t:XT)(p aE:Int)(aA:XN)(bA Code At:Int):Option (Int×Int×XN×Int×Int×Int×Unit):=
 (dl t p aE).bind fun r1=>
 (b8 t p Code ([110,111,116]:ab)).bind fun r2=>
 bif r2.1 then
  (iJ t r2.2.1 aE bA Code At).bind fun r3=>
  bif !r3.1 then
   some (0,r2.2.1,aA,r3.2.1,r3.2.2.1,r3.2.2.2.1,())
  else
   (bj t r2.2.1 aE aA r3.2.1 r3.2.2.1 r3.2.2.2.1).bind fun r4=>
   (aW r4.2.2.1 r4.2.2.2.2.1 (33,r1.1,0,([]:ab),[r4.1])).bind fun r5=>
   some (r5.1,r4.2.1,r5.2.1,(bC (r4.2.2.2.1 - 1)),r4.2.2.2.2.1,r4.2.2.2.2.2.1,())
 else
  (b8 t r2.2.1 Code ([91]:ab)).bind fun r6=>
  bif r6.1 then
   (iJ t r6.2.1 aE bA Code At).bind fun r7=>
   bif !r7.1 then
    some (0,r6.2.1,aA,r7.2.1,r7.2.2.1,r7.2.2.2.1,())
   else
    (bI t r6.2.1 aE aA r7.2.1 r7.2.2.1 r7.2.2.2.1).bind fun r8=>
    (aO t r8.2.1 aE r8.2.2.2.2.1 r8.2.2.2.2.2.1 ([93]:ab)).bind fun r9=>
    some (r8.1,r9.1,r8.2.2.1,(bC (r8.2.2.2.1 - 1)),r9.2.1,r9.2.2.1,())
  else
   (b8 t r6.2.1 Code ([110,117,108,108]:ab)).bind fun kC=>
   bif kC.1 then
    (dI t kC.2.1 aE Code At).bind fun oc=>
    (aW aA oc.2.2.1 (34,r1.1,0,oc.1,[])).bind fun pf=>
    some (pf.1,oc.2.1,pf.2.1,bA,oc.2.2.1,oc.2.2.2.1,())
   else
    (ao k t kC.2.1 aE aA bA Code At 1).bind fun p7=>
    (dl t p7.2.1 aE).bind fun rY=>
    (mP t p7.2.1 p7.2.2.2.2.1).bind fun qW=>
    (Cr qW.1).bind fun th=>
    bif th.1==0 then
     (ji t p7.2.1 aE p7.2.2.2.2.1 p7.2.2.2.2.2.1 6).bind fun vA=>
     some (0,p7.2.1,p7.2.2.1,p7.2.2.2.1,vA.1,vA.2.1,())
    else
     (ao k t (bC (p7.2.1+1)) aE p7.2.2.1 p7.2.2.2.1 p7.2.2.2.2.1 p7.2.2.2.2.2.1 1).bind fun rW=>
     (aW rW.2.2.1 rW.2.2.2.2.1 (30,rY.1,th.1,([]:ab),[p7.1,rW.1])).bind fun qX=>
     some (qX.1,rW.2.1,qX.2.1,rW.2.2.2.1,rW.2.2.2.2.1,rW.2.2.2.2.2.1,())
def eX:Nat→jn×jm×jo
 |0=>(fun _ _ _ _ _ _ _=>none,fun _ _ _ _ _ _ _=>none,fun _ _ _ _ _ _ _=>none)
 |k+1=>(mm (eX k).1 (eX k).2.1 (eX k).2.2 k,mj (eX k).1 (eX k).2.1 (eX k).2.2 k,dF (eX k).1 (eX k).2.1 (eX k).2.2 k)
def ee(k:Nat):jn:=(eX k).1
def gC(k:Nat):jm:=(eX k).2.1
def fC(k:Nat):jo:=(eX k).2.2
section
variable (bI:Gd bw 121 CL) (bD:Gd bw 152 CK) (bj:Gd bw 161 CM)
def yV(k:Nat):mS:=⟨⟨30,[(77,7)],[lD 77 0 sT,lI 77 2,rP 0 77],[lI 77 1,lF 77 3 tN,lI 77 4,lI 77 5,lI 77 6,rI 3],[]⟩,[.ex (.exit 0) [lI 77 1,lF 77 3 tN,lI 77 4,lI 77 5,lI 77 6,rI 3]],fun q c v=>gu bI.1 bD.1 bj.1 k q c.1 c.2.1 v.1 v.2.1 v.2.2.1 v.2.2.2.1 v.2.2.2.2.1 v.2.2.2.2.2.1⟩
def CC(k:Nat):Ev bw:=⟨[fP,eW,mK,bD.cl],[lp 0 (yV bI bD bj k) k],[]⟩
def GI(k q:Nat):Cd bw:=oM (CC bI bD bj k) f121 0 (yV bI bD bj k) q []
def Lm(k:Nat):Cl bw:=lO (CC bI bD bj k) 121 f121 func121 call121 [500000] (sP (mm bI.1 bD.1 bj.1 k)) [GI bI bD bj k k]
def yU(k:Nat):mS:=⟨⟨30,[(77,7)],[lD 77 0 sT,lI 77 2,rP 0 77],[lI 77 1,lF 77 3 tN,lI 77 4,lI 77 5,lI 77 6,rI 3],[]⟩,[.ex (.exit 0) [lI 77 1,lF 77 3 tN,lI 77 4,lI 77 5,lI 77 6,rI 3]],fun q c v=>gq bI.1 bD.1 bj.1 k q c.1 c.2.1 v.1 v.2.1 v.2.2.1 v.2.2.2.1 v.2.2.2.2.1 v.2.2.2.2.2.1⟩
def CB(k:Nat):Ev bw:=⟨[fP,eW,mK,bj.cl],[lp 0 (yU bI bD bj k) k],[]⟩
def GH(k q:Nat):Cd bw:=oM (CB bI bD bj k) f152 0 (yU bI bD bj k) q []
def Ll(k:Nat):Cl bw:=lO (CB bI bD bj k) 152 f152 func152 call152 [500000] (sO (mj bI.1 bD.1 bj.1 k)) [GH bI bD bj k k]
def Ln(k:Nat):Cl bw:=lO ⟨[jt,fP,js,jr,eW,nO,pP,rm k,bI.cl,CW,bj.cl,QN],[],[]⟩ 161 f161 func161 call161 [500000] (sR (dF bI.1 bD.1 bj.1 k)) []
end
theorem nU:∀ k,ld prog gt 121 (CL (ee k))∧ld prog gt 152 (CK (gC k))∧ld prog gt 161 (CM (fC k))
 |0=>⟨cU (fun _ _=>rfl),cU (fun _ _=>rfl),cU (fun _ _=>rfl)⟩
 |k+1=>have ih:=nU k;⟨(Lm ⟨_,ih.1⟩ ⟨_,ih.2.1⟩ ⟨_,ih.2.2⟩ k).ok,(Ll ⟨_,ih.1⟩ ⟨_,ih.2.1⟩ ⟨_,ih.2.2⟩ k).ok,(Ln ⟨_,ih.1⟩ ⟨_,ih.2.1⟩ ⟨_,ih.2.2⟩ k).ok⟩
def CV(k:Nat):Cl bw:=⟨_,_,(nU k).1⟩
def X3(k:Nat):Cl bw:=⟨_,_,(nU k).2.1⟩
def X4(k:Nat):Cl bw:=⟨_,_,(nU k).2.2⟩
end
end Go.Fx.R5
namespace Go.Fx.R5
open Go Go.Fx Go.Proofs Go.Proofs.Tryz
noncomputable section
abbrev gE:=XT→Int→Int→XN→Int→Int→Int→Option (Int×Int×XN×Int×Int×Int×Unit)
def nT(f:gE):CF:=⟨⟨77,[(77,7)],[lD 77 0 sT,lI 77 2],[rP 0 77,lI 77 1,lF 77 3 tN,lI 77 4,lI 77 5,lI 77 6],[]⟩,[.ret [rI 500000,lI 77 1,lF 77 3 tN,lI 77 4,lI 77 5,lI 77 6] []],fun c v=>f c.1 v.2.1 c.2.1 v.2.2.1 v.2.2.2.1 v.2.2.2.2.1 v.2.2.2.2.2.1⟩
def vY(f:gE):iL:=mg (nT f).L (nT f).F (zJ [500000] (nT f).V)
abbrev iV:=XT→Int→Int→XN→Int→Int→Int→Option (Int×Int×XN×Int×Int×Int×Unit)
def qg(f:iV):CF:=⟨⟨73,[(77,7)],[lD 77 0 sT,lI 77 2],[rP 0 77,lI 77 1,lF 77 3 tN,lI 77 4,lI 77 5,lI 77 6],[]⟩,[.ret [rI 500000,lI 77 1,lF 77 3 tN,lI 77 4,lI 77 5,lI 77 6] []],fun c v=>f c.1 v.2.1 c.2.1 v.2.2.1 v.2.2.2.1 v.2.2.2.2.1 v.2.2.2.2.2.1⟩
def zB(f:iV):iL:=mg (qg f).L (qg f).F (zJ [500000] (qg f).V)
abbrev jE:=XT→Int→Int→XN→Int→Int→Int→Option (Int×Int×XN×Int×Int×Int×Unit)
def qZ(f:jE):CF:=⟨⟨44,[(77,7)],[lD 77 0 sT,lI 77 2],[rP 0 77,lI 77 1,lF 77 3 tN,lI 77 4,lI 77 5,lI 77 6],[]⟩,[.ret [rI 500000,lI 77 1,lF 77 3 tN,lI 77 4,lI 77 5,lI 77 6] []],fun c v=>f c.1 v.2.1 c.2.1 v.2.2.1 v.2.2.2.1 v.2.2.2.2.1 v.2.2.2.2.2.1⟩
def AV(f:jE):iL:=mg (qZ f).L (qZ f).F (zJ [500000] (qZ f).V)
def bU(bT:gE)(cS:iV)(cE:jE)(k:Nat)(t:XT)(p aE:Int)(aA:XN)(bA Code At:Int):Option (Int×Int×XN×Int×Int×Int×Unit):=
 (dl t p aE).bind fun r1=>
 (jj t p Code 1).bind fun r2=>
 bif r2.1 then
  (eq k t p aE aA bA Code At).bind fun r3=>
  some (r3.1,r3.2.1,r3.2.2.1,r3.2.2.2.1,r3.2.2.2.2.1,r3.2.2.2.2.2.1,())
 else
  (fK t p Code ([105,102]:ab)).bind fun r4=>
  aa (fun(v:Bool)=>
   aa (fun(v2:Bool)=>
    bif v2 then
     (cS t p aE aA bA Code At).bind fun r7=>
     some (r7.1,r7.2.1,r7.2.2.1,r7.2.2.2.1,r7.2.2.2.2.1,r7.2.2.2.2.2.1,())
    else
     aa (fun(jv:Int×XN×Int×Int×Int×Int×Int×ab×XI)=>
      (aO t (jv.1) aE (jv.2.2.2.1) (jv.2.2.2.2.1) ([59]:ab)).bind fun I3=>
      (aW (jv.2.1) I3.2.1 ((jv.2.2.2.2.2.1),(jv.2.2.2.2.2.2.1),0,(jv.2.2.2.2.2.2.2.1),(jv.2.2.2.2.2.2.2.2))).bind fun Jk=>
      some (Jk.1,I3.1,Jk.2.1,(jv.2.2.1),I3.2.1,I3.2.2.1,())) fun wg=>
     (b8 t p Code ([42]:ab)).bind fun r8=>
     bif r8.1 then
      (dI t r8.2.1 aE Code At).bind fun r9=>
      (aO t r9.2.1 aE r9.2.2.1 r9.2.2.2.1 ([61]:ab)).bind fun kC=>
      (ao k t kC.1 aE aA bA kC.2.1 kC.2.2.1 1).bind fun oc=>
      wg (oc.2.1,oc.2.2.1,oc.2.2.2.1,oc.2.2.2.2.1,oc.2.2.2.2.2.1,11,r1.1,r9.1,[oc.1])
     else
      (b8 t r8.2.1 Code ([114,101,97,100]:ab)).bind fun pf=>
      bif pf.1 then
       (dl t pf.2.1 aE).bind fun p7=>
       (dI t pf.2.1 aE Code At).bind fun rY=>
       wg (rY.2.1,aA,bA,rY.2.2.1,rY.2.2.2.1,17,p7.1,rY.1,[])
      else
       (b8 t pf.2.1 Code ([112,114,105,110,116]:ab)).bind fun qW=>
       bif qW.1 then
        (ao k t qW.2.1 aE aA bA Code At 1).bind fun th=>
        wg (th.2.1,th.2.2.1,th.2.2.2.1,th.2.2.2.2.1,th.2.2.2.2.2.1,18,r1.1,([]:ab),[th.1])
       else
        (b8 t qW.2.1 Code ([97,115,115,101,114,116]:ab)).bind fun vA=>
        bif vA.1 then
         (ee k t vA.2.1 aE aA bA Code At).bind fun rW=>
         wg (rW.2.1,rW.2.2.1,rW.2.2.2.1,rW.2.2.2.2.1,rW.2.2.2.2.2.1,19,r1.1,([]:ab),[rW.1])
        else
         (b8 t vA.2.1 Code ([115,116,111,112]:ab)).bind fun qX=>
         bif qX.1 then
          wg (qX.2.1,aA,bA,Code,At,20,r1.1,([]:ab),[])
         else
          (b8 t qX.2.1 Code ([114,101,116,117,114,110]:ab)).bind fun vB=>
          bif vB.1 then
           (ao k t vB.2.1 aE aA bA Code At 1).bind fun y8=>
           wg (y8.2.1,y8.2.2.1,y8.2.2.2.1,y8.2.2.2.2.1,y8.2.2.2.2.2.1,21,r1.1,([]:ab),[y8.1])
          else
           (ji t vB.2.1 aE Code At 6).bind fun Kf=>
           wg (vB.2.1,aA,bA,Kf.1,Kf.2.1,0,r1.1,([]:ab),[])) fun jf=>
   bif v then
    jf true
   else
    (fK t p Code ([102,111,114]:ab)).bind fun r6=>
    jf r6.1) fun cJ=>
  bif r4.1 then
   cJ true
  else
   (fK t p Code ([119,104,105,108,101]:ab)).bind fun r5=>
   cJ r5.1
def ko(bT:gE)(cS:iV)(cE:jE)(k:Nat)(t:XT)(p aE:Int)(aA:XN)(bA Code At:Int):Option (Int×Int×XN×Int×Int×Int×Unit):=
 (dl t p aE).bind fun r1=>
 (b8 t p Code ([105,102]:ab)).bind fun r2=>
 bif r2.1 then
  (ee k t r2.2.1 aE aA bA Code At).bind fun r3=>
  (cE t r3.2.1 aE r3.2.2.1 r3.2.2.2.1 r3.2.2.2.2.1 r3.2.2.2.2.2.1).bind fun r4=>
  (bE ([r3.1]) ([r4.1])).bind fun l=>
  aa (fun(jv:XI×Int×XN×Int×Int×Int)=>
   (aW (jv.2.2.1) (jv.2.2.2.2.1) (14,r1.1,0,([]:ab),(jv.1))).bind fun r7=>
   some (r7.1,(jv.2.1),r7.2.1,(jv.2.2.2.1),(jv.2.2.2.2.1),(jv.2.2.2.2.2),())) fun cJ=>
  (b8 t r4.2.1 r4.2.2.2.2.1 ([101,108,115,101]:ab)).bind fun r5=>
  bif r5.1 then
   (cE t r5.2.1 aE r4.2.2.1 r4.2.2.2.1 r4.2.2.2.2.1 r4.2.2.2.2.2.1).bind fun r6=>
   (bE l ([r6.1])).bind fun l2=>
   cJ (l2,r6.2.1,r6.2.2.1,r6.2.2.2.1,r6.2.2.2.2.1,r6.2.2.2.2.2.1)
  else
   cJ (l,r5.2.1,r4.2.2.1,r4.2.2.2.1,r4.2.2.2.2.1,r4.2.2.2.2.2.1)
 else
  (b8 t r2.2.1 Code ([119,104,105,108,101]:ab)).bind fun r8=>
  bif r8.1 then
   (ee k t r8.2.1 aE aA bA Code At).bind fun r9=>
   (cE t r9.2.1 aE r9.2.2.1 r9.2.2.2.1 r9.2.2.2.2.1 r9.2.2.2.2.2.1).bind fun kC=>
   (aW kC.2.2.1 kC.2.2.2.2.1 (15,r1.1,0,([]:ab),[r9.1,kC.1])).bind fun oc=>
   some (oc.1,kC.2.1,oc.2.1,kC.2.2.2.1,kC.2.2.2.2.1,kC.2.2.2.2.2.1,())
  else
   (aO t r8.2.1 aE Code At ([102,111,114]:ab)).bind fun pf=>
   (dl t pf.1 aE).bind fun p7=>
   (dI t pf.1 aE pf.2.1 pf.2.2.1).bind fun rY=>
   (aO t rY.2.1 aE rY.2.2.1 rY.2.2.2.1 ([61]:ab)).bind fun qW=>
   (ao k t qW.1 aE aA bA qW.2.1 qW.2.2.1 1).bind fun th=>
   (aO t th.2.1 aE th.2.2.2.2.1 th.2.2.2.2.2.1 ([46,46]:ab)).bind fun vA=>
   (ao k t vA.1 aE th.2.2.1 th.2.2.2.1 vA.2.1 vA.2.2.1 1).bind fun rW=>
   (cE t rW.2.1 aE rW.2.2.1 rW.2.2.2.1 rW.2.2.2.2.1 rW.2.2.2.2.2.1).bind fun qX=>
   (aW qX.2.2.1 qX.2.2.2.2.1 (16,p7.1,0,rY.1,[th.1,rW.1,qX.1])).bind fun vB=>
   some (vB.1,qX.2.1,vB.2.1,qX.2.2.2.1,qX.2.2.2.2.1,qX.2.2.2.2.2.1,())
def eB(bT:gE)(cS:iV)(cE:jE)(q:Nat):Nat→XT→Int→Int→XN→Int→Int→Int→XI→Option (Int×XN×Int×Int×Int×XI×Unit)
 |0,_,_,_,_,_,_,_,_=>none
 |k+1,t2,fY,p2,b9,kZ,il,HF,cL=>
  aa (fun(v:Bool)=>
   bif v then
    (bT t2 p2 fY b9 kZ il HF).bind fun r5=>
    (bE cL ([r5.1])).bind fun l=>
    eB bT cS cE q k t2 fY r5.2.1 r5.2.2.1 r5.2.2.2.1 r5.2.2.2.2.1 r5.2.2.2.2.2.1 l
   else
    some (p2,b9,kZ,il,HF,cL,())) fun cJ=>
  bif il==0 then
   (fK t2 p2 il ([125]:ab)).bind fun r4=>
   cJ (!r4.1)
  else
   cJ false
def jR(bT:gE)(cS:iV)(cE:jE)(k:Nat)(t:XT)(p aE:Int)(aA:XN)(bA Code At:Int):Option (Int×Int×XN×Int×Int×Int×Unit):=
 (dl t p aE).bind fun r1=>
 (aO t p aE Code At ([123]:ab)).bind fun r2=>
 (iJ t r2.1 aE bA r2.2.1 r2.2.2.1).bind fun r3=>
 bif !r3.1 then
  some (0,r2.1,aA,r3.2.1,r3.2.2.1,r3.2.2.2.1,())
 else
  (eB bT cS cE k k t aE r2.1 aA r3.2.1 r3.2.2.1 r3.2.2.2.1 []).bind fun o=>
  (aO t o.1 aE o.2.2.2.1 o.2.2.2.2.1 ([125]:ab)).bind fun r4=>
  (aW o.2.1 r4.2.1 (8,r1.1,0,([]:ab),o.2.2.2.2.2.1)).bind fun r5=>
  some (r5.1,r4.1,r5.2.1,(bC (o.2.2.1 - 1)),r4.2.1,r4.2.2.1,())
def cY:Nat→gE×iV×jE
 |0=>(fun _ _ _ _ _ _ _=>none,fun _ _ _ _ _ _ _=>none,fun _ _ _ _ _ _ _=>none)
 |k+1=>(bU (cY k).1 (cY k).2.1 (cY k).2.2 k,ko (cY k).1 (cY k).2.1 (cY k).2.2 k,jR (cY k).1 (cY k).2.1 (cY k).2.2 k)
def eJ(k:Nat):gE:=(cY k).1
def ml(k:Nat):iV:=(cY k).2.1
def jh(k:Nat):jE:=(cY k).2.2
section
variable (bT:Gd bw 100 vY) (cS:Gd bw 119 zB) (cE:Gd bw 148 AV)
def D4(k:Nat):Cl bw:=lO ⟨[jt,fP,js,jr,eW,mK,nP,nO,JB k,cS.cl,rm k,CV k],[],[(4,47)]⟩ 100 f100 func100 call100 [500000] (nT (bU bT.1 cS.1 cE.1 k)) []
def Ip(k:Nat):Cl bw:=lO ⟨[jt,fP,js,jr,eW,rm k,CV k,cE.cl],[],[]⟩ 119 f119 func119 call119 [500000] (qg (ko bT.1 cS.1 cE.1 k)) []
def xo(k:Nat):mS:=⟨⟨44,[(77,7)],[lD 77 0 sT,lI 77 2,rP 0 77,rI 3],[lI 77 1,lF 77 3 tN,lI 77 4,lI 77 5,lI 77 6,(.r 4,.h .eL I)],[]⟩,[.ex (.exit 0) [lI 77 1,lF 77 3 tN,lI 77 4,lI 77 5,lI 77 6,(.r 4,.h .eL I)]],fun q c v=>eB bT.1 cS.1 cE.1 k q c.1 c.2.1 v.1 v.2.1 v.2.2.1 v.2.2.2.1 v.2.2.2.2.1 v.2.2.2.2.2.1⟩
def AN(k:Nat):Ev bw:=⟨[fP,jr,eW,mK,pP,bT.cl],[lp 0 (xo bT cS cE k) k],[]⟩
def Fv(k q:Nat):Cd bw:=oM (AN bT cS cE k) f148 0 (xo bT cS cE k) q []
def JM(k:Nat):Cl bw:=lO (AN bT cS cE k) 148 f148 func148 call148 [500000] (qZ (jR bT.1 cS.1 cE.1 k)) [Fv bT cS cE k k]
end
theorem kB:∀ k,ld prog gt 100 (vY (eJ k))∧ld prog gt 119 (zB (ml k))∧ld prog gt 148 (AV (jh k))
 |0=>⟨cU (fun _ _=>rfl),cU (fun _ _=>rfl),cU (fun _ _=>rfl)⟩
 |k+1=>have ih:=kB k;⟨(D4 ⟨_,ih.1⟩ ⟨_,ih.2.1⟩ ⟨_,ih.2.2⟩ k).ok,(Ip ⟨_,ih.1⟩ ⟨_,ih.2.1⟩ ⟨_,ih.2.2⟩ k).ok,(JM ⟨_,ih.1⟩ ⟨_,ih.2.1⟩ ⟨_,ih.2.2⟩ k).ok⟩
def DS(k:Nat):Cl bw:=⟨_,_,(kB k).1⟩
def VI(k:Nat):Cl bw:=⟨_,_,(kB k).2.1⟩
def W4(k:Nat):Cl bw:=⟨_,_,(kB k).2.2⟩
def au(q:Nat):Nat→XT→Int→Int→XN→Int→Int→XI→Option (Int×XN×Int×Int×XI×Unit)
 |0,_,_,_,_,_,_,_=>none
 |k+1,t2,fY,p2,b9,il,HF,cL=>
  aa (fun(v:Bool)=>
   bif v then
    aa (fun(jv:Int×Int×Int)=>
     (dl t2 (jv.1) fY).bind fun r6=>
     (dI t2 (jv.1) fY (jv.2.1) (jv.2.2)).bind fun r7=>
     (aW b9 r7.2.2.1 (5,r6.1,0,r7.1,[])).bind fun r8=>
     (bE cL ([r8.1])).bind fun l=>
     au q k t2 fY r7.2.1 r8.2.1 r7.2.2.1 r7.2.2.2.1 l) fun jf=>
    bif decide ((cL.length:Int) > 0) then
     (aO t2 p2 fY il HF ([44]:ab)).bind fun r5=>
     jf (r5.1,r5.2.1,r5.2.2.1)
    else
     jf (p2,il,HF)
   else
    some (p2,b9,il,HF,cL,())) fun cJ=>
  bif il==0 then
   (fK t2 p2 il ([41]:ab)).bind fun r4=>
   cJ (!r4.1)
  else
   cJ false
def eO(q:Nat):Nat→XI→XI→Int→Option (XI×Unit)
 |0,_,_,_=>none
 |k+1,l,cL,i1=>
  bif decide (i1<(l.length:Int)) then
   (bL l i1).bind fun x1=>
   (bL l (i1.toNat:Int)).bind fun x2=>
   (bE cL ([x2])).bind fun l2=>
   eO q k l l2 (bC (i1+1))
  else
   some (cL,())
def eP(q:Nat):Nat→XT→Int→Int→XN→Int→Int→Int→XI→Option (Int×XN×Int×Int×Int×XI×Unit)
 |0,_,_,_,_,_,_,_,_=>none
 |k+1,t2,fY,p2,b9,kZ,il,HF,body=>
  aa (fun(v:Bool)=>
   bif v then
    (eJ q t2 p2 fY b9 kZ il HF).bind fun kC=>
    (bE body ([kC.1])).bind fun l=>
    eP q k t2 fY kC.2.1 kC.2.2.1 kC.2.2.2.1 kC.2.2.2.2.1 kC.2.2.2.2.2.1 l
   else
    some (p2,b9,kZ,il,HF,body,())) fun cJ=>
  bif il==0 then
   (fK t2 p2 il ([125]:ab)).bind fun r9=>
   cJ (!r9.1)
  else
   cJ false
def dv(k:Nat)(t:XT)(p aE:Int)(aA:XN)(bA Code At:Int):Option (Int×Int×XN×Int×Int×Int×Unit):=
 (dl t p aE).bind fun r1=>
 (dI t p aE Code At).bind fun r2=>
 (aO t r2.2.1 aE r2.2.2.1 r2.2.2.2.1 ([40]:ab)).bind fun r3=>
 (au k k t aE r3.1 aA r3.2.1 r3.2.2.1 []).bind fun o=>
 (aO t o.1 aE o.2.2.1 o.2.2.2.1 ([41]:ab)).bind fun r4=>
 (dl t r4.1 aE).bind fun r5=>
 (aO t r4.1 aE r4.2.1 r4.2.2.1 ([123]:ab)).bind fun r6=>
 (iJ t r6.1 aE bA r6.2.1 r6.2.2.1).bind fun r7=>
 bif !r7.1 then
  some (0,r6.1,o.2.1,r7.2.1,r7.2.2.1,r7.2.2.2.1,())
 else
  (pY k t r6.1 aE o.2.1 r7.2.2.1 r7.2.2.2.1).bind fun r8=>
  (eO k k r8.1 o.2.2.2.2.1 0).bind fun o2=>
  (eP k k t aE r8.2.1 r8.2.2.1 r7.2.1 r8.2.2.2.1 r8.2.2.2.2.1 []).bind fun o3=>
  (aO t o3.1 aE o3.2.2.2.1 o3.2.2.2.2.1 ([125]:ab)).bind fun r9=>
  (aW o3.2.1 r9.2.1 (8,r5.1,0,([]:ab),o3.2.2.2.2.2.1)).bind fun kC=>
  (bE o2.1 ([kC.1])).bind fun l=>
  (aW kC.2.1 r9.2.1 (4,r1.1,0,r2.1,l)).bind fun oc=>
  some (oc.1,r9.1,oc.2.1,(bC (o3.2.2.1 - 1)),r9.2.1,r9.2.2.1,())
def uu(k:Nat):mS:=⟨⟨112,[(77,7)],[lD 77 0 sT,lI 77 2,lI 77 4,rP 0 77,rI 3,rD 4 .str],[lI 77 1,lF 77 3 tN,lI 77 5,lI 77 6,(.r 5,.h .eL I)],[]⟩,[.ex (.exit 0) [lI 77 1,lF 77 3 tN,lI 77 5,lI 77 6,(.r 5,.h .eL I)]],fun q c v=>au k q c.1 c.2.1 v.1 v.2.1 v.2.2.1 v.2.2.2.1 v.2.2.2.2.1⟩
def uv(k:Nat):mS:=⟨⟨112,[(77,7)],[lD 77 0 sT,lI 77 1,lI 77 2,lF 77 3 tN,lI 77 4,lI 77 5,lI 77 6,rP 0 77,rI 3,rD 4 .str,rI 8,(.r 9,.h .eL I)],[(.r 5,.h .eL I),rI 10],[]⟩,[.ex (.exit 2) [(.r 5,.h .eL I)]],fun q c v=>eO k q c.2.2.2.2.2.2.2.2.2.2.2.1 v.1 v.2.1⟩
def uw(k:Nat):mS:=⟨⟨112,[(77,7)],[lD 77 0 sT,lI 77 2,rP 0 77,rI 3,rD 4 .str,(.r 5,.h .eL I),rI 8],[lI 77 1,lF 77 3 tN,lI 77 4,lI 77 5,lI 77 6,(.r 11,.h .eL I)],[]⟩,[.ex (.exit 4) [lI 77 1,lF 77 3 tN,lI 77 4,lI 77 5,lI 77 6,(.r 11,.h .eL I)]],fun q c v=>eP k q c.1 c.2.1 v.1 v.2.1 v.2.2.1 v.2.2.2.1 v.2.2.2.2.1 v.2.2.2.2.2.1⟩
def oJ(k:Nat):Ev bw:=⟨[fP,js,jr,eW,mK,pP,Ie k,DS k],[lp 0 (uu k) k,lp 2 (uv k) k,lp 4 (uw k) k],[]⟩
def BP(k q:Nat):Cd bw:=oM (oJ k) f66 0 (uu k) q []
def BQ(k q:Nat):Cd bw:=oM (oJ k) f66 2 (uv k) q []
def BR(k q:Nat):Cd bw:=oM (oJ k) f66 4 (uw k) q []
def FC(k:Nat):Cl bw:=lO (oJ k) 66 f66 func66 call66 [500000] ⟨⟨112,[(77,7)],[lD 77 0 sT,lI 77 2],[rP 0 77,lI 77 1,lF 77 3 tN,lI 77 4,lI 77 5,lI 77 6],[]⟩,[.ret [rI 500000,lI 77 1,lF 77 3 tN,lI 77 4,lI 77 5,lI 77 6] []],fun c v=>dv k c.1 v.2.1 c.2.1 v.2.2.1 v.2.2.2.1 v.2.2.2.2.1 v.2.2.2.2.2.1⟩ [BP k k,BQ k k,BR k k]
def az(q:Nat):Nat→XT→Int→Int→XN→Int→Int→Int→XI→Option (Int×XN×Int×Int×Int×XI×Unit)
 |0,_,_,_,_,_,_,_,_=>none
 |k+1,t2,fY,p2,b9,kZ,il,HF,cL=>
  aa (fun(v:Bool)=>
   bif v then
    (b8 t2 p2 il ([97,114,114,97,121]:ab)).bind fun r1=>
    bif r1.1 then
     (dl t2 r1.2.1 fY).bind fun r2=>
     (dI t2 r1.2.1 fY il HF).bind fun r3=>
     (aO t2 r3.2.1 fY r3.2.2.1 r3.2.2.2.1 ([91]:ab)).bind fun r4=>
     (mn t2 r4.1 fY r4.2.1 r4.2.2.1).bind fun r5=>
     (aO t2 r5.2.1 fY r5.2.2.1 r5.2.2.2.1 ([93]:ab)).bind fun r6=>
     (aO t2 r6.1 fY r6.2.1 r6.2.2.1 ([59]:ab)).bind fun r7=>
     (aW b9 r7.2.1 (2,r2.1,r5.1,r3.1,[])).bind fun r8=>
     (bE cL ([r8.1])).bind fun l=>
     az q k t2 fY r7.1 r8.2.1 kZ r7.2.1 r7.2.2.1 l
    else
     (b8 t2 r1.2.1 il ([118,97,114]:ab)).bind fun r9=>
     bif r9.1 then
      (dl t2 r9.2.1 fY).bind fun kC=>
      (dI t2 r9.2.1 fY il HF).bind fun oc=>
      (aO t2 oc.2.1 fY oc.2.2.1 oc.2.2.2.1 ([59]:ab)).bind fun pf=>
      (aW b9 pf.2.1 (3,kC.1,0,oc.1,[])).bind fun p7=>
      (bE cL ([p7.1])).bind fun l2=>
      az q k t2 fY pf.1 p7.2.1 kZ pf.2.1 pf.2.2.1 l2
     else
      (aO t2 r9.2.1 fY il HF ([102,117,110,99]:ab)).bind fun rY=>
      (dv q t2 rY.1 fY b9 kZ rY.2.1 rY.2.2.1).bind fun qW=>
      (bE cL ([qW.1])).bind fun l3=>
      az q k t2 fY qW.2.1 qW.2.2.1 qW.2.2.2.1 qW.2.2.2.2.1 qW.2.2.2.2.2.1 l3
   else
    some (p2,b9,kZ,il,HF,cL,())) fun cJ=>
  bif il==0 then
   cJ (decide (p2<(t2.length:Int)))
  else
   cJ false
def rJ(k:Nat)(t:XT)(p aE:Int)(aA:XN)(bA Code At:Int):Option (Int×XN×Int×Int×Int×Unit):=
 (az k k t aE p aA bA Code At []).bind fun o=>
 (aW o.2.1 o.2.2.2.1 (1,0,0,([]:ab),o.2.2.2.2.2.1)).bind fun r1=>
 some (o.1,r1.2.1,o.2.2.1,o.2.2.2.1,o.2.2.2.2.1,())
def u6(k:Nat):mS:=⟨⟨77,[(77,7)],[lD 77 0 sT,lI 77 2,rP 0 77],[lI 77 1,lF 77 3 tN,lI 77 4,lI 77 5,lI 77 6,(.r 2,.h .eL I)],[]⟩,[.ex (.exit 0) [lI 77 1,lF 77 3 tN,lI 77 4,lI 77 5,lI 77 6,(.r 2,.h .eL I)]],fun q c v=>az k q c.1 c.2.1 v.1 v.2.1 v.2.2.1 v.2.2.2.1 v.2.2.2.2.1 v.2.2.2.2.2.1⟩
def yf(k:Nat):Ev bw:=⟨[jt,fP,js,jr,zH,eW,FC k],[lp 0 (u6 k) k],[]⟩
def Di(k q:Nat):Cd bw:=oM (yf k) f36 0 (u6 k) q []
def GT(k:Nat):Cl bw:=lO (yf k) 36 f36 func36 call36 [] ⟨⟨77,[(77,7)],[lD 77 0 sT,lI 77 2],[rP 0 77,lI 77 1,lF 77 3 tN,lI 77 4,lI 77 5,lI 77 6],[]⟩,[.ret [lI 77 1,lF 77 3 tN,lI 77 4,lI 77 5,lI 77 6] []],fun c v=>rJ k c.1 v.2.1 c.2.1 v.2.2.1 v.2.2.2.1 v.2.2.2.2.1 v.2.2.2.2.2.1⟩ [Di k k]
def gp(k:Nat)(ce:ab):Option (XN×(Int×Int)×Unit):=
 (nv k ce).bind fun r1=>
 bif r1.2.1.1 != 0 then
  some ([],r1.2.1,())
 else
  (rJ k r1.1 0 (ce.length:Int) [] 0 0 0).bind fun r2=>
  bif r2.2.2.2.1 != 0 then
   some ([],(r2.2.2.2.1,r2.2.2.2.2.1),())
  else
   some (r2.2.1,(0,0),())
def ve(k:Nat):Cl bw:=zp ⟨[Jz k,GT k],[],[(3,37),(21,77)]⟩ 18 f18 func18 call18 [.str] [sN,tP] (fun d=>gp k d.1) []
def Fd(n low high:Int):Option (Bool×Unit):=
 aa (fun(v:Bool)=>
  some (v,())) fun cJ=>
 bif decide (n≥low) then
  cJ (decide (n≤high))
 else
  cJ false
def SB:Cl bw:=zp ⟨[],[],[]⟩ 25 f25 func25 call25 [I,I,I] [.bool] (fun d=>Fd d.1 d.2.1 d.2.2.1) []
def nz(q:Nat):Nat→XF→ab→Int→Option (((Unit)⊕(Int×Unit)))
 |0,_,_,_=>none
 |k+1,w3,u7,i1=>
  bif decide (i1<(w3.length:Int)) then
   (bL w3 i1).bind fun x1=>
   bif x1.1==u7 then
    some (.inr (i1,()))
   else
    nz q k w3 u7 (bC (i1+1))
  else
   some (.inl ())
def kx(k:Nat)(t:XA×XS×XF)(name:ab):Option (Int×Unit):=
 (nz k k t.2.2 name 0).bind fun r=>match r with
 |.inl o=>
  some ((-1),())
 |.inr o2=>
  some (o2.1,())
def Bv(k:Nat):mS:=⟨⟨22,[(35,3)],[lD 35 0 sA,lD 35 1 sS,lD 35 2 sF,rD 1 .str,rP 2 35],[rI 5],[]⟩,[.ex (.exit 0) [],.ex .ret [rI 4]],fun q c v=>nz k q c.2.2.1 c.2.2.2.1 v.1⟩
def FU(k:Nat):Ev bw:=⟨[],[lp 0 (Bv k) k],[(2,35)]⟩
def Jp(k q:Nat):Cd bw:=oM (FU k) f33 0 (Bv k) q []
def Am(k:Nat):Cl bw:=zp (FU k) 33 f33 func33 call33 [tM,.str] [I] (fun d=>kx k d.1 d.2.1) [Jp k k]
def mq(q:Nat):Nat→XS→ab→Int→Option (((Unit)⊕(Int×Unit)))
 |0,_,_,_=>none
 |k+1,l2,s2,i1=>
  bif decide (i1<(l2.length:Int)) then
   (bL l2 i1).bind fun x1=>
   bif x1==s2 then
    some (.inr (i1,()))
   else
    mq q k l2 s2 (bC (i1+1))
  else
   some (.inl ())
def ir(k:Nat)(l:XS)(s:ab):Option (Int×Unit):=
 (mq k k l s 0).bind fun r=>match r with
 |.inl o=>
  some ((-1),())
 |.inr o2=>
  some (o2.1,())
def zT(k:Nat):mS:=⟨⟨19,[],[rD 0 sS,rD 1 .str],[rI 5],[]⟩,[.ex (.exit 0) [],.ex .ret [rI 4]],fun q c v=>mq k q c.1 c.2.1 v.1⟩
def DG(k:Nat):Ev bw:=⟨[],[lp 0 (zT k) k],[]⟩
def HO(k q:Nat):Cd bw:=oM (DG k) f84 0 (zT k) q []
def yu(k:Nat):Cl bw:=zp (DG k) 84 f84 func84 call84 [sS,.str] [I] (fun d=>ir k d.1 d.2.1) [HO k k]
def mo(q:Nat):Nat→XA→ab→Int→Option (((Unit)⊕(Int×Unit)))
 |0,_,_,_=>none
 |k+1,w,u7,i1=>
  bif decide (i1<(w.length:Int)) then
   (bL w i1).bind fun x1=>
   bif x1.1==u7 then
    some (.inr (i1,()))
   else
    mo q k w u7 (bC (i1+1))
  else
   some (.inl ())
def oj(k:Nat)(t:XA×XS×XF)(name:ab):Option (Int×Unit):=
 (mo k k t.1 name 0).bind fun r=>match r with
 |.inl o=>
  some ((-1),())
 |.inr o2=>
  some (o2.1,())
def zS(k:Nat):mS:=⟨⟨22,[(35,3)],[lD 35 0 sA,lD 35 1 sS,lD 35 2 sF,rD 1 .str,rP 2 35],[rI 5],[]⟩,[.ex (.exit 0) [],.ex .ret [rI 4]],fun q c v=>mo k q c.1 c.2.2.2.1 v.1⟩
def DF(k:Nat):Ev bw:=⟨[],[lp 0 (zS k) k],[(2,35)]⟩
def HN(k q:Nat):Cd bw:=oM (DF k) f85 0 (zS k) q []
def MA(k:Nat):Cl bw:=zp (DF k) 85 f85 func85 call85 [tM,.str] [I] (fun d=>oj k d.1 d.2.1) [HN k k]
def cW(k:Nat)(t:XA×XS×XF)(fn name:ab):Option (Int×Int×Unit):=
 (kx k t fn).bind fun r1=>
 aa (fun(v:Bool)=>
  bif v then
   (bL t.2.2 r1.1).bind fun x2=>
   (ir k x2.2.2.1 name).bind fun r3=>
   some (3,r3.1,())
  else
   aa (fun(v2:Bool)=>
    bif v2 then
     (bL t.2.2 r1.1).bind fun x4=>
     (ir k x4.2.2.2.1 name).bind fun r5=>
     some (4,r5.1,())
    else
     (oj k t name).bind fun r6=>
     bif decide (r6.1≥0) then
      (oj k t name).bind fun r7=>
      some (1,r7.1,())
     else
      (ir k t.2.1 name).bind fun r8=>
      bif decide (r8.1≥0) then
       (ir k t.2.1 name).bind fun r9=>
       some (2,r9.1,())
      else
       (kx k t name).bind fun kC=>
       bif decide (kC.1≥0) then
        (kx k t name).bind fun oc=>
        some (5,oc.1,())
       else
        some (0,0,())) fun jf=>
   bif decide (r1.1≥0) then
    (bL t.2.2 r1.1).bind fun x3=>
    (ir k x3.2.2.2.1 name).bind fun r4=>
    jf (decide (r4.1≥0))
   else
    jf false) fun cJ=>
 bif decide (r1.1≥0) then
  (bL t.2.2 r1.1).bind fun x1=>
  (ir k x1.2.2.1 name).bind fun r2=>
  cJ (decide (r2.1≥0))
 else
  cJ false
def pO(k:Nat):Cl bw:=zp ⟨[Am k,yu k,MA k],[],[(3,35)]⟩ 53 f53 func53 call53 [tM,.str,.str] [I,I] (fun d=>cW k d.1 d.2.1 d.2.2.1) []
def kY(k:Nat)(uK:XA)(qT:XS)(zg:XF)(n:Int×Int×Int×ab×XI):Option (XA×XS×XF×Int×Unit):=
 (cW k (uK,qT,zg) ([]:ab) n.2.2.2.1).bind fun r1=>
 bif r1.1 != 0 then
  some (uK,qT,zg,9,())
 else
  bif n.1==2 then
   aa (fun(v:Bool)=>
    bif v then
     some (uK,qT,zg,8,())
    else
     (bE uK ([(n.2.2.2.1,n.2.2.1)])).bind fun l=>
     some (l,qT,zg,0,())) fun cJ=>
   bif decide ((uK.length:Int)≥4) then
    cJ true
   else
    (Fd n.2.2.1 1 64).bind fun r2=>
    cJ (!r2.1)
  else
   bif n.1==3 then
    bif decide ((qT.length:Int)≥4) then
     some (uK,qT,zg,8,())
    else
     (bE qT ([n.2.2.2.1])).bind fun l2=>
     some (uK,l2,zg,0,())
   else
    bif decide ((zg.length:Int)≥6) then
     some (uK,qT,zg,8,())
    else
     (bL n.2.2.2.2 (bC ((n.2.2.2.2.length:Int) - 1))).bind fun x1=>
     (bE zg ([(n.2.2.2.1,0,[],[],x1)])).bind fun l3=>
     some (uK,qT,l3,0,())
def QQ(k:Nat):Cl bw:=lO ⟨[SB,pO k],[],[(2,35),(3,47),(77,9999)]⟩ 31 f31 func31 call31 [500000,500001] ⟨⟨81,[],[],[(.q 0 0,.h .eL tA),(.q 0 1,.h .eL .str),(.q 0 2,.h .bA tF),rD 1 tN],[]⟩,[.ret [(.q 500000 0,.h .eL tA),(.q 500000 1,.h .eL .str),(.q 500000 2,.h .bA tF),rI 500001] []],fun c v=>kY k v.1 v.2.1 v.2.2.1 v.2.2.2.1⟩ []
end
end Go.Fx.R5
namespace Go.Fx.R5
open Go Go.Fx Go.Proofs Go.Proofs.Tryz
noncomputable section
def dJ(q:Nat):Nat→XI→XN→Int→XA→XS→XF→Int→Int→Int→Option (((XA×XS×XF×Int×Int×Unit)⊕(Int×Int×XA×XS×XF×Unit)))
 |0,_,_,_,_,_,_,_,_,_=>none
 |k+1,Ml,qu,f2,w,w2,w3,w4,w5,i1=>
  bif decide ((bC (i1+1))<(Ml.length:Int)) then
   (bL Ml i1).bind fun x1=>
   (bL qu x1).bind fun x2=>
   (bL w3 f2).bind fun x3=>
   (bL w3 (f2.toNat:Int)).bind fun x4=>
   (cW q (w,w2,w3) x4.1 x2.2.2.2.1).bind fun r1=>
   bif r1.1 != 0 then
    some (.inr (9,x2.2.1,w,w2,w3,()))
   else
    (bL w3 f2).bind fun x5=>
    (bL w3 (f2.toNat:Int)).bind fun x6=>
    aa (fun(v:Bool)=>
     aa (fun(v3:Bool)=>
      aa (fun(v5:Bool)=>
       bif v5 then
        some (.inr (8,x2.2.1,w,w2,w3,()))
       else
        aa (fun(jv:XS×XS×ab×Int×Int)=>
         aa (fun(v9:Int)=>
          (bL w3 f2).bind fun x9=>
          bif Nat.beq f2.toNat f2.toNat&&true then
           dJ q k Ml qu f2 w w2 (List.set w3 f2.toNat (x6.1,v9,(jv.1),(jv.2.1),x6.2.2.2.2)) w4 w5 (bC (i1+1))
          else
           none) fun jx7=>
         bif x2.1==5 then
          jx7 (bC (x6.2.1+1))
         else
          jx7 x6.2.1) fun jx6=>
        bif x2.1==7 then
         (bL w3 (f2.toNat:Int)).bind fun e=>
         bif (Nat.beq f2.toNat f2.toNat&&(Nat.beq f2.toNat f2.toNat&&true))&&true then
          (bE e.2.2.2.1 ([x2.2.2.2.1])).bind fun l=>
          jx6 (e.2.2.1,l,e.1,e.2.1,e.2.2.2.2)
         else
          none
        else
         (bL w3 (f2.toNat:Int)).bind fun e2=>
         bif (Nat.beq f2.toNat f2.toNat&&(Nat.beq f2.toNat f2.toNat&&true))&&true then
          (bE e2.2.2.1 ([x2.2.2.2.1])).bind fun l2=>
          jx6 (l2,e2.2.2.2.1,e2.1,e2.2.1,e2.2.2.2.2)
         else
          none) fun jx5=>
      bif v3 then
       jx5 true
      else
       aa (fun(v4:Bool)=>
        jx5 v4) fun jx4=>
       bif x2.1==5 then
        jx4 (decide (x6.2.1≥3))
       else
        jx4 false) fun wg=>
     bif v then
      wg true
     else
      aa (fun(v2:Bool)=>
       wg v2) fun jf=>
      bif x2.1 != 7 then
       (bL w3 (f2.toNat:Int)).bind fun x8=>
       jf (decide ((x8.2.2.1.length:Int)≥8))
      else
       jf false) fun cJ=>
    bif x2.1==7 then
     (bL w3 (f2.toNat:Int)).bind fun x7=>
     cJ (decide ((x7.2.2.2.1.length:Int)≥3))
    else
     cJ false
  else
   some (.inl (w,w2,w3,w4,w5,()))
def Ct(k:Nat)(uK:XA)(qT:XS)(zg:XF)(kp:XN)(f:Int)(fn:Int×Int×Int×ab×XI):Option (XA×XS×XF×(Int×Int)×Unit):=
 (dJ k k fn.2.2.2.2 kp f uK qT zg 0 0 0).bind fun r=>match r with
 |.inl o=>
  some (o.1,o.2.1,o.2.2.1,(0,0),())
 |.inr o2=>
  some (o2.2.2.1,o2.2.2.2.1,o2.2.2.2.2.1,(o2.1,o2.2.1),())
def C4(k:Nat):mS:=⟨⟨120,[(35,3),(37,2),(47,5),(10008,3)],[lI 47 0,lI 47 1,lI 47 2,lD 47 3 .str,lD 47 4 sI,rD 1 sN,rI 2,rP 4 35,rP 7 47,rP 8 10008,rP 9 37],[lF 35 0 tA,lF 35 1 .str,lU 35 2 tF,lI 37 0,lI 37 1,lN 10008 0,lN 10008 1,lN 10008 2,rI 10],[]⟩,[.ex (.exit 0) [lF 35 0 tA,lF 35 1 .str,lU 35 2 tF,lI 37 0,lI 37 1,lN 10008 0,lN 10008 1,lN 10008 2],.ex .ret [lI 37 0,lI 37 1,lF 10008 0 tA,lF 10008 1 .str,lU 10008 2 tF]],fun q c v=>dJ k q c.2.2.2.2.1 c.2.2.2.2.2.1 c.2.2.2.2.2.2.1 v.1 v.2.1 v.2.2.1 v.2.2.2.1 v.2.2.2.2.1 v.2.2.2.2.2.2.2.2.1⟩
def HW(k:Nat):Ev bw:=⟨[pO k],[lp 0 (C4 k) k],[(4,35),(7,47),(9,37)]⟩
def KT(k q:Nat):Cd bw:=oM (HW k) f32 0 (C4 k) q []
def QP(k:Nat):Cl bw:=lO (HW k) 32 f32 func32 call32 [500000,500001] ⟨⟨120,[],[],[(.q 0 0,.h .eL tA),(.q 0 1,.h .eL .str),(.q 0 2,.h .bA tF),rD 1 sN,rI 2,rD 3 tN],[]⟩,[.ret [(.q 500000 0,.h .eL tA),(.q 500000 1,.h .eL .str),(.q 500000 2,.h .bA tF),rD 500001 tP] []],fun c v=>Ct k v.1 v.2.1 v.2.2.1 v.2.2.2.1 v.2.2.2.2.1 v.2.2.2.2.2.1⟩ [KT k k]
def cu(Code At code jz:Int):Option (Int×Int×Unit):=
 bif Code==0 then
  some (code,jz,())
 else
  some (Code,At,())
def pQ:Cl bw:=lO ⟨[],[],[]⟩ 86 f86 func86 call86 [] ⟨⟨18,[(70,8)],[lD 70 0 sA,lD 70 1 sS,lD 70 2 sF,lD 70 3 sN,lD 70 4 .str,lF 70 5 .str],[rP 0 70,rI 1,rI 2,lI 70 6,lI 70 7],[]⟩,[.ret [lI 70 6,lI 70 7] []],fun c v=>cu v.2.2.2.1 v.2.2.2.2.1 v.2.1 v.2.2.1⟩ []
def hZ(k:Nat)(aH:XA)(ax:XS)(bt:XF)(fn:ab)(Code At:Int)(name:ab)(jz a b:Int):Option (Int×Int×Unit):=
 (cW k (aH,ax,bt) fn name).bind fun r1=>
 bif r1.1==0 then
  (cu Code At 10 jz).bind fun r2=>
  some (r2.1,r2.2.1,())
 else
  aa (fun(v:Bool)=>
   bif v then
    (cu Code At 11 jz).bind fun r3=>
    some (r3.1,r3.2.1,())
   else
    some (Code,At,())) fun cJ=>
  bif r1.1 != a then
   cJ (r1.1 != b)
  else
   cJ false
def pR(k:Nat):Cl bw:=lO ⟨[pO k,pQ],[],[]⟩ 57 f57 func57 call57 [] ⟨⟨41,[(70,8)],[lD 70 0 sA,lD 70 1 sS,lD 70 2 sF,lD 70 3 sN,lD 70 4 .str,lF 70 5 .str],[rP 0 70,rD 1 .str,rI 2,rI 3,rI 4,lI 70 6,lI 70 7],[]⟩,[.ret [lI 70 6,lI 70 7] []],fun c v=>hZ k c.1 c.2.1 c.2.2.1 c.2.2.2.2.1 v.2.2.2.2.2.1 v.2.2.2.2.2.2.1 v.2.1 v.2.2.1 v.2.2.2.1 v.2.2.2.2.1⟩ []
def uJ(k:Nat)(aH:XA)(ax:XS)(bt:XF)(fn:ab)(rS:XS)(Code At:Int)(name:ab)(jz:Int):Option (XS×Int×Int×Unit):=
 (hZ k aH ax bt fn Code At name jz 3 2).bind fun r1=>
 (ir k rS name).bind fun r2=>
 bif decide (r2.1≥0) then
  (cu r1.1 r1.2.1 11 jz).bind fun r3=>
  some (rS,r3.1,r3.2.1,())
 else
  some (rS,r1.1,r1.2.1,())
def DT(k:Nat):Cl bw:=lO ⟨[pR k,yu k,pQ],[],[]⟩ 87 f87 func87 call87 [] ⟨⟨20,[(70,8)],[lD 70 0 sA,lD 70 1 sS,lD 70 2 sF,lD 70 3 sN,lD 70 4 .str],[rP 0 70,rD 1 .str,rI 2,lF 70 5 .str,lI 70 6,lI 70 7],[]⟩,[.ret [lF 70 5 .str,lI 70 6,lI 70 7] []],fun c v=>uJ k c.1 c.2.1 c.2.2.1 c.2.2.2.2.1 v.2.2.2.1 v.2.2.2.2.1 v.2.2.2.2.2.1 v.2.1 v.2.2.1⟩ []
def gS(k:Nat)(aH:XA)(ax:XS)(bt:XF)(kp:XN)(fn:ab)(rS:XS)(Code At i1:Int):Option (XS×Int×Int×Unit):=
 (bL kp i1).bind fun x1=>
 aa (fun(jv:Int×Int)=>
  aa (fun(jv:Int×Int)=>
   aa (fun(jv:Int×Int)=>
    aa (fun(jv:XS×Int×Int)=>
     bif x1.1==16 then
      (hZ k aH ax bt fn (jv.2.1) (jv.2.2) x1.2.2.2.1 x1.2.1 3 3).bind fun r5=>
      (ir k (jv.1) x1.2.2.2.1).bind fun r6=>
      bif decide (r6.1≥0) then
       (cu r5.1 r5.2.1 11 x1.2.1).bind fun r7=>
       some ((jv.1),r7.1,r7.2.1,())
      else
       some ((jv.1),r5.1,r5.2.1,())
     else
      some ((jv.1),(jv.2.1),(jv.2.2),())) fun S8=>
    aa (fun(v6:Bool)=>
     bif v6 then
      (uJ k aH ax bt fn rS (jv.1) (jv.2) x1.2.2.2.1 x1.2.1).bind fun r4=>
      S8 (r4.1,r4.2.1,r4.2.2.1)
     else
      S8 (rS,(jv.1),(jv.2))) fun jx9=>
    bif x1.1==17 then
     jx9 true
    else
     jx9 (x1.1==22)) fun jx8=>
   aa (fun(v2:Bool)=>
    aa (fun(v3:Bool)=>
     aa (fun(v4:Bool)=>
      aa (fun(v5:Bool)=>
       bif v5 then
        (hZ k aH ax bt fn (jv.1) (jv.2) x1.2.2.2.1 x1.2.1 4 4).bind fun r3=>
        jx8 (r3.1,r3.2.1)
       else
        jx8 ((jv.1),(jv.2))) fun jx7=>
      bif v4 then
       jx7 true
      else
       jx7 (x1.1==12)) fun jx6=>
     bif v3 then
      jx6 true
     else
      jx6 (x1.1==34)) fun jx5=>
    bif v2 then
     jx5 true
    else
     jx5 (x1.1==13)) fun jx4=>
   bif x1.1==27 then
    jx4 true
   else
    jx4 (x1.1==11)) fun wg=>
  aa (fun(v:Bool)=>
   bif v then
    (hZ k aH ax bt fn (jv.1) (jv.2) x1.2.2.2.1 x1.2.1 1 1).bind fun r2=>
    wg (r2.1,r2.2.1)
   else
    wg ((jv.1),(jv.2))) fun jf=>
  bif x1.1==26 then
   jf true
  else
   jf (x1.1==10)) fun cJ=>
 bif x1.1==25 then
  (hZ k aH ax bt fn Code At x1.2.2.2.1 x1.2.1 3 2).bind fun r1=>
  cJ (r1.1,r1.2.1)
 else
  cJ (Code,At)
def MB(k:Nat):Cl bw:=lO ⟨[pR k,yu k,pQ,DT k],[],[(4,47)]⟩ 55 f55 func55 call55 [] ⟨⟨99,[(70,8)],[lD 70 0 sA,lD 70 1 sS,lD 70 2 sF,lD 70 3 sN,lD 70 4 .str],[rP 0 70,rI 1,lF 70 5 .str,lI 70 6,lI 70 7],[]⟩,[.ret [lF 70 5 .str,lI 70 6,lI 70 7] []],fun c v=>gS k c.1 c.2.1 c.2.2.1 c.2.2.2.1 c.2.2.2.2.1 v.2.2.1 v.2.2.2.1 v.2.2.2.2.1 v.2.1⟩ []
abbrev jq:=XA→XS→XF→XN→ab→XS→Int→Int→Int→Option (XS×Int×Int×Unit)
def sV(f:jq):CF:=⟨⟨111,[(70,8)],[lD 70 0 sA,lD 70 1 sS,lD 70 2 sF,lD 70 3 sN,lD 70 4 .str],[rP 0 70,rI 1,lF 70 5 .str,lI 70 6,lI 70 7],[]⟩,[.ret [lF 70 5 .str,lI 70 6,lI 70 7] []],fun c v=>f c.1 c.2.1 c.2.2.1 c.2.2.2.1 c.2.2.2.2.1 v.2.2.1 v.2.2.2.1 v.2.2.2.2.1 v.2.1⟩
def CO(f:jq):iL:=mg (sV f).L (sV f).F (zJ [] (sV f).V)
abbrev io:=XA→XS→XF→XN→ab→XS→Int→Int→(Int×Int×Int×ab×XI)→Option (XS×Int×Int×Unit)
def qh(f:io):CF:=⟨⟨68,[(70,8)],[lD 70 0 sA,lD 70 1 sS,lD 70 2 sF,lD 70 3 sN,lD 70 4 .str],[rP 0 70,rD 1 tN,lF 70 5 .str,lI 70 6,lI 70 7],[]⟩,[.ret [lF 70 5 .str,lI 70 6,lI 70 7] []],fun c v=>f c.1 c.2.1 c.2.2.1 c.2.2.2.1 c.2.2.2.2.1 v.2.2.1 v.2.2.2.1 v.2.2.2.2.1 v.2.1⟩
def zC(f:io):iL:=mg (qh f).L (qh f).F (zJ [] (qh f).V)
abbrev jp:=XA→XS→XF→XN→ab→XS→Int→Int→(Int×Int×Int×ab×XI)→Option (XS×Int×Int×Unit)
def sU(f:jp):CF:=⟨⟨74,[(70,8)],[lD 70 0 sA,lD 70 1 sS,lD 70 2 sF,lD 70 3 sN,lD 70 4 .str],[rP 0 70,rD 1 tN,lF 70 5 .str,lI 70 6,lI 70 7],[]⟩,[.ret [lF 70 5 .str,lI 70 6,lI 70 7] []],fun c v=>f c.1 c.2.1 c.2.2.1 c.2.2.2.1 c.2.2.2.2.1 v.2.2.1 v.2.2.2.1 v.2.2.2.2.1 v.2.1⟩
def CN(f:jp):iL:=mg (sU f).L (sU f).F (zJ [] (sU f).V)
def bP(bg:jq)(be:io)(bJ:jp)(q:Nat):Nat→Int→ab→XI→XA→XS→XF→XN→ab→XS→Int→Int→Int→Option (XS×Int×Int×Unit)
 |0,_,_,_,_,_,_,_,_,_,_,_,_=>none
 |k+1,aei,sd,Ml,gL,gD,jS,qu,GW,CT,HS,At4,k2=>
  bif decide (k2<(Ml.length:Int)) then
   aa (fun(aeq:XS)=>
    (bL Ml k2).bind fun x4=>
    (bg gL gD jS qu GW aeq HS At4 x4).bind fun r5=>
    bP bg be bJ q k aei sd Ml gL gD jS qu GW r5.1 r5.2.1 r5.2.2.1 (bC (k2+1))) fun jf=>
   aa (fun(v:Bool)=>
    bif v then
     (bE CT ([sd])).bind fun l=>
     jf l
    else
     jf CT) fun cJ=>
   bif aei==16 then
    cJ (k2==2)
   else
    cJ false
  else
   some (CT,HS,At4,())
def cQ(bg:jq)(be:io)(bJ:jp)(k:Nat)(aH:XA)(ax:XS)(bt:XF)(kp:XN)(fn:ab)(rS:XS)(Code At i1:Int):Option (XS×Int×Int×Unit):=
 (bL kp i1).bind fun x1=>
 bif Code != 0 then
  some (rS,Code,At,())
 else
  bif x1.1==9 then
   (be aH ax bt kp fn rS Code At x1).bind fun r1=>
   some (r1.1,r1.2.1,r1.2.2.1,())
  else
   (gS k aH ax bt kp fn rS Code At i1).bind fun r2=>
   bif x1.1==22 then
    (bJ aH ax bt kp fn r2.1 r2.2.1 r2.2.2.1 x1).bind fun r3=>
    some (r3.1,r3.2.1,r3.2.2.1,())
   else
    aa (fun(jv:Int×Int×Int)=>
     (bP bg be bJ k k x1.1 x1.2.2.2.1 x1.2.2.2.2 aH ax bt kp fn r2.1 (jv.2.1) (jv.2.2) (jv.1)).bind fun o=>
     aa (fun(v:Bool)=>
      bif v then
       (sub o.1 0 (bC ((o.1.length:Int) - 1))).bind fun l=>
       some (l,o.2.1,o.2.2.1,())
      else
       some (o.1,o.2.1,o.2.2.1,())) fun jf=>
     bif x1.1==16 then
      jf (o.2.1==0)
     else
      jf false) fun cJ=>
    bif x1.1==12 then
     (bL x1.2.2.2.2 0).bind fun x2=>
     (bL kp x2).bind fun x3=>
     (hZ k aH ax bt fn r2.2.1 r2.2.2.1 x3.2.2.2.1 x3.2.1 1 1).bind fun r4=>
     cJ (1,r4.1,r4.2.1)
    else
     cJ (0,r2.2.1,r2.2.2.1)
def it(bg:jq)(be:io)(bJ:jp)(k:Nat)(aH:XA)(ax:XS)(bt:XF)(kp:XN)(fn:ab)(rS:XS)(Code At:Int)(n:Int×Int×Int×ab×XI):Option (XS×Int×Int×Unit):=
 (cW k (aH,ax,bt) fn n.2.2.2.1).bind fun r1=>
 (bL n.2.2.2.2 0).bind fun x1=>
 (bL kp x1).bind fun x2=>
 bif r1.1==4 then
  aa (fun(jv:Int×Int)=>
   some (rS,(jv.1),(jv.2),())) fun cJ=>
  bif x2.1==25 then
   (hZ k aH ax bt fn Code At x2.2.2.2.1 x2.2.1 4 4).bind fun r2=>
   cJ (r2.1,r2.2.1)
  else
   bif x2.1 != 29 then
    (cu Code At 11 n.2.1).bind fun r3=>
    cJ (r3.1,r3.2.1)
   else
    cJ (Code,At)
 else
  (uJ k aH ax bt fn rS Code At n.2.2.2.1 n.2.1).bind fun r4=>
  aa (fun(jv:Int×Int)=>
   (bL n.2.2.2.2 0).bind fun x3=>
   (bg aH ax bt kp fn r4.1 (jv.1) (jv.2) x3).bind fun r6=>
   some (r6.1,r6.2.1,r6.2.2.1,())) fun jf=>
  bif x2.1==29 then
   (cu r4.2.1 r4.2.2.1 11 x2.2.1).bind fun r5=>
   jf (r5.1,r5.2.1)
  else
   jf (r4.2.1,r4.2.2.1)
def iP(bg:jq)(be:io)(bJ:jp)(q:Nat):Nat→XI→XA→XS→XF→XN→ab→XS→Int→Int→Int→Option (XS×Int×Int×Unit)
 |0,_,_,_,_,_,_,_,_,_,_=>none
 |k+1,Ml,gL,gD,jS,qu,GW,CT,HS,At4,i1=>
  bif decide (i1<(Ml.length:Int)) then
   (bL Ml i1).bind fun x4=>
   (bg gL gD jS qu GW CT HS At4 x4).bind fun r4=>
   iP bg be bJ q k Ml gL gD jS qu GW r4.1 r4.2.1 r4.2.2.1 (bC (i1+1))
  else
   some (CT,HS,At4,())
def mr(bg:jq)(be:io)(bJ:jp)(k:Nat)(aH:XA)(ax:XS)(bt:XF)(kp:XN)(fn:ab)(rS:XS)(Code At:Int)(n:Int×Int×Int×ab×XI):Option (XS×Int×Int×Unit):=
 (bL n.2.2.2.2 0).bind fun x1=>
 (bL kp x1).bind fun x2=>
 (hZ k aH ax bt fn Code At x2.2.2.2.1 x2.2.1 5 5).bind fun r1=>
 (cW k (aH,ax,bt) fn x2.2.2.2.1).bind fun r2=>
 aa (fun(jv:Int×Int)=>
  (iP bg be bJ k k n.2.2.2.2 aH ax bt kp fn rS (jv.1) (jv.2) 1).bind fun o=>
  some (o.1,o.2.1,o.2.2.1,())) fun jf=>
 aa (fun(v:Bool)=>
  bif v then
   (cu r1.1 r1.2.1 12 x2.2.1).bind fun r3=>
   jf (r3.1,r3.2.1)
  else
   jf (r1.1,r1.2.1)) fun cJ=>
 bif r2.1==5 then
  (bL bt r2.2.1).bind fun x3=>
  cJ (x3.2.1 != (bC ((n.2.2.2.2.length:Int) - 1)))
 else
  cJ false
def eY:Nat→jq×io×jp
 |0=>(fun _ _ _ _ _ _ _ _ _=>none,fun _ _ _ _ _ _ _ _ _=>none,fun _ _ _ _ _ _ _ _ _=>none)
 |k+1=>(cQ (eY k).1 (eY k).2.1 (eY k).2.2 k,it (eY k).1 (eY k).2.1 (eY k).2.2 k,mr (eY k).1 (eY k).2.1 (eY k).2.2 k)
def dK(k:Nat):jq:=(eY k).1
def dG(k:Nat):io:=(eY k).2.1
def eQ(k:Nat):jp:=(eY k).2.2
section
variable (bg:Gd bw 34 CO) (be:Gd bw 54 zC) (bJ:Gd bw 56 CN)
def yX(k:Nat):mS:=⟨⟨111,[(47,5),(70,8)],[lI 47 0,lI 47 1,lI 47 2,lD 47 3 .str,lD 47 4 sI,lD 70 0 sA,lD 70 1 sS,lD 70 2 sF,lD 70 3 sN,lD 70 4 .str,rP 0 70,rP 4 47],[lF 70 5 .str,lI 70 6,lI 70 7,rI 5],[]⟩,[.ex (.exit 0) [lF 70 5 .str,lI 70 6,lI 70 7]],fun q c v=>bP bg.1 be.1 bJ.1 k q c.1 c.2.2.2.1 c.2.2.2.2.1 c.2.2.2.2.2.1 c.2.2.2.2.2.2.1 c.2.2.2.2.2.2.2.1 c.2.2.2.2.2.2.2.2.1 c.2.2.2.2.2.2.2.2.2.1 v.1 v.2.1 v.2.2.1 v.2.2.2.1⟩
def CE(k:Nat):Ev bw:=⟨[bg.cl,be.cl,MB k,bJ.cl,pR k],[lp 0 (yX bg be bJ k) k],[(4,47)]⟩
def GK(k q:Nat):Cd bw:=oM (CE bg be bJ k) f34 0 (yX bg be bJ k) q []
def Lp(k:Nat):Cl bw:=lO (CE bg be bJ k) 34 f34 func34 call34 [] (sV (cQ bg.1 be.1 bJ.1 k)) [GK bg be bJ k k]
def Iq(k:Nat):Cl bw:=lO ⟨[bg.cl,pO k,pR k,pQ,DT k],[],[(3,47)]⟩ 54 f54 func54 call54 [] (qh (it bg.1 be.1 bJ.1 k)) []
def yW(k:Nat):mS:=⟨⟨74,[(47,5),(70,8)],[lI 47 0,lI 47 1,lI 47 2,lD 47 3 .str,lD 47 4 sI,lD 70 0 sA,lD 70 1 sS,lD 70 2 sF,lD 70 3 sN,lD 70 4 .str,rP 0 70,rP 3 47],[lF 70 5 .str,lI 70 6,lI 70 7,rI 7],[]⟩,[.ex (.exit 0) [lF 70 5 .str,lI 70 6,lI 70 7]],fun q c v=>iP bg.1 be.1 bJ.1 k q c.2.2.2.2.1 c.2.2.2.2.2.1 c.2.2.2.2.2.2.1 c.2.2.2.2.2.2.2.1 c.2.2.2.2.2.2.2.2.1 c.2.2.2.2.2.2.2.2.2.1 v.1 v.2.1 v.2.2.1 v.2.2.2.1⟩
def CD(k:Nat):Ev bw:=⟨[bg.cl,pO k,pR k,pQ],[lp 0 (yW bg be bJ k) k],[(3,47)]⟩
def GJ(k q:Nat):Cd bw:=oM (CD bg be bJ k) f56 0 (yW bg be bJ k) q []
def Lo(k:Nat):Cl bw:=lO (CD bg be bJ k) 56 f56 func56 call56 [] (sU (mr bg.1 be.1 bJ.1 k)) [GJ bg be bJ k k]
end
theorem nV:∀ k,ld prog gt 34 (CO (dK k))∧ld prog gt 54 (zC (dG k))∧ld prog gt 56 (CN (eQ k))
 |0=>⟨cU (fun _ _=>rfl),cU (fun _ _=>rfl),cU (fun _ _=>rfl)⟩
 |k+1=>have ih:=nV k;⟨(Lp ⟨_,ih.1⟩ ⟨_,ih.2.1⟩ ⟨_,ih.2.2⟩ k).ok,(Iq ⟨_,ih.1⟩ ⟨_,ih.2.1⟩ ⟨_,ih.2.2⟩ k).ok,(Lo ⟨_,ih.1⟩ ⟨_,ih.2.1⟩ ⟨_,ih.2.2⟩ k).ok⟩
def Ld(k:Nat):Cl bw:=⟨_,_,(nV k).1⟩
def VJ(k:Nat):Cl bw:=⟨_,_,(nV k).2.1⟩
def X5(k:Nat):Cl bw:=⟨_,_,(nV k).2.2⟩
def pH(q:Nat)(qu:XN)(PO:XI)(i2:Int)(w8:XA)(w9:XS)(w10:XF):Option (Int×XA×XS×XF×Unit):=
 (bL PO i2).bind fun x2=>
 (bL qu x2).bind fun x3=>
 (kY q w8 w9 w10 x3).bind fun r2=>
 some (r2.2.2.2.1,r2.1,r2.2.1,r2.2.2.1,())
def du(q:Nat):Nat→XN→XI→Int→Int→XA→XS→XF→Int→Option (((Int×Int×XA×XS×XF×Unit)⊕(Int×Int×Unit)))
 |0,_,_,_,_,_,_,_,_=>none
 |k+1,kp,cL,w,w2,w3,w4,w5,i1=>
  bif decide (i1<(cL.length:Int)) then
   (pH q kp cL i1 w3 w4 w5).bind fun o=>
   bif o.1 != 0 then
    (bL cL i1).bind fun x2=>
    (bL kp x2).bind fun x3=>
    some (.inr (o.1,x3.2.1,()))
   else
    du q k kp cL w w2 o.2.1 o.2.2.1 o.2.2.2.1 (bC (i1+1))
  else
   some (.inl (w,w2,w3,w4,w5,()))
def pI(q:Nat)(qu:XN)(PO:XI)(GW i2:Int)(w8:XA)(w9:XS)(w10:XF):Option (XA×XS×XF×Int×Int×Unit):=
 (bL PO i2).bind fun x4=>
 (bL qu x4).bind fun x5=>
 (Ct q w8 w9 w10 qu GW x5).bind fun r2=>
 some (r2.1,r2.2.1,r2.2.2.1,r2.2.2.2.1.1,r2.2.2.2.1.2,())
def dc(q:Nat):Nat→XN→XI→Int→Int→XA→XS→XF→Int→Int→Option (((Int×Int×XA×XS×XF×Unit)⊕(Int×Int×Unit)))
 |0,_,_,_,_,_,_,_,_,_=>none
 |k+1,kp,cL,w,w2,w3,w4,w5,fn,i1=>
  bif decide (i1<(cL.length:Int)) then
   aa (fun(jv:Int×XA×XS×XF)=>
    dc q k kp cL w w2 (jv.2.1) (jv.2.2.1) (jv.2.2.2) (jv.1) (bC (i1+1))) fun cJ=>
   (bL cL i1).bind fun x2=>
   (bL kp x2).bind fun x3=>
   bif x3.1==4 then
    (pI q kp cL fn i1 w3 w4 w5).bind fun o3=>
    bif o3.2.2.2.1 != 0 then
     some (.inr (o3.2.2.2.1,o3.2.2.2.2.1,()))
    else
     cJ ((bC (fn+1)),o3.1,o3.2.1,o3.2.2.1)
   else
    cJ (fn,w3,w4,w5)
  else
   some (.inl (w,w2,w3,w4,w5,()))
def fh(q:Nat):Nat→XN→Int→Int→XA→XS→XF→Int→Option (((Int×Int×XA×XS×XF×Unit)⊕(Int×Int×Unit)))
 |0,_,_,_,_,_,_,_=>none
 |k+1,kp,w,w2,w3,w4,w5,i1=>
  bif decide (i1<(w5.length:Int)) then
   (bL w5 i1).bind fun x4=>
   (bL w5 i1).bind fun x5=>
   (dK q w3 w4 w5 kp x4.1 [] 0 0 x5.2.2.2.2).bind fun r3=>
   bif r3.2.1 != 0 then
    some (.inr (r3.2.1,r3.2.2.1,()))
   else
    fh q k kp w w2 w3 w4 w5 (bC (i1+1))
  else
   some (.inl (w,w2,w3,w4,w5,()))
def fo(k:Nat)(ce:ab):Option ((XA×XS×XF)×(Int×Int)×Unit):=
 (gp k ce).bind fun r1=>
 bif r1.2.1.1 != 0 then
  some (([],[],[]),r1.2.1,())
 else
  (bL r1.1 (bC ((r1.1.length:Int) - 1))).bind fun x1=>
  (du k k r1.1 x1.2.2.2.2 0 0 [] [] [] 0).bind fun r=>match r with
  |.inl o=>
   (dc k k r1.1 x1.2.2.2.2 o.1 o.2.1 o.2.2.1 o.2.2.2.1 o.2.2.2.2.1 0 0).bind fun r=>match r with
   |.inl o3=>
    (kx k (o3.2.2.1,o3.2.2.2.1,o3.2.2.2.2.1) ([109,97,105,110]:ab)).bind fun r2=>
    aa (fun(v:Bool)=>
     bif v then
      some (([],[],[]),(13,0),())
     else
      (fh k k r1.1 o3.1 o3.2.1 o3.2.2.1 o3.2.2.2.1 o3.2.2.2.2.1 0).bind fun r=>match r with
      |.inl o5=>
       some ((o5.2.2.1,o5.2.2.2.1,o5.2.2.2.2.1),(0,0),())
      |.inr o6=>
       some (([],[],[]),(o6.1,o6.2.1),())) fun cJ=>
    bif decide (r2.1<0) then
     cJ true
    else
     (bL o3.2.2.2.2.1 r2.1).bind fun x2=>
     (bL o3.2.2.2.2.1 (r2.1.toNat:Int)).bind fun x3=>
     cJ (x3.2.1 != 0)
   |.inr o4=>
    some (([],[],[]),(o4.1,o4.2.1),())
  |.inr o2=>
   some (([],[],[]),(o2.1,o2.2.1),())
def wi(k:Nat):mS:=⟨⟨160,[(35,3),(37,2),(10004,3),(10007,3)],[lN 35 0,lN 35 1,lN 35 2,lI 37 0,lI 37 1,lN 10004 0,lN 10004 1,lN 10004 2,rP 2 35,rP 3 37,rP 4 10004,rD 5 sN,rP 7 10007,rD 8 sI,rI 9],[lF 10007 0 tA,lF 10007 1 .str,lU 10007 2 tF],[]⟩,[.ex .normal [rP 10 10010,rI 11,lF 10010 0 tA,lF 10010 1 .str,lU 10010 2 tF]],fun q c v=>pH k c.2.2.2.2.2.2.2.2.2.2.2.1 c.2.2.2.2.2.2.2.2.2.2.2.2.2.1 c.2.2.2.2.2.2.2.2.2.2.2.2.2.2.1 v.1 v.2.1 v.2.2.1⟩
def xg(k:Nat):mS:=⟨⟨160,[(35,3),(37,2),(10004,3),(10007,3)],[lN 10004 0,lN 10004 1,lN 10004 2,rP 2 35,rP 3 37,rP 4 10004,rD 5 sN,rP 7 10007,rD 8 sI],[lN 35 0,lN 35 1,lN 35 2,lI 37 0,lI 37 1,lF 10007 0 tA,lF 10007 1 .str,lU 10007 2 tF,rI 9],[]⟩,[.ex (.exit 0) [lN 35 0,lN 35 1,lN 35 2,lI 37 0,lI 37 1,lF 10007 0 tA,lF 10007 1 .str,lU 10007 2 tF],.ex .ret [lN 35 0,lN 35 1,lN 35 2,lI 37 0,lI 37 1]],fun q c v=>du k q c.2.2.2.2.2.2.1 c.2.2.2.2.2.2.2.2.1 v.2.2.2.1 v.2.2.2.2.1 v.2.2.2.2.2.1 v.2.2.2.2.2.2.1 v.2.2.2.2.2.2.2.1 v.2.2.2.2.2.2.2.2.1⟩
def wj(k:Nat):mS:=⟨⟨160,[(35,3),(37,2),(10004,3),(10007,3)],[lN 35 0,lN 35 1,lN 35 2,lI 37 0,lI 37 1,lN 10004 0,lN 10004 1,lN 10004 2,rP 2 35,rP 3 37,rP 4 10004,rD 5 sN,rP 7 10007,rD 8 sI,rI 12,rI 13],[lF 10007 0 tA,lF 10007 1 .str,lU 10007 2 tF],[]⟩,[.ex .normal [rP 14 10014,rP 15 10015,lF 10014 0 tA,lF 10014 1 .str,lU 10014 2 tF,lI 10015 0,lI 10015 1]],fun q c v=>pI k c.2.2.2.2.2.2.2.2.2.2.2.1 c.2.2.2.2.2.2.2.2.2.2.2.2.2.1 c.2.2.2.2.2.2.2.2.2.2.2.2.2.2.1 c.2.2.2.2.2.2.2.2.2.2.2.2.2.2.2.1 v.1 v.2.1 v.2.2.1⟩
def xh(k:Nat):mS:=⟨⟨160,[(35,3),(37,2),(10004,3),(10007,3)],[lN 10004 0,lN 10004 1,lN 10004 2,rP 2 35,rP 3 37,rP 4 10004,rD 5 sN,rP 7 10007,rD 8 sI],[lN 35 0,lN 35 1,lN 35 2,lI 37 0,lI 37 1,lF 10007 0 tA,lF 10007 1 .str,lU 10007 2 tF,rI 12,rI 13],[]⟩,[.ex (.exit 2) [lN 35 0,lN 35 1,lN 35 2,lI 37 0,lI 37 1,lF 10007 0 tA,lF 10007 1 .str,lU 10007 2 tF],.ex .ret [lN 35 0,lN 35 1,lN 35 2,lI 37 0,lI 37 1]],fun q c v=>dc k q c.2.2.2.2.2.2.1 c.2.2.2.2.2.2.2.2.1 v.2.2.2.1 v.2.2.2.2.1 v.2.2.2.2.2.1 v.2.2.2.2.2.2.1 v.2.2.2.2.2.2.2.1 v.2.2.2.2.2.2.2.2.1 v.2.2.2.2.2.2.2.2.2.1⟩
def xi(k:Nat):mS:=⟨⟨160,[(35,3),(37,2),(10004,3),(10007,3)],[lN 10004 0,lN 10004 1,lN 10004 2,rP 2 35,rP 3 37,rP 4 10004,rD 5 sN,rP 7 10007],[lN 35 0,lN 35 1,lN 35 2,lI 37 0,lI 37 1,lD 10007 0 sA,lD 10007 1 sS,lD 10007 2 sF,rI 17],[]⟩,[.ex (.exit 4) [lN 35 0,lN 35 1,lN 35 2,lI 37 0,lI 37 1,lD 10007 0 sA,lD 10007 1 sS,lD 10007 2 sF],.ex .ret [lN 35 0,lN 35 1,lN 35 2,lI 37 0,lI 37 1]],fun q c v=>fh k q c.2.2.2.2.2.2.1 v.2.2.2.1 v.2.2.2.2.1 v.2.2.2.2.2.1 v.2.2.2.2.2.2.1 v.2.2.2.2.2.2.2.1 v.2.2.2.2.2.2.2.2.1⟩
def mR(k:Nat):Ev bw:=⟨[ve k,QQ k,QP k,Am k,(Ld k).uO 0 70],[rg 10 (wi k),lp 0 (xg k) k,rg 19 (wj k),lp 2 (xh k) k,lp 4 (xi k) k],[(2,35),(3,37)]⟩
def Dx(k:Nat):Cd bw:=rgC (mR k) f16 10 (wi k) [[0,1,2,3,4,5,6,7,8,9,10,11,12,13,14],[0,1,2,3,4,5,6,7,12,8,9,10,11,13,14]]
def Fo(k q:Nat):Cd bw:=oM (mR k) f16 0 (xg k) q [Dx k]
def Dy(k:Nat):Cd bw:=rgC (mR k) f16 19 (wj k) [[0,1,2,3,4,5,6,7,8,9,10,11,12,13,14,15,16,17],[0,1,2,3,4,5,6,7,8,9,10,11,12,13,15,14,16,17],[0,1,2,3,4,5,6,7,8,9,14,10,11,12,13,15,16,17],[0,1,2,3,4,5,6,7,8,9,14,15,10,11,12,13,16,17],[0,1,2,3,4,5,6,7,8,9,15,10,11,12,13,14,16,17],[0,1,2,3,4,5,6,7,8,9,15,14,10,11,12,13,16,17]]
def Fp(k q:Nat):Cd bw:=oM (mR k) f16 2 (xh k) q [Dy k]
def Fq(k q:Nat):Cd bw:=oM (mR k) f16 4 (xi k) q []
def A5(k:Nat):Cl bw:=zp (mR k) 16 f16 func16 call16 [.str] [tM,tP] (fun d=>fo k d.1) [Fo k k,Fp k k,Fq k k]
end
end Go.Fx.R5
namespace Go.Fx.R5
open Go Go.Fx Go.Proofs Go.Proofs.Tryz
noncomputable section
def gw(fn:Int)(im:XI)(lG:XB)(adh:Bool):Option (Int×XI×XB×Unit):=
 (bE im ([fn])).bind fun l=>
 (bE lG ([adh])).bind fun l2=>
 some ((bC ((l.length:Int) - 1)),l,l2,())
def oP:Cl bw:=lO ⟨[],[],[]⟩ 101 f101 func101 call101 [500000] ⟨⟨39,[(120,11)],[lD 120 0 sA,lD 120 1 sS,lD 120 2 sF,lD 120 3 sN,lI 120 4,lF 120 6 I,lF 120 8 tE,lF 120 9 I,lF 120 10 I],[rP 0 120,rD 1 .bool,lF 120 5 I,lF 120 7 .bool],[]⟩,[.ret [rI 500000,lF 120 5 I,lF 120 7 .bool] []],fun c v=>gw c.2.2.2.2.1 v.2.2.1 v.2.2.2.1 v.2.1⟩ []
def fD(gT:XE)(mz Db Ee nZ arg:Int):Option (XE×Unit):=
 (bE gT ([(mz,Db,Ee,nZ,arg)])).bind fun l=>
 some (l,())
def pS:Cl bw:=lO ⟨[],[],[]⟩ 103 f103 func103 call103 [] ⟨⟨29,[(120,11)],[lD 120 0 sA,lD 120 1 sS,lD 120 2 sF,lD 120 3 sN,lI 120 4,lF 120 5 I,lF 120 6 I,lF 120 7 .bool,lF 120 9 I,lF 120 10 I],[rP 0 120,rI 1,rI 2,rI 3,rI 4,rI 5,lF 120 8 tE],[]⟩,[.ret [lF 120 8 tE] []],fun c v=>fD v.2.2.2.2.2.2.1 v.2.1 v.2.2.1 v.2.2.2.1 v.2.2.2.2.1 v.2.2.2.2.2.1⟩ []
abbrev te:=XA→XS→XF→XN→Int→XI→XI→XB→XE→XI→XI→Int→Int→Int→Int→Option (XI×XB×XE×Unit)
def sW(f:te):CF:=⟨⟨88,[(120,11)],[lD 120 0 sA,lD 120 1 sS,lD 120 2 sF,lD 120 3 sN,lI 120 4,lF 120 6 I,lF 120 9 I,lF 120 10 I],[rP 0 120,rI 1,rI 2,rI 3,rI 4,lF 120 5 I,lF 120 7 .bool,lF 120 8 tE],[]⟩,[.ret [lF 120 5 I,lF 120 7 .bool,lF 120 8 tE] []],fun c v=>f c.1 c.2.1 c.2.2.1 c.2.2.2.1 c.2.2.2.2.1 v.2.2.2.2.2.1 c.2.2.2.2.2.1 v.2.2.2.2.2.2.1 v.2.2.2.2.2.2.2.1 c.2.2.2.2.2.2.1 c.2.2.2.2.2.2.2.1 v.2.1 v.2.2.1 v.2.2.2.1 v.2.2.2.2.1⟩
def CP(f:te):iL:=mg (sW f).L (sW f).F (zJ [] (sW f).V)
def nS(kw:te)(k:Nat)(aH:XA)(ax:XS)(bt:XF)(kp:XN)(fn:Int)(im jb:XI)(lG:XB)(gT:XE)(my to:XI)(i1 mz yes no:Int):Option (XI×XB×XE×Unit):=
 (bL kp i1).bind fun x1=>
 bif x1.1==33 then
  (bL x1.2.2.2.2 0).bind fun x2=>
  (kw aH ax bt kp fn im jb lG gT my to x2 mz no yes).bind fun r1=>
  some (r1.1,r1.2.1,r1.2.2.1,())
 else
  bif x1.1==31 then
   (gw fn im lG false).bind fun r2=>
   (bL x1.2.2.2.2 0).bind fun x3=>
   (kw aH ax bt kp fn r2.2.1 jb r2.2.2.1 gT my to x3 mz r2.1 no).bind fun r3=>
   (bL x1.2.2.2.2 1).bind fun x4=>
   (kw aH ax bt kp fn r3.1 jb r3.2.1 r3.2.2.1 my to x4 r2.1 yes no).bind fun r4=>
   some (r4.1,r4.2.1,r4.2.2.1,())
  else
   bif x1.1==32 then
    (gw fn im lG false).bind fun r5=>
    (bL x1.2.2.2.2 0).bind fun x5=>
    (kw aH ax bt kp fn r5.2.1 jb r5.2.2.1 gT my to x5 mz yes r5.1).bind fun r6=>
    (bL x1.2.2.2.2 1).bind fun x6=>
    (kw aH ax bt kp fn r6.1 jb r6.2.1 r6.2.2.1 my to x6 r5.1 yes no).bind fun r7=>
    some (r7.1,r7.2.1,r7.2.2.1,())
   else
    (fD gT mz yes 3 i1 1).bind fun r8=>
    (fD r8.1 mz no 3 i1 0).bind fun r9=>
    some (im,lG,r9.1,())
def jY:Nat→te
 |0=>fun _ _ _ _ _ _ _ _ _ _ _ _ _ _ _=>none
 |k+1=>nS (jY k) k
section
variable (kw:Gd bw 153 CP)
def Lq(k:Nat):Cl bw:=lO ⟨[oP,pS,kw.cl],[],[(10,47)]⟩ 153 f153 func153 call153 [] (sW (nS kw.1 k)) []
end
theorem Bf:∀ k,ld prog gt 153 (CP (jY k))
 |0=>cU (fun _ _=>rfl)
 |k+1=>(Lq ⟨_,Bf k⟩ k).ok
def CX(k:Nat):Cl bw:=⟨_,_,Bf k⟩
abbrev jH:=XA→XS→XF→XN→Int→XI→XI→XB→XE→XI→XI→Int→Int→Int→Option (XI×XB×XE×XI×XI×Unit)
def rj(f:jH):CF:=⟨⟨56,[(120,11)],[lD 120 0 sA,lD 120 1 sS,lD 120 2 sF,lD 120 3 sN,lI 120 4,lF 120 6 I],[rP 0 120,rI 1,rI 2,rI 3,lF 120 5 I,lF 120 7 .bool,lF 120 8 tE,lF 120 9 I,lF 120 10 I],[]⟩,[.ret [lF 120 5 I,lF 120 7 .bool,lF 120 8 tE,lF 120 9 I,lF 120 10 I] []],fun c v=>f c.1 c.2.1 c.2.2.1 c.2.2.2.1 c.2.2.2.2.1 v.2.2.2.2.1 c.2.2.2.2.2.1 v.2.2.2.2.2.1 v.2.2.2.2.2.2.1 v.2.2.2.2.2.2.2.1 v.2.2.2.2.2.2.2.2.1 v.2.1 v.2.2.1 v.2.2.2.1⟩
def AY(f:jH):iL:=mg (rj f).L (rj f).F (zJ [] (rj f).V)
abbrev kr:=XA→XS→XF→XN→Int→XI→XI→XB→XE→XI→XI→Int→Int→Int→Option (XI×XB×XE×XI×XI×Unit)
def sX(f:kr):CF:=⟨⟨151,[(120,11)],[lD 120 0 sA,lD 120 1 sS,lD 120 2 sF,lD 120 3 sN,lI 120 4,lF 120 6 I],[rP 0 120,rI 1,rI 2,rI 3,lF 120 5 I,lF 120 7 .bool,lF 120 8 tE,lF 120 9 I,lF 120 10 I],[]⟩,[.ret [lF 120 5 I,lF 120 7 .bool,lF 120 8 tE,lF 120 9 I,lF 120 10 I] []],fun c v=>f c.1 c.2.1 c.2.2.1 c.2.2.2.1 c.2.2.2.2.1 v.2.2.2.2.1 c.2.2.2.2.2.1 v.2.2.2.2.2.1 v.2.2.2.2.2.2.1 v.2.2.2.2.2.2.2.1 v.2.2.2.2.2.2.2.2.1 v.2.1 v.2.2.1 v.2.2.2.1⟩
def CQ(f:kr):iL:=mg (sX f).L (sX f).F (zJ [] (sX f).V)
abbrev kv:=XA→XS→XF→XN→Int→XI→XI→XB→XE→XI→XI→Int→Int→Int→Option (XI×XB×XE×XI×XI×Unit)
def sY(f:kv):CF:=⟨⟨77,[(120,11)],[lD 120 0 sA,lD 120 1 sS,lD 120 2 sF,lD 120 3 sN,lI 120 4,lF 120 6 I],[rP 0 120,rI 1,rI 2,rI 3,lF 120 5 I,lF 120 7 .bool,lF 120 8 tE,lF 120 9 I,lF 120 10 I],[]⟩,[.ret [lF 120 5 I,lF 120 7 .bool,lF 120 8 tE,lF 120 9 I,lF 120 10 I] []],fun c v=>f c.1 c.2.1 c.2.2.1 c.2.2.2.1 c.2.2.2.2.1 v.2.2.2.2.1 c.2.2.2.2.2.1 v.2.2.2.2.2.1 v.2.2.2.2.2.2.1 v.2.2.2.2.2.2.2.1 v.2.2.2.2.2.2.2.2.1 v.2.1 v.2.2.1 v.2.2.2.1⟩
def CR(f:kv):iL:=mg (sY f).L (sY f).F (zJ [] (sY f).V)
def iv(ct:jH)(dD:kr)(dE:kv)(q:Nat):Nat→XA→XS→XF→XN→Int→XI→Int→XI→XI→XB→XE→XI→XI→Int→Int→Option (XI×XB×XE×XI×XI×Unit)
 |0,_,_,_,_,_,_,_,_,_,_,_,_,_,_,_=>none
 |k+1,gL,gD,jS,qu,GW,mY,to4,k1,kH,qi,Mk,aca,to3,aeB,j=>
  bif decide (j<(k1.length:Int)) then
   aa (fun(jv:Int×XI×XB)=>
    (bL k1 j).bind fun x4=>
    (dD gL gD jS qu GW (jv.2.1) mY (jv.2.2) Mk aca to3 x4 aeB (jv.1)).bind fun r3=>
    iv ct dD dE q k gL gD jS qu GW mY to4 k1 r3.1 r3.2.1 r3.2.2.1 r3.2.2.2.1 r3.2.2.2.2.1 (jv.1) (bC (j+1))) fun cJ=>
   bif decide ((bC (j+1))<(k1.length:Int)) then
    (gw GW kH qi false).bind fun r2=>
    cJ (r2.1,r2.2.1,r2.2.2.1)
   else
    cJ (to4,kH,qi)
  else
   some (kH,qi,Mk,aca,to3,())
def pd(ct:jH)(dD:kr)(dE:kv)(k:Nat)(aH:XA)(ax:XS)(bt:XF)(kp:XN)(fn:Int)(im jb:XI)(lG:XB)(gT:XE)(my to:XI)(i1 mz Db:Int):Option (XI×XB×XE×XI×XI×Unit):=
 (bL my i1).bind fun x1=>
 (bL my (i1.toNat:Int)).bind fun x2=>
 (bL kp i1).bind fun x3=>
 aa (fun(nK:XE)=>
  (iv ct dD dE k k aH ax bt kp fn jb Db x3.2.2.2.2 im lG nK (List.set my i1.toNat mz) to mz 0).bind fun o=>
  some (o.1,o.2.1,o.2.2.1,o.2.2.2.1,o.2.2.2.2.1,())) fun cJ=>
 bif (x3.2.2.2.2.length:Int)==0 then
  (fD gT mz Db 1 (-1) 0).bind fun r1=>
  cJ r1.1
 else
  cJ gT
def gk(ct:jH)(dD:kr)(dE:kv)(k:Nat)(aH:XA)(ax:XS)(bt:XF)(kp:XN)(fn:Int)(im jb:XI)(lG:XB)(gT:XE)(my to:XI)(i1 mz Db:Int):Option (XI×XB×XE×XI×XI×Unit):=
 (bL kp i1).bind fun x1=>
 (bL my i1).bind fun x2=>
 (bL my (i1.toNat:Int)).bind fun x3=>
 (bL to i1).bind fun x4=>
 (bL to (i1.toNat:Int)).bind fun x5=>
 bif x1.1==14 then
  (gw fn im lG false).bind fun r1=>
  aa (fun(jv:Int×XI×XB)=>
   (bL x1.2.2.2.2 0).bind fun x6=>
   (jY k aH ax bt kp fn (jv.2.1) jb (jv.2.2) gT (List.set my i1.toNat mz) (List.set to i1.toNat Db) x6 mz r1.1 (jv.1)).bind fun r3=>
   (bL x1.2.2.2.2 1).bind fun x7=>
   (ct aH ax bt kp fn r3.1 jb r3.2.1 r3.2.2.1 (List.set my i1.toNat mz) (List.set to i1.toNat Db) x7 r1.1 Db).bind fun r4=>
   aa (fun(jv:XI×XB×XE×XI×XI)=>
    some ((jv.1),(jv.2.1),(jv.2.2.1),(jv.2.2.2.1),(jv.2.2.2.2),())) fun jf=>
   bif decide ((x1.2.2.2.2.length:Int) > 2) then
    (bL x1.2.2.2.2 2).bind fun x8=>
    (ct aH ax bt kp fn r4.1 jb r4.2.1 r4.2.2.1 r4.2.2.2.1 r4.2.2.2.2.1 x8 (jv.1) Db).bind fun r5=>
    jf (r5.1,r5.2.1,r5.2.2.1,r5.2.2.2.1,r5.2.2.2.2.1)
   else
    jf (r4.1,r4.2.1,r4.2.2.1,r4.2.2.2.1,r4.2.2.2.2.1)) fun cJ=>
  bif decide ((x1.2.2.2.2.length:Int) > 2) then
   (gw fn r1.2.1 r1.2.2.1 false).bind fun r2=>
   cJ (r2.1,r2.2.1,r2.2.2.1)
  else
   cJ (Db,r1.2.1,r1.2.2.1)
 else
  aa (fun(v:Bool)=>
   bif v then
    (dE aH ax bt kp fn im jb lG gT (List.set my i1.toNat mz) (List.set to i1.toNat Db) i1 mz Db).bind fun r6=>
    some (r6.1,r6.2.1,r6.2.2.1,r6.2.2.2.1,r6.2.2.2.2.1,())
   else
    bif x1.1==19 then
     (gw fn im lG false).bind fun r7=>
     (bL x1.2.2.2.2 0).bind fun x9=>
     (jY k aH ax bt kp fn r7.2.1 jb r7.2.2.1 gT (List.set my i1.toNat mz) (List.set to i1.toNat Db) x9 mz Db r7.1).bind fun r8=>
     (fD r8.2.2.1 r7.1 r7.1 4 i1 0).bind fun r9=>
     some (r8.1,r8.2.1,r9.1,List.set my i1.toNat mz,List.set to i1.toNat Db,())
    else
     bif x1.1==21 then
      (fD gT mz mz 6 i1 0).bind fun kC=>
      some (im,lG,kC.1,List.set my i1.toNat mz,List.set to i1.toNat Db,())
     else
      bif x1.1==20 then
       (fD gT mz mz 7 i1 0).bind fun oc=>
       some (im,lG,oc.1,List.set my i1.toNat mz,List.set to i1.toNat Db,())
      else
       bif x1.1==22 then
        (bL x1.2.2.2.2 0).bind fun x10=>
        (bL kp x10).bind fun x11=>
        (kx k (aH,ax,bt) x11.2.2.2.1).bind fun pf=>
        (fD gT mz Db 5 i1 pf.1).bind fun p7=>
        some (im,lG,p7.1,List.set my i1.toNat mz,List.set to i1.toNat Db,())
       else
        (fD gT mz Db 2 i1 0).bind fun rY=>
        some (im,lG,rY.1,List.set my i1.toNat mz,List.set to i1.toNat Db,())) fun wg=>
  bif x1.1==15 then
   wg true
  else
   wg (x1.1==16)
def pZ(ct:jH)(dD:kr)(dE:kv)(k:Nat)(aH:XA)(ax:XS)(bt:XF)(kp:XN)(fn:Int)(im jb:XI)(lG:XB)(gT:XE)(my to:XI)(i1 mz Db:Int):Option (XI×XB×XE×XI×XI×Unit):=
 (bL kp i1).bind fun x1=>
 (gw fn im lG true).bind fun r1=>
 (gw fn r1.2.1 r1.2.2.1 false).bind fun r2=>
 bif x1.1==15 then
  (fD gT mz r1.1 1 (-1) 0).bind fun r3=>
  (bL x1.2.2.2.2 0).bind fun x2=>
  (jY k aH ax bt kp fn r2.2.1 jb r2.2.2.1 r3.1 my to x2 r1.1 r2.1 Db).bind fun r4=>
  (bL x1.2.2.2.2 1).bind fun x3=>
  (ct aH ax bt kp fn r4.1 jb r4.2.1 r4.2.2.1 my to x3 r2.1 r1.1).bind fun r5=>
  some (r5.1,r5.2.1,r5.2.2.1,r5.2.2.2.1,r5.2.2.2.2.1,())
 else
  (fD gT mz r1.1 8 i1 0).bind fun r6=>
  (fD r6.1 r1.1 r2.1 9 i1 1).bind fun r7=>
  (fD r7.1 r1.1 Db 9 i1 0).bind fun r8=>
  (gw fn r2.2.1 r2.2.2.1 false).bind fun r9=>
  (bL x1.2.2.2.2 2).bind fun x4=>
  (ct aH ax bt kp fn r9.2.1 jb r9.2.2.1 r8.1 my to x4 r2.1 r9.1).bind fun kC=>
  (fD kC.2.2.1 r9.1 r1.1 10 i1 0).bind fun oc=>
  some (kC.1,kC.2.1,oc.1,kC.2.2.2.1,kC.2.2.2.2.1,())
def eF:Nat→jH×kr×kv
 |0=>(fun _ _ _ _ _ _ _ _ _ _ _ _ _ _=>none,fun _ _ _ _ _ _ _ _ _ _ _ _ _ _=>none,fun _ _ _ _ _ _ _ _ _ _ _ _ _ _=>none)
 |k+1=>(pd (eF k).1 (eF k).2.1 (eF k).2.2 k,gk (eF k).1 (eF k).2.1 (eF k).2.2 k,pZ (eF k).1 (eF k).2.1 (eF k).2.2 k)
def jl(k:Nat):jH:=(eF k).1
def jZ(k:Nat):kr:=(eF k).2.1
def mQ(k:Nat):kv:=(eF k).2.2
section
variable (ct:Gd bw 102 AY) (dD:Gd bw 122 CQ) (dE:Gd bw 154 CR)
def xr(k:Nat):mS:=⟨⟨56,[(120,11)],[lD 120 0 sA,lD 120 1 sS,lD 120 2 sF,lD 120 3 sN,lI 120 4,lF 120 6 I,rP 0 120,rI 3,rD 8 sI],[lF 120 5 I,lF 120 7 .bool,lF 120 8 tE,lF 120 9 I,lF 120 10 I,rI 2,rI 9],[]⟩,[.ex (.exit 0) [lF 120 5 I,lF 120 7 .bool,lF 120 8 tE,lF 120 9 I,lF 120 10 I]],fun q c v=>iv ct.1 dD.1 dE.1 k q c.1 c.2.1 c.2.2.1 c.2.2.2.1 c.2.2.2.2.1 c.2.2.2.2.2.1 c.2.2.2.2.2.2.2.1 c.2.2.2.2.2.2.2.2.1 v.1 v.2.1 v.2.2.1 v.2.2.2.1 v.2.2.2.2.1 v.2.2.2.2.2.1 v.2.2.2.2.2.2.1⟩
def AQ(k:Nat):Ev bw:=⟨[oP,pS,dD.cl],[lp 0 (xr ct dD dE k) k],[]⟩
def Fz(k q:Nat):Cd bw:=oM (AQ ct dD dE k) f102 0 (xr ct dD dE k) q []
def JP(k:Nat):Cl bw:=lO (AQ ct dD dE k) 102 f102 func102 call102 [] (rj (pd ct.1 dD.1 dE.1 k)) [Fz ct dD dE k k]
def Lr(k:Nat):Cl bw:=lO ⟨[Am k,oP,ct.cl,pS,CX k,dE.cl],[],[(8,47)]⟩ 122 f122 func122 call122 [] (sX (gk ct.1 dD.1 dE.1 k)) []
def Ls(k:Nat):Cl bw:=lO ⟨[oP,ct.cl,pS,CX k],[],[(8,47)]⟩ 154 f154 func154 call154 [] (sY (pZ ct.1 dD.1 dE.1 k)) []
end
theorem nH:∀ k,ld prog gt 102 (AY (jl k))∧ld prog gt 122 (CQ (jZ k))∧ld prog gt 154 (CR (mQ k))
 |0=>⟨cU (fun _ _=>rfl),cU (fun _ _=>rfl),cU (fun _ _=>rfl)⟩
 |k+1=>have ih:=nH k;⟨(JP ⟨_,ih.1⟩ ⟨_,ih.2.1⟩ ⟨_,ih.2.2⟩ k).ok,(Lr ⟨_,ih.1⟩ ⟨_,ih.2.1⟩ ⟨_,ih.2.2⟩ k).ok,(Ls ⟨_,ih.1⟩ ⟨_,ih.2.1⟩ ⟨_,ih.2.2⟩ k).ok⟩
def JC(k:Nat):Cl bw:=⟨_,_,(nH k).1⟩
def X6(k:Nat):Cl bw:=⟨_,_,(nH k).2.1⟩
def X7(k:Nat):Cl bw:=⟨_,_,(nH k).2.2⟩
def oB(q:Nat):Nat→XN→XI→XI→Int→Option (XI×XI×Unit)
 |0,_,_,_,_=>none
 |k+1,acO,my,to,i1=>
  bif decide (i1<(acO.length:Int)) then
   (bE my ([(-1)])).bind fun l=>
   (bE to ([(-1)])).bind fun l2=>
   oB q k acO l l2 (bC (i1+1))
  else
   some (my,to,())
def oC(q:Nat):Nat→XF→XA→XS→XF→XN→Int→XI→XI→XB→XE→XI→XI→Int→Option (Int×XI×XI×XB×XE×XI×XI×Unit)
 |0,_,_,_,_,_,_,_,_,_,_,_,_,_=>none
 |k+1,w3,aH,ax,bt,qu,fn,im,jb,lG,gT,my,to,i1=>
  bif decide (i1<(w3.length:Int)) then
   (gw i1 im lG false).bind fun r1=>
   (gw i1 r1.2.1 r1.2.2.1 false).bind fun r2=>
   (bE jb ([r1.1])).bind fun l=>
   (bL w3 i1).bind fun x1=>
   (jl q aH ax bt qu i1 r2.2.1 l r2.2.2.1 gT my to x1.2.2.2.2 r1.1 r2.1).bind fun r3=>
   (fD r3.2.2.1 r2.1 r2.1 6 (-1) 0).bind fun r4=>
   oC q k w3 aH ax bt qu i1 r3.1 l r3.2.1 r4.1 r3.2.2.2.1 r3.2.2.2.2.1 (bC (i1+1))
  else
   some (fn,im,jb,lG,gT,my,to,())
def Hz(k:Nat)(t:XA×XS×XF)(kp:XN):Option (XA×XS×XF×XN×Int×XI×XI×XB×XE×XI×XI×Unit):=
 (oB k k kp [] [] 0).bind fun o=>
 (oC k k t.2.2 t.1 t.2.1 t.2.2 kp 0 [] [] [] [] o.1 o.2.1 0).bind fun o2=>
 some (t.1,t.2.1,t.2.2,kp,o2.1,o2.2.1,o2.2.2.1,o2.2.2.2.1,o2.2.2.2.2.1,o2.2.2.2.2.2.1,o2.2.2.2.2.2.2.1,())
def C5(k:Nat):mS:=⟨⟨80,[(35,3),(120,11)],[lD 35 0 sA,lD 35 1 sS,lD 35 2 sF,lD 120 0 sA,lD 120 1 sS,lD 120 2 sF,lD 120 3 sN,lI 120 4,lN 120 5,lN 120 6,lN 120 7,lN 120 8,rD 1 sN,rP 2 35,rP 5 120],[lF 120 9 I,lF 120 10 I,rI 6],[]⟩,[.ex (.exit 0) [lF 120 9 I,lF 120 10 I]],fun q c v=>oB k q c.2.2.2.2.2.2.2.2.2.2.2.2.1 v.1 v.2.1 v.2.2.1⟩
def C6(k:Nat):mS:=⟨⟨80,[(35,3),(120,11)],[lD 35 0 sA,lD 35 1 sS,lD 35 2 sF,lD 120 0 sA,lD 120 1 sS,lD 120 2 sF,lD 120 3 sN,rP 2 35,rP 5 120],[lI 120 4,lF 120 5 I,lF 120 6 I,lF 120 7 .bool,lF 120 8 tE,lF 120 9 I,lF 120 10 I,rI 7],[]⟩,[.ex (.exit 2) [lI 120 4,lF 120 5 I,lF 120 6 I,lF 120 7 .bool,lF 120 8 tE,lF 120 9 I,lF 120 10 I]],fun q c v=>oC k q c.2.2.1 c.2.2.2.1 c.2.2.2.2.1 c.2.2.2.2.2.1 c.2.2.2.2.2.2.1 v.1 v.2.1 v.2.2.1 v.2.2.2.1 v.2.2.2.2.1 v.2.2.2.2.2.1 v.2.2.2.2.2.2.1 v.2.2.2.2.2.2.2.1⟩
def BU(k:Nat):Ev bw:=⟨[oP,JC k,pS],[lp 0 (C5 k) k,lp 2 (C6 k) k],[(2,35),(13,120)]⟩
def KU(k q:Nat):Cd bw:=oM (BU k) f67 0 (C5 k) q []
def KV(k q:Nat):Cd bw:=oM (BU k) f67 2 (C6 k) q []
def QS(k:Nat):Cl bw:=lO (BU k) 67 f67 func67 call67 [500000] ⟨⟨80,[],[],[rD 0 tM,rD 1 sN],[]⟩,[.ret [rP 500000 120,lD 120 0 sA,lD 120 1 sS,lD 120 2 sF,lD 120 3 sN,lI 120 4,lF 120 5 I,lF 120 6 I,lF 120 7 .bool,lF 120 8 tE,lF 120 9 I,lF 120 10 I] [(120,11,120)]],fun c v=>Hz k v.1 v.2.1⟩ [KU k k,KV k k]
def HB(k:Nat)(t:XA×XS×XF)(kp:XN):Option ((XI×XI×XB×XE)×Unit):=
 (Hz k t kp).bind fun r1=>
 some ((r1.2.2.2.2.2.1,r1.2.2.2.2.2.2.1,r1.2.2.2.2.2.2.2.1,r1.2.2.2.2.2.2.2.2.1),())
def QT(k:Nat):Cl bw:=zp ⟨[QS k],[],[(2,35),(4,84)]⟩ 39 f39 func39 call39 [tM,sN] [(.dg sI (.dg sI (.dg sB sE)))] (fun d=>HB k d.1 d.2.1) []
def gX(q:Nat):Nat→XI→XE→Int→XB→Int→Option (XB×Unit)
 |0,_,_,_,_,_=>none
 |k+1,w5,w8,fn3,vw,i1=>
  bif decide (i1<(w8.length:Int)) then
   aa (fun(agN:XB)=>
    gX q k w5 w8 fn3 agN (bC (i1+1))) fun wg=>
   (bL w8 i1).bind fun x1=>
   aa (fun(v2:Bool)=>
    bif v2 then
     (bL vw x1.2.2.2.2).bind fun x6=>
     (bL vw (x1.2.2.2.2.toNat:Int)).bind fun x7=>
     wg (List.set vw x1.2.2.2.2.toNat true)
    else
     wg vw) fun jf=>
   bif x1.2.2.1==5 then
    (bL w5 x1.1).bind fun x2=>
    aa (fun(v:Bool)=>
     jf v) fun cJ=>
    bif x2==fn3 then
     cJ true
    else
     (bL w5 x1.1).bind fun x3=>
     (bL vw x3).bind fun x4=>
     (bL vw (x3.toNat:Int)).bind fun x5=>
     cJ x5
   else
    jf false
  else
   some (vw,())
def mt(q:Nat):Nat→XI→XI→XE→Int→XB→Int→Option (XB×Unit)
 |0,_,_,_,_,_,_=>none
 |k+1,w,w2,w4,GW,out,n=>
  bif decide (n<(w2.length:Int)) then
   (gX q q w w4 GW out 0).bind fun o=>
   mt q k w w2 w4 GW o.1 (bC (n+1))
  else
   some (out,())
def xP(k:Nat)(f:XI×XI×XB×XE)(fn:Int):Option (XB×Unit):=
 (mkl (f.2.1.length:Int) (false:Bool)).bind fun z=>
 (sub z 0 (f.2.1.length:Int)).bind fun l=>
 (mt k k f.1 f.2.1 f.2.2.2 fn l 0).bind fun o=>
 some (o.1,())
def zV(k:Nat):mS:=⟨⟨61,[(84,4)],[lD 84 0 sI,lD 84 1 sI,lD 84 2 sB,lD 84 3 sE,rI 1,rP 2 84,rI 6],[(.r 5,.h .eL .bool),rI 7],[]⟩,[.ex (.exit 2) [(.r 5,.h .eL .bool)]],fun q c v=>gX k q c.1 c.2.2.2.1 c.2.2.2.2.1 v.1 v.2.1⟩
def zU(k:Nat):mS:=⟨⟨61,[(84,4)],[lD 84 0 sI,lD 84 1 sI,lD 84 2 sB,lD 84 3 sE,rI 1,rP 2 84],[(.r 5,.h .eL .bool),rI 6],[]⟩,[.ex (.exit 0) [(.r 5,.h .eL .bool)]],fun q c v=>mt k q c.1 c.2.1 c.2.2.2.1 c.2.2.2.2.1 v.1 v.2.1⟩
def yg(k:Nat):Ev bw:=⟨[],[lp 2 (zV k) k,lp 0 (zU k) k],[(2,84)]⟩
def HQ(k q:Nat):Cd bw:=oM (yg k) f68 2 (zV k) q []
def HP(k q:Nat):Cd bw:=oM (yg k) f68 0 (zU k) q [HQ k k]
def MC(k:Nat):Cl bw:=zp (yg k) 68 f68 func68 call68 [(.dg sI (.dg sI (.dg sB sE))),I] [sB] (fun d=>xP k d.1 d.2.1) [HP k k]
def nA(q:Nat):Nat→XB→XB→Int→Option (XB×Unit)
 |0,_,_,_=>none
 |k+1,r2,vw,k1=>
  bif decide (k1<(r2.length:Int)) then
   (bL vw k1).bind fun x4=>
   (bL vw (k1.toNat:Int)).bind fun x5=>
   aa (fun(v:Bool)=>
    (bL vw k1).bind fun x7=>
    (bL vw (k1.toNat:Int)).bind fun x8=>
    nA q k r2 (List.set vw k1.toNat v) (bC (k1+1))) fun cJ=>
   bif x5 then
    cJ true
   else
    (bL r2 k1).bind fun x6=>
    cJ x6
  else
   some (vw,())
def jk(q:Nat):Nat→XI→XI→XB→XE→XB→Int→Option (XB×Unit)
 |0,_,_,_,_,_,_=>none
 |k+1,w,w2,w3,w4,out,i1=>
  bif decide (i1<(w2.length:Int)) then
   aa (fun(vw:XB)=>
    jk q k w w2 w3 w4 vw (bC (i1+1))) fun cJ=>
   (xP q (w,w2,w3,w4) i1).bind fun r1=>
   (bL r1.1 i1).bind fun x1=>
   bif !x1 then
    cJ out
   else
    (bL out i1).bind fun x2=>
    (bL out (i1.toNat:Int)).bind fun x3=>
    (nA q q r1.1 (List.set out i1.toNat true) 0).bind fun o=>
    cJ o.1
  else
   some (out,())
def EK(k:Nat)(f:XI×XI×XB×XE):Option (XB×Unit):=
 (mkl (f.2.1.length:Int) (false:Bool)).bind fun z=>
 (sub z 0 (f.2.1.length:Int)).bind fun l=>
 (jk k k f.1 f.2.1 f.2.2.1 f.2.2.2 l 0).bind fun o=>
 some (o.1,())
def Bx(k:Nat):mS:=⟨⟨49,[(84,4)],[lD 84 0 sI,lD 84 1 sI,lD 84 2 sB,lD 84 3 sE,rP 1 84,rI 4,rD 5 sB],[(.r 3,.h .eL .bool),rI 6],[]⟩,[.ex (.exit 2) [(.r 3,.h .eL .bool)]],fun q c v=>nA k q c.2.2.2.2.2.2.1 v.1 v.2.1⟩
def Bw(k:Nat):mS:=⟨⟨49,[(84,4)],[lD 84 0 sI,lD 84 1 sI,lD 84 2 sB,lD 84 3 sE,rP 1 84],[(.r 3,.h .eL .bool),rI 4],[]⟩,[.ex (.exit 0) [(.r 3,.h .eL .bool)]],fun q c v=>jk k q c.1 c.2.1 c.2.2.1 c.2.2.2.1 v.1 v.2.1⟩
def Ah(k:Nat):Ev bw:=⟨[MC k],[lp 2 (Bx k) k,lp 0 (Bw k) k],[(1,84)]⟩
def Jr(k q:Nat):Cd bw:=oM (Ah k) f40 2 (Bx k) q []
def Jq(k q:Nat):Cd bw:=oM (Ah k) f40 0 (Bw k) q [Jr k k]
def OD(k:Nat):Cl bw:=zp (Ah k) 40 f40 func40 call40 [(.dg sI (.dg sI (.dg sB sE)))] [sB] (fun d=>EK k d.1) [Jq k k]
def rG(k:Nat)(ce:ab):Option (((XA×XS×XF×XN×XI×XI×XB×XE×XB×Bool×Unit)⊕(XA×XS×XF×XN×XI×XI×XB×XE×XB×Bool×Unit))):=
 (fo k ce).bind fun r1=>
 bif r1.2.1.1 != 0 then
  some (.inr ([],[],[],[],[],[],[],[],[],false,()))
 else
  (gp k ce).bind fun r2=>
  (HB k r1.1 r2.1).bind fun r3=>
  (EK k r3.1).bind fun r4=>
  some (.inl (r1.1.1,r1.1.2.1,r1.1.2.2,r2.1,r3.1.1,r3.1.2.1,r3.1.2.2.1,r3.1.2.2.2,r4.1,true,()))
def Mx(k:Nat):Cl bw:=lO ⟨[A5 k,ve k,QT k,OD k],[],[(4,35),(5,37),(18,86)]⟩ 21 f21 func21 call21 [500000,500001] ⟨⟨40,[],[],[rD 0 .str],[]⟩,[.ret [rP 500000 10030,lD 10030 0 sA,lD 10030 1 sS,lD 10030 2 sF,lD 10030 3 sN,lD 10030 4 sI,lD 10030 5 sI,lD 10030 6 sB,lD 10030 7 sE,lD 10030 8 sB,rD 500001 .bool] [(10030,9,86)],.ret [rP 500000 86,lD 86 0 sA,lD 86 1 sS,lD 86 2 sF,lD 86 3 sN,lD 86 4 sI,lD 86 5 sI,lD 86 6 sB,lD 86 7 sE,lD 86 8 sB,rD 500001 .bool] [(86,9,86)]],fun c v=>rG k v.1⟩ []
def eI(q:Nat):Nat→XA→XI→Int→Option (XI×Unit)
 |0,_,_,_=>none
 |k+1,gL,out,i1=>
  bif decide (i1<(gL.length:Int)) then
   (bL gL i1).bind fun x1=>
   (bL gL i1).bind fun x2=>
   (bE out ([(bC (x1.2 - 1)),x2.2])).bind fun l=>
   eI q k gL l (bC (i1+1))
  else
   some (out,())
def dU(q:Nat):Nat→XN→XI→Int→Option (XI×Unit)
 |0,_,_,_=>none
 |k+1,qu,out,i1=>
  bif decide (i1<(qu.length:Int)) then
   aa (fun(vw:XI)=>
    dU q k qu vw (bC (i1+1))) fun cJ=>
   (bL qu i1).bind fun x1=>
   (bL qu i1).bind fun x2=>
   bif x2.1==24 then
    (bE out ([(bC (x1.2.2.1 - 1)),x1.2.2.1,(bC (x1.2.2.1+1)),(bC ((bC (0 - x1.2.2.1)) - 1)),(bC (0 - x1.2.2.1)),(bC (1 - x1.2.2.1))])).bind fun l=>
    cJ l
   else
    cJ out
  else
   some (out,())
def mh(k:Nat)(aH:XA)(kp:XN):Option (XI×Unit):=
 (eI k k aH [] 0).bind fun o=>
 (dU k k kp o.1 0).bind fun o2=>
 some (o2.1,())
def wl(k:Nat):mS:=⟨⟨82,[(86,9)],[lD 86 0 sA,lD 86 1 sS,lD 86 2 sF,lD 86 3 sN,lD 86 4 sI,lD 86 5 sI,lD 86 6 sB,lD 86 7 sE,lD 86 8 sB,rP 0 86],[(.r 3,.h .eL I),rI 4],[]⟩,[.ex (.exit 0) [(.r 3,.h .eL I)]],fun q c v=>eI k q c.1 v.1 v.2.1⟩
def wm(k:Nat):mS:=⟨⟨82,[(86,9)],[lD 86 0 sA,lD 86 1 sS,lD 86 2 sF,lD 86 3 sN,lD 86 4 sI,lD 86 5 sI,lD 86 6 sB,lD 86 7 sE,lD 86 8 sB,rP 0 86],[(.r 3,.h .eL I),rI 5],[]⟩,[.ex (.exit 2) [(.r 3,.h .eL I)]],fun q c v=>dU k q c.2.2.2.1 v.1 v.2.1⟩
def uc(k:Nat):Ev bw:=⟨[],[lp 0 (wl k) k,lp 2 (wm k) k],[]⟩
def Dz(k q:Nat):Cd bw:=oM (uc k) f22 0 (wl k) q []
def DA(k q:Nat):Cd bw:=oM (uc k) f22 2 (wm k) q []
def Id(k:Nat):Cl bw:=lO (uc k) 22 f22 func22 call22 [500000] ⟨⟨82,[(86,9)],[lD 86 0 sA,lD 86 1 sS,lD 86 2 sF,lD 86 3 sN,lD 86 4 sI,lD 86 5 sI,lD 86 6 sB,lD 86 7 sE,lD 86 8 sB],[rP 0 86],[]⟩,[.ret [(.r 500000,.h .eL I)] []],fun c v=>mh k c.1 c.2.2.2.1⟩ [Dz k k,DA k k]
end
end Go.Fx.R5
namespace Go.Fx.R5
open Go Go.Fx Go.Proofs Go.Proofs.Tryz
noncomputable section
def rF(k:Nat)(ce:ab):Option (XI×Unit):=
 aa (fun(jv:Bool×XA×XS×XF×XN×XI×XI×XB×XE×XB)=>
  bif !(jv.1) then
   some ([],())
  else
   (mh k (jv.2.1) (jv.2.2.2.2.1)).bind fun r3=>
   some (r3.1,())) fun cJ=>
 (rG k ce).bind fun r=>match r with
 |.inl r1=>
  cJ (r1.2.2.2.2.2.2.2.2.2.1,r1.1,r1.2.1,r1.2.2.1,r1.2.2.2.1,r1.2.2.2.2.1,r1.2.2.2.2.2.1,r1.2.2.2.2.2.2.1,r1.2.2.2.2.2.2.2.1,r1.2.2.2.2.2.2.2.2.1)
 |.inr r2=>
  cJ (r2.2.2.2.2.2.2.2.2.2.1,r2.1,r2.2.1,r2.2.2.1,r2.2.2.2.1,r2.2.2.2.2.1,r2.2.2.2.2.2.1,r2.2.2.2.2.2.2.1,r2.2.2.2.2.2.2.2.1,r2.2.2.2.2.2.2.2.2.1)
def GS(k:Nat):Cl bw:=zp ⟨[Mx k,Id k],[],[]⟩ 7 f7 func7 call7 [.str] [sI] (fun d=>rF k d.1) []
def eT(aH:XA)(ax:XS)(bt:XF)(aA:XN)(n:Int)(mv:XA):Option (Int×XA×XS×XF×XA×Unit):=
 (bL aA n).bind fun x1=>
 bif decide ((qL mv x1.2.2.2.1) > 0) then
  some (9,aH,ax,bt,mv,())
 else
  aa (fun(jv:XA×XS×XF)=>
   some (0,(jv.1),(jv.2.1),(jv.2.2),ry mv x1.2.2.2.1 1,())) fun wg=>
  bif x1.1==2 then
   aa (fun(v:Bool)=>
    aa (fun(v2:Bool)=>
     bif v2 then
      some (8,aH,ax,bt,ry mv x1.2.2.2.1 1,())
     else
      (bE aH ([(x1.2.2.2.1,x1.2.2.1)])).bind fun l=>
      wg (l,ax,bt)) fun jf=>
    bif v then
     jf true
    else
     jf (decide (x1.2.2.1 > 64))) fun cJ=>
   bif (aH.length:Int)==4 then
    cJ true
   else
    cJ (decide (x1.2.2.1<1))
  else
   bif x1.1==3 then
    bif (ax.length:Int)==4 then
     some (8,aH,ax,bt,ry mv x1.2.2.2.1 1,())
    else
     (bE ax ([x1.2.2.2.1])).bind fun l2=>
     wg (aH,l2,bt)
   else
    bif x1.1==4 then
     bif (bt.length:Int)==6 then
      some (8,aH,ax,bt,ry mv x1.2.2.2.1 1,())
     else
      (bL x1.2.2.2.2 (bC ((x1.2.2.2.2.length:Int) - 1))).bind fun x2=>
      (bE bt ([(x1.2.2.2.1,0,[],[],x2)])).bind fun l3=>
      wg (aH,ax,l3)
    else
     wg (aH,ax,bt)
def GQ:Cl bw:=lO ⟨[],[],[(9,47),(99,9999)]⟩ 72 f72 func72 call72 [500000] ⟨⟨103,[(35,3)],[],[rD 0 sN,rI 1,rP 2 35,(.r 3,.h .mp tA),lF 35 0 tA,lF 35 1 .str,lU 35 2 tF],[1000003]⟩,[.ret [rI 500000,lF 35 0 tA,lF 35 1 .str,lU 35 2 tF,(.r 3,.h .mp tA)] []],fun c v=>eT v.2.2.2.2.1 v.2.2.2.2.2.1 v.2.2.2.2.2.2.1 v.1 v.2.1 v.2.2.2.1⟩ []
def bX(q:Nat):Nat→XA→XN→XI→Int→Int→Int→Int→XS→XS→XA→Int→Option (((Int×Int×Int×XS×XS×Unit)⊕(Int×Int×Int×XS×XS×Unit)))
 |0,_,_,_,_,_,_,_,_,_,_,_=>none
 |k+1,ER,b9,afF,afG,w,w2,tc,AR,CG,gK,XY=>
  bif decide (XY<afG) then
   (bL afF XY).bind fun x1=>
   (bL b9 x1).bind fun x2=>
   aa (fun(v:Bool)=>
    bif v then
     some (.inr (9,x2.2.1,tc,AR,CG,()))
    else
     aa (fun(jv:Bool×Int×XS×XS)=>
      bif (jv.1) then
       some (.inr (8,x2.2.1,(jv.2.1),(jv.2.2.1),(jv.2.2.2),()))
      else
       bX q k ER b9 afF afG w w2 (jv.2.1) (jv.2.2.1) (jv.2.2.2) (ry gK x2.2.2.2.1 1) (bC (XY+1))) fun wg=>
     bif x2.1==7 then
      (bE CG ([x2.2.2.2.1])).bind fun l2=>
      wg ((CG.length:Int)==3,tc,AR,l2)
     else
      bif x2.1==5 then
       aa (fun(v2:Bool)=>
        (bE AR ([x2.2.2.2.1])).bind fun l3=>
        wg (v2,(bC (tc+1)),l3,CG)) fun jf=>
       bif (AR.length:Int)==8 then
        jf true
       else
        jf (tc==3)
      else
       (bE AR ([x2.2.2.2.1])).bind fun l4=>
       wg ((AR.length:Int)==8,tc,l4,CG)) fun cJ=>
   bif decide ((qL ER x2.2.2.2.1) > 0) then
    cJ true
   else
    cJ (decide ((qL gK x2.2.2.2.1) > 0))
  else
   some (.inl (w,w2,tc,AR,CG,()))
def tf(k:Nat)(wE:Int)(KW KX:XS)(aA:XN)(nZ:Int×Int×Int×ab×XI)(mv:XA):Option ((Int×Int)×Int×XS×XS×XA×Unit):=
 (sub nZ.2.2.2.2 0 (bC ((nZ.2.2.2.2.length:Int) - 1))).bind fun l=>
 (bX k k mv aA l (l.length:Int) 0 0 wE KW KX ([]:XA) 0).bind fun r=>match r with
 |.inl o=>
  some ((0,0),o.2.2.1,o.2.2.2.1,o.2.2.2.2.1,mv,())
 |.inr o2=>
  some ((o2.1,o2.2.1),o2.2.2.1,o2.2.2.2.1,o2.2.2.2.2.1,mv,())
def wh(k:Nat):mS:=⟨⟨126,[(37,2),(47,5),(67,5)],[(.r 3,.h .mp tA),lI 47 0,lI 47 1,lI 47 2,lD 47 3 .str,lD 47 4 sI,lD 67 0 .str,lI 67 4,rD 0 sN,rP 2 67,rP 8 37,rD 21 sI,rI 22],[lI 37 0,lI 37 1,lI 67 1,lF 67 2 .str,lF 67 3 .str,(.r 9,.h .mp tA),rI 23],[1000003]⟩,[.ex (.exit 0) [lI 37 0,lI 37 1,lI 67 1,lF 67 2 .str,lF 67 3 .str],.ex .ret [lI 37 0,lI 37 1,lI 67 1,lF 67 2 .str,lF 67 3 .str]],fun q c v=>bX k q c.1 c.2.2.2.2.2.2.2.2.1 c.2.2.2.2.2.2.2.2.2.2.2.1 c.2.2.2.2.2.2.2.2.2.2.2.2.1 v.1 v.2.1 v.2.2.1 v.2.2.2.1 v.2.2.2.2.1 v.2.2.2.2.2.1 v.2.2.2.2.2.2.1⟩
def zy(k:Nat):Ev bw:=⟨[],[lp 0 (wh k) k],[(5,47),(8,37)]⟩
def Dw(k q:Nat):Cd bw:=oM (zy k) f73 0 (wh k) q []
def Ic(k:Nat):Cl bw:=lO (zy k) 73 f73 func73 call73 [500000] ⟨⟨126,[(67,5)],[lD 67 0 .str,lI 67 4],[rD 0 sN,rD 1 tN,rP 2 67,(.r 3,.h .mp tA),lI 67 1,lF 67 2 .str,lF 67 3 .str],[1000003]⟩,[.ret [rD 500000 tP,lI 67 1,lF 67 2 .str,lF 67 3 .str,(.r 3,.h .mp tA)] []],fun c v=>tf k v.2.2.2.2.1 v.2.2.2.2.2.1 v.2.2.2.2.2.2.1 v.1 v.2.1 v.2.2.2.1⟩ [Dw k k]
def kQ(q:Nat):Nat→XF→Int→Int→Option (((Unit)⊕(Int×Unit)))
 |0,_,_,_=>none
 |k+1,t61,t71,t81=>
  bif decide (t81<t71) then
   (bL t61 t81).bind fun x1=>
   bif x1.1==([109,97,105,110]:ab) then
    some (.inr (t81,()))
   else
    kQ q k t61 t71 (bC (t81+1))
  else
   some (.inl ())
def vL(k:Nat)(t:XA×XS×XF):Option (Int×Unit):=
 (kQ k k t.2.2 (t.2.2.length:Int) 0).bind fun r=>match r with
 |.inl o=>
  some ((-1),())
 |.inr o2=>
  some (o2.1,())
def yN(k:Nat):mS:=⟨⟨18,[(35,3)],[lD 35 0 sA,lD 35 1 sS,lD 35 2 sF,rD 6 sF,rI 7],[rI 8],[]⟩,[.ex (.exit 0) [],.ex .ret [rI 2]],fun q c v=>kQ k q c.2.2.2.1 c.2.2.2.2.1 v.1⟩
def Cv(k:Nat):Ev bw:=⟨[],[lp 0 (yN k) k],[(1,35)]⟩
def Gz(k q:Nat):Cd bw:=oM (Cv k) f74 0 (yN k) q []
def K4(k:Nat):Cl bw:=zp (Cv k) 74 f74 func74 call74 [tM] [I] (fun d=>vL k d.1) [Gz k k]
def ke(q:Nat):Nat→ab→XS→Int→Int→Option (((Unit)⊕(Int×Unit)))
 |0,_,_,_,_=>none
 |k+1,u7,t71,t81,t91=>
  bif decide (t91<t81) then
   (bL t71 t91).bind fun x1=>
   bif x1==u7 then
    some (.inr (t91,()))
   else
    ke q k u7 t71 t81 (bC (t91+1))
  else
   some (.inl ())
def nj(k:Nat)(acB:XS)(name:ab):Option (Int×Unit):=
 (ke k k name acB (acB.length:Int) 0).bind fun r=>match r with
 |.inl o=>
  some ((-1),())
 |.inr o2=>
  some (o2.1,())
def xd(k:Nat):mS:=⟨⟨19,[],[rD 1 .str,rD 7 sS,rI 8],[rI 9],[]⟩,[.ex (.exit 0) [],.ex .ret [rI 4]],fun q c v=>ke k q c.1 c.2.1 c.2.2.1 v.1⟩
def AJ(k:Nat):Ev bw:=⟨[],[lp 0 (xd k) k],[]⟩
def Fk(k q:Nat):Cd bw:=oM (AJ k) f114 0 (xd k) q []
def Jy(k:Nat):Cl bw:=zp (AJ k) 114 f114 func114 call114 [sS,.str] [I] (fun d=>nj k d.1 d.2.1) [Fk k k]
def kJ(q:Nat):Nat→ab→ab→XF→Int→Int→Option (((Unit)⊕(Int×Int×Unit)))
 |0,_,_,_,_,_=>none
 |k+1,GW,u7,afD,afE,ad3=>
  bif decide (ad3<afE) then
   (bL afD ad3).bind fun x1=>
   bif !(x1.1==GW) then
    kJ q k GW u7 afD afE (bC (ad3+1))
   else
    (nj q x1.2.2.1 u7).bind fun r1=>
    bif decide (r1.1≥0) then
     some (.inr (3,r1.1,()))
    else
     (nj q x1.2.2.2.1 u7).bind fun r2=>
     bif decide (r2.1≥0) then
      some (.inr (4,r2.1,()))
     else
      some (.inl ())
  else
   some (.inl ())
def jL(q:Nat):Nat→ab→XA→Int→Int→Option (((Unit)⊕(Int×Int×Unit)))
 |0,_,_,_,_=>none
 |k+1,u7,aau,aav,N7=>
  bif decide (N7<aav) then
   (bL aau N7).bind fun x1=>
   bif x1.1==u7 then
    some (.inr (1,N7,()))
   else
    jL q k u7 aau aav (bC (N7+1))
  else
   some (.inl ())
def jM(q:Nat):Nat→ab→XF→Int→Int→Option (((Unit)⊕(Int×Int×Unit)))
 |0,_,_,_,_=>none
 |k+1,u7,afM,afN,abM=>
  bif decide (abM<afN) then
   (bL afM abM).bind fun x1=>
   bif x1.1==u7 then
    some (.inr (5,abM,()))
   else
    jM q k u7 afM afN (bC (abM+1))
  else
   some (.inl ())
def fQ(k:Nat)(t:XA×XS×XF)(fn name:ab):Option (Int×Int×Unit):=
 (kJ k k fn name t.2.2 (t.2.2.length:Int) 0).bind fun r=>match r with
 |.inl o=>
  (jL k k name t.1 (t.1.length:Int) 0).bind fun r=>match r with
  |.inl o3=>
   (nj k t.2.1 name).bind fun r1=>
   bif decide (r1.1≥0) then
    some (2,r1.1,())
   else
    (jM k k name t.2.2 (t.2.2.length:Int) 0).bind fun r=>match r with
    |.inl o5=>
     some (0,0,())
    |.inr o6=>
     some (o6.1,o6.2.1,())
  |.inr o4=>
   some (o4.1,o4.2.1,())
 |.inr o2=>
  some (o2.1,o2.2.1,())
def yD(k:Nat):mS:=⟨⟨78,[(35,3)],[lD 35 0 sA,lD 35 1 sS,lD 35 2 sF,rD 1 .str,rD 2 .str,rP 3 35,rD 18 sF,rI 19],[rI 20],[]⟩,[.ex (.exit 0) [],.ex .ret [rI 6,rI 7]],fun q c v=>kJ k q c.2.2.2.1 c.2.2.2.2.1 c.2.2.2.2.2.2.1 c.2.2.2.2.2.2.2.1 v.1⟩
def yE(k:Nat):mS:=⟨⟨78,[(35,3)],[lD 35 0 sA,lD 35 1 sS,lD 35 2 sF,rD 2 .str,rP 3 35,rD 44 sA,rI 45],[rI 46],[]⟩,[.ex (.exit 2) [],.ex .ret [rI 6,rI 7]],fun q c v=>jL k q c.2.2.2.1 c.2.2.2.2.2.1 c.2.2.2.2.2.2.1 v.1⟩
def yF(k:Nat):mS:=⟨⟨78,[(35,3)],[lD 35 0 sA,lD 35 1 sS,lD 35 2 sF,rD 2 .str,rD 65 sF,rI 66],[rI 67],[]⟩,[.ex (.exit 4) [],.ex .ret [rI 6,rI 7]],fun q c v=>jM k q c.2.2.2.1 c.2.2.2.2.1 c.2.2.2.2.2.1 v.1⟩
def sZ(k:Nat):Ev bw:=⟨[Jy k],[lp 0 (yD k) k,lp 2 (yE k) k,lp 4 (yF k) k],[(3,35)]⟩
def Gp(k q:Nat):Cd bw:=oM (sZ k) f76 0 (yD k) q []
def Gq(k q:Nat):Cd bw:=oM (sZ k) f76 2 (yE k) q []
def Gr(k q:Nat):Cd bw:=oM (sZ k) f76 4 (yF k) q []
def wI(k:Nat):Cl bw:=zp (sZ k) 76 f76 func76 call76 [tM,.str,.str] [I,I] (fun d=>fQ k d.1 d.2.1 d.2.2.1) [Gp k k,Gq k k,Gr k k]
def gR(k:Nat)(aH:XA)(ax:XS)(bt:XF)(sd name:ab):Option (Int×Unit):=
 (fQ k (aH,ax,bt) sd name).bind fun r1=>
 some (r1.1,())
def wb(k:Nat):Cl bw:=lO ⟨[wI k],[],[]⟩ 134 f134 func134 call134 [500000] ⟨⟨22,[(137,10)],[lD 137 0 sN,lD 137 1 sA,lD 137 2 sS,lD 137 3 sF,lD 137 4 .str,lI 137 5,lD 137 6 sS,lD 137 7 sS,lI 137 8,lH .mp 137 9 tA],[rP 0 137,rD 1 .str],[]⟩,[.ret [rI 500000] []],fun c v=>gR k c.2.1 c.2.2.1 c.2.2.2.1 c.2.2.2.2.1 v.2.1⟩ []
def eC(q:Nat):Nat→Int→XI→Int→Int→Option (((Unit)⊕(Int×Unit)))
 |0,_,_,_,_=>none
 |k+1,Ee,LL,R2,t171=>
  bif decide (t171<R2) then
   (bL LL t171).bind fun x1=>
   bif x1==Ee then
    some (.inr (0,()))
   else
    eC q k Ee LL R2 (bC (t171+1))
  else
   some (.inl ())
def dP(k:Nat)(aH:XA)(ax:XS)(bt:XF)(sd name:ab)(mC:XI):Option (Int×Unit):=
 (gR k aH ax bt sd name).bind fun r1=>
 bif r1.1==0 then
  some (10,())
 else
  (eC k k r1.1 mC (mC.length:Int) 0).bind fun r=>match r with
  |.inl o=>
   some (11,())
  |.inr o2=>
   some (o2.1,())
def tL(k:Nat):mS:=⟨⟨25,[(137,10)],[lD 137 0 sN,lD 137 1 sA,lD 137 2 sS,lD 137 3 sF,lD 137 4 .str,lI 137 5,lD 137 6 sS,lD 137 7 sS,lI 137 8,lH .mp 137 9 tA,rI 7,rD 15 sI,rI 16],[rI 17],[]⟩,[.ex (.exit 0) [],.ex .ret [rI 6]],fun q c v=>eC k q c.2.2.2.2.2.2.2.2.2.2.1 c.2.2.2.2.2.2.2.2.2.2.2.1 c.2.2.2.2.2.2.2.2.2.2.2.2.1 v.1⟩
def vW(k:Nat):Ev bw:=⟨[wb k],[lp 0 (tL k) k],[]⟩
def AF(k q:Nat):Cd bw:=oM (vW k) f137 0 (tL k) q []
def lq(k:Nat):Cl bw:=lO (vW k) 137 f137 func137 call137 [500000] ⟨⟨25,[(137,10)],[lD 137 0 sN,lD 137 1 sA,lD 137 2 sS,lD 137 3 sF,lD 137 4 .str,lI 137 5,lD 137 6 sS,lD 137 7 sS,lI 137 8,lH .mp 137 9 tA],[rP 0 137,rD 1 .str,rD 2 sI],[]⟩,[.ret [rI 500000] []],fun c v=>dP k c.2.1 c.2.2.1 c.2.2.2.1 c.2.2.2.2.1 v.2.1 v.2.2.1⟩ [AF k k]
def jP(k:Nat)(aA:XN)(aH:XA)(ax:XS)(bt:XF)(sd:ab)(nZ:Int×Int×Int×ab×XI):Option ((Int×Int)×Unit):=
 (bL nZ.2.2.2.2 0).bind fun x1=>
 (bL aA x1).bind fun x2=>
 bif x2.1==29 then
  some ((0,0),())
 else
  bif x2.1==25 then
   (dP k aH ax bt sd x2.2.2.2.1 ([4])).bind fun r1=>
   bif r1.1 != 0 then
    some ((r1.1,x2.2.1),())
   else
    some ((0,0),())
  else
   some ((11,nZ.2.1),())
def BZ(k:Nat):Cl bw:=lO ⟨[lq k],[],[(3,47),(4,37)]⟩ 135 f135 func135 call135 [500000] ⟨⟨39,[(137,10)],[lD 137 0 sN,lD 137 1 sA,lD 137 2 sS,lD 137 3 sF,lD 137 4 .str,lI 137 5,lD 137 6 sS,lD 137 7 sS,lI 137 8,lH .mp 137 9 tA],[rP 0 137,rD 1 tN],[]⟩,[.ret [rD 500000 tP] []],fun c v=>jP k c.1 c.2.1 c.2.2.1 c.2.2.2.1 c.2.2.2.2.1 v.2.1⟩ []
def np(k:Nat)(aH:XA)(ax:XS)(bt:XF)(sd:ab)(rS:XA)(name:ab)(mC:XI):Option (Int×Unit):=
 (dP k aH ax bt sd name mC).bind fun r1=>
 bif r1.1 != 0 then
  some (r1.1,())
 else
  bif decide ((qL rS name) > 0) then
   some (11,())
  else
   some (0,())
def DO(k:Nat):Cl bw:=lO ⟨[lq k],[],[]⟩ 159 f159 func159 call159 [500000] ⟨⟨22,[(137,10)],[lD 137 0 sN,lD 137 1 sA,lD 137 2 sS,lD 137 3 sF,lD 137 4 .str,lI 137 5,lD 137 6 sS,lD 137 7 sS,lI 137 8,lH .mp 137 9 tA],[rP 0 137,rD 1 .str,rD 2 sI],[]⟩,[.ret [rI 500000] []],fun c v=>np k c.2.1 c.2.2.1 c.2.2.2.1 c.2.2.2.2.1 c.2.2.2.2.2.2.2.2.2.1 v.2.1 v.2.2.1⟩ []
def cR(k:Nat)(aH:XA)(ax:XS)(bt:XF)(sd:ab)(rS:XA)(nZ:Int×Int×Int×ab×XI):Option (Int×Unit):=
 bif nZ.1==25 then
  (dP k aH ax bt sd nZ.2.2.2.1 ([3,2])).bind fun r1=>
  some (r1.1,())
 else
  aa (fun(v:Bool)=>
   bif v then
    (dP k aH ax bt sd nZ.2.2.2.1 ([1])).bind fun r2=>
    some (r2.1,())
   else
    aa (fun(v2:Bool)=>
     bif v2 then
      (dP k aH ax bt sd nZ.2.2.2.1 ([4])).bind fun r3=>
      some (r3.1,())
     else
      aa (fun(v3:Bool)=>
       bif v3 then
        (np k aH ax bt sd rS nZ.2.2.2.1 ([3,2])).bind fun r4=>
        some (r4.1,())
       else
        bif nZ.1==16 then
         (np k aH ax bt sd rS nZ.2.2.2.1 ([3])).bind fun r5=>
         some (r5.1,())
        else
         some (0,())) fun wg=>
      bif nZ.1==17 then
       wg (nZ.1==17)
      else
       bif nZ.1==22 then
        wg (nZ.1==22)
       else
        wg (nZ.1==9)) fun jf=>
    bif nZ.1==27 then
     jf (nZ.1==27)
    else
     bif nZ.1==11 then
      jf (nZ.1==11)
     else
      bif nZ.1==13 then
       jf (nZ.1==13)
      else
       bif nZ.1==34 then
        jf (nZ.1==34)
       else
        jf (nZ.1==12)) fun cJ=>
  bif nZ.1==26 then
   cJ (nZ.1==26)
  else
   cJ (nZ.1==10)
def DN(k:Nat):Cl bw:=lO ⟨[lq k,DO k],[],[(3,47)]⟩ 136 f136 func136 call136 [500000] ⟨⟨49,[(137,10)],[lD 137 0 sN,lD 137 1 sA,lD 137 2 sS,lD 137 3 sF,lD 137 4 .str,lI 137 5,lD 137 6 sS,lD 137 7 sS,lI 137 8,lH .mp 137 9 tA],[rP 0 137,rD 1 tN],[]⟩,[.ret [rI 500000] []],fun c v=>cR k c.2.1 c.2.2.1 c.2.2.2.1 c.2.2.2.2.1 c.2.2.2.2.2.2.2.2.2.1 v.2.1⟩ []
def lz(k:Nat)(aA:XN)(aH:XA)(ax:XS)(bt:XF)(sd:ab)(nZ:Int×Int×Int×ab×XI):Option ((Int×Int)×Unit):=
 (bL nZ.2.2.2.2 0).bind fun x1=>
 (bL aA x1).bind fun x2=>
 (dP k aH ax bt sd x2.2.2.2.1 ([5])).bind fun r1=>
 bif r1.1 != 0 then
  some ((r1.1,x2.2.1),())
 else
  (fQ k (aH,ax,bt) sd x2.2.2.2.1).bind fun r2=>
  (bL bt r2.2.1).bind fun x3=>
  bif (bC ((nZ.2.2.2.2.length:Int) - 1)) != x3.2.1 then
   some ((12,x2.2.1),())
  else
   some ((0,0),())
def BY(k:Nat):Cl bw:=lO ⟨[wI k,lq k],[],[(3,47),(4,37)]⟩ 138 f138 func138 call138 [500000] ⟨⟨63,[(137,10)],[lD 137 0 sN,lD 137 1 sA,lD 137 2 sS,lD 137 3 sF,lD 137 4 .str,lI 137 5,lD 137 6 sS,lD 137 7 sS,lI 137 8,lH .mp 137 9 tA],[rP 0 137,rD 1 tN],[]⟩,[.ret [rD 500000 tP] []],fun c v=>lz k c.1 c.2.1 c.2.2.1 c.2.2.2.1 c.2.2.2.2.1 v.2.1⟩ []
end
end Go.Fx.R5
namespace Go.Fx.R5
open Go Go.Fx Go.Proofs Go.Proofs.Tryz
noncomputable section
abbrev fv:=XN→XA→XS→XF→ab→Int→XS→XS→Int→XA→Int→Option ((Int×Int)×XA×Unit)
def nB(f:fv):CF:=⟨⟨30,[(137,10)],[lD 137 0 sN,lD 137 1 sA,lD 137 2 sS,lD 137 3 sF,lD 137 4 .str,lI 137 5,lD 137 6 sS,lD 137 7 sS,lI 137 8],[rP 0 137,rI 1,lH .mp 137 9 tA],[]⟩,[.ret [rD 500000 tP,lH .mp 137 9 tA] []],fun c v=>f c.1 c.2.1 c.2.2.1 c.2.2.2.1 c.2.2.2.2.1 c.2.2.2.2.2.1 c.2.2.2.2.2.2.1 c.2.2.2.2.2.2.2.1 c.2.2.2.2.2.2.2.2.1 v.2.2.1 v.2.1⟩
def uR(f:fv):iL:=mg (nB f).L (nB f).F (zJ [500000] (nB f).V)
abbrev fw:=XN→XA→XS→XF→ab→Int→XS→XS→Int→XA→Int→Option ((Int×Int)×XA×Unit)
def nC(f:fw):CF:=⟨⟨100,[(137,10)],[lD 137 0 sN,lD 137 1 sA,lD 137 2 sS,lD 137 3 sF,lD 137 4 .str,lI 137 5,lD 137 6 sS,lD 137 7 sS,lI 137 8],[rP 0 137,rI 1,lH .mp 137 9 tA],[]⟩,[.ret [rD 500000 tP,lH .mp 137 9 tA] []],fun c v=>f c.1 c.2.1 c.2.2.1 c.2.2.2.1 c.2.2.2.2.1 c.2.2.2.2.2.1 c.2.2.2.2.2.2.1 c.2.2.2.2.2.2.2.1 c.2.2.2.2.2.2.2.2.1 v.2.2.1 v.2.1⟩
def uS(f:fw):iL:=mg (nC f).L (nC f).F (zJ [500000] (nC f).V)
abbrev dX:=XN→XA→XS→XF→ab→Int→XS→XS→Int→XA→(Int×Int×Int×ab×XI)→Option ((Int×Int)×XA×Unit)
def lb(f:dX):CF:=⟨⟨44,[(137,10)],[lD 137 0 sN,lD 137 1 sA,lD 137 2 sS,lD 137 3 sF,lD 137 4 .str,lI 137 5,lD 137 6 sS,lD 137 7 sS,lI 137 8],[rP 0 137,rD 1 tN,lH .mp 137 9 tA],[]⟩,[.ret [rD 500000 tP,lH .mp 137 9 tA] []],fun c v=>f c.1 c.2.1 c.2.2.1 c.2.2.2.1 c.2.2.2.2.1 c.2.2.2.2.2.1 c.2.2.2.2.2.2.1 c.2.2.2.2.2.2.2.1 c.2.2.2.2.2.2.2.2.1 v.2.2.1 v.2.1⟩
def se(f:dX):iL:=mg (lb f).L (lb f).F (zJ [500000] (lb f).V)
def aS(aD:fv)(ay:fw)(aq:dX)(q:Nat):Nat→XN→XA→XS→XF→ab→Int→XS→XS→Int→XI→Int→Int→Int→XA→Int→Option (((Int×Int×XA×Unit)⊕(Int×Int×XA×Unit)))
 |0,_,_,_,_,_,_,_,_,_,_,_,_,_,_,_=>none
 |k+1,b9,gL,gD,jS,Sj,tc,AR,CG,Sd,LL,R2,w,w2,CT,t171=>
  bif decide (t171<R2) then
   (bL LL t171).bind fun x2=>
   (ay b9 gL gD jS Sj tc AR CG Sd CT x2).bind fun r1=>
   bif r1.1.1 != 0 then
    some (.inr (r1.1.1,r1.1.2,r1.2.1,()))
   else
    aS aD ay aq q k b9 gL gD jS Sj tc AR CG Sd LL R2 w w2 r1.2.1 (bC (t171+1))
  else
   some (.inl (w,w2,CT,()))
def kF(aD:fv)(ay:fw)(aq:dX)(k:Nat)(aA:XN)(aH:XA)(ax:XS)(bt:XF)(sd:ab)(wE:Int)(KW KX:XS)(On:Int)(rS:XA)(n:Int):Option ((Int×Int)×XA×Unit):=
 (bL aA n).bind fun x1=>
 (aS aD ay aq k k aA aH ax bt sd wE KW KX On x1.2.2.2.2 (x1.2.2.2.2.length:Int) 0 0 rS 0).bind fun r=>match r with
 |.inl o=>
  some ((0,0),o.2.2.1,())
 |.inr o2=>
  some ((o2.1,o2.2.1),o2.2.2.1,())
def a6(aD:fv)(ay:fw)(aq:dX)(k:Nat)(aA:XN)(aH:XA)(ax:XS)(bt:XF)(sd:ab)(wE:Int)(KW KX:XS)(On:Int)(rS:XA)(n:Int):Option ((Int×Int)×XA×Unit):=
 (bL aA n).bind fun x1=>
 aa (fun(v:Bool)=>
  bif v then
   (jP k aA aH ax bt sd x1).bind fun r2=>
   some (r2.1,rS,())
  else
   (cR k aH ax bt sd rS x1).bind fun r3=>
   bif r3.1 != 0 then
    some ((r3.1,x1.2.1),rS,())
   else
    aa (fun(_:Unit)=>
     (aD aA aH ax bt sd wE KW KX On rS n).bind fun r7=>
     some (r7.1,r7.2.1,())) fun jf=>
    bif x1.1==9 then
     (bL x1.2.2.2.2 0).bind fun x2=>
     (bL aA x2).bind fun x3=>
     bif x3.1==29 then
      some ((11,x3.2.1),rS,())
     else
      jf ()
    else
     bif x1.1==12 then
      (bL x1.2.2.2.2 0).bind fun x4=>
      (bL aA x4).bind fun x5=>
      (dP k aH ax bt sd x5.2.2.2.1 ([1])).bind fun r4=>
      bif r4.1 != 0 then
       some ((r4.1,x5.2.1),rS,())
      else
       jf ()
     else
      bif x1.1==22 then
       (lz k aA aH ax bt sd x1).bind fun r5=>
       bif r5.1.1 != 0 then
        some (r5.1,rS,())
       else
        jf ()
      else
       bif x1.1==16 then
        (aq aA aH ax bt sd wE KW KX On rS x1).bind fun r6=>
        some (r6.1,r6.2.1,())
       else
        jf ()) fun cJ=>
 bif x1.1==9 then
  (gR k aH ax bt sd x1.2.2.2.1).bind fun r1=>
  cJ (r1.1==4)
 else
  cJ false
def cN(aD:fv)(ay:fw)(aq:dX)(q:Nat):Nat→XN→XA→XS→XF→ab→Int→XS→XS→Int→XI→Int→Int→Int→XA→Int→Option (((Int×Int×XA×Unit)⊕(Int×Int×XA×Unit)))
 |0,_,_,_,_,_,_,_,_,_,_,_,_,_,_,_=>none
 |k+1,b9,gL,gD,jS,abY,tc,AR,CG,Sd,afB,t121,w,w2,CT,XX=>
  bif decide (XX<t121) then
   (bL afB XX).bind fun x1=>
   (ay b9 gL gD jS abY tc AR CG Sd CT x1).bind fun r1=>
   bif r1.1.1 != 0 then
    some (.inr (r1.1.1,r1.1.2,r1.2.1,()))
   else
    cN aD ay aq q k b9 gL gD jS abY tc AR CG Sd afB t121 w w2 r1.2.1 (bC (XX+1))
  else
   some (.inl (w,w2,CT,()))
def gY(aD:fv)(ay:fw)(aq:dX)(k:Nat)(aA:XN)(aH:XA)(ax:XS)(bt:XF)(sd:ab)(wE:Int)(KW KX:XS)(On:Int)(rS:XA)(nZ:Int×Int×Int×ab×XI):Option ((Int×Int)×XA×Unit):=
 (sub nZ.2.2.2.2 0 2).bind fun l=>
 (cN aD ay aq k k aA aH ax bt sd wE KW KX On l (l.length:Int) 0 0 rS 0).bind fun r=>match r with
 |.inl o=>
  (bL nZ.2.2.2.2 2).bind fun x1=>
  (ay aA aH ax bt sd wE KW KX On (ry o.2.2.1 nZ.2.2.2.1 1) x1).bind fun r1=>
  some (r1.1,ry r1.2.1 nZ.2.2.2.1 0,())
 |.inr o2=>
  some ((o2.1,o2.2.1),o2.2.2.1,())
def cO:Nat→fv×fw×dX
 |0=>(fun _ _ _ _ _ _ _ _ _ _ _=>none,fun _ _ _ _ _ _ _ _ _ _ _=>none,fun _ _ _ _ _ _ _ _ _ _ _=>none)
 |k+1=>(kF (cO k).1 (cO k).2.1 (cO k).2.2 k,a6 (cO k).1 (cO k).2.1 (cO k).2.2 k,gY (cO k).1 (cO k).2.1 (cO k).2.2 k)
def bN(k:Nat):fv:=(cO k).1
def cv(k:Nat):fw:=(cO k).2.1
def bY(k:Nat):dX:=(cO k).2.2
section
variable (aD:Gd bw 75 uR) (ay:Gd bw 113 uS) (aq:Gd bw 139 se)
def sr(k:Nat):mS:=⟨⟨30,[(37,2),(137,10)],[lD 137 0 sN,lD 137 1 sA,lD 137 2 sS,lD 137 3 sF,lD 137 4 .str,lI 137 5,lD 137 6 sS,lD 137 7 sS,lI 137 8,rP 0 137,rP 4 37,rD 15 sI,rI 16],[lI 37 0,lI 37 1,lH .mp 137 9 tA,rI 17],[]⟩,[.ex (.exit 0) [lI 37 0,lI 37 1,lH .mp 137 9 tA],.ex .ret [lI 37 0,lI 37 1,lH .mp 137 9 tA]],fun q c v=>aS aD.1 ay.1 aq.1 k q c.1 c.2.1 c.2.2.1 c.2.2.2.1 c.2.2.2.2.1 c.2.2.2.2.2.1 c.2.2.2.2.2.2.1 c.2.2.2.2.2.2.2.1 c.2.2.2.2.2.2.2.2.1 c.2.2.2.2.2.2.2.2.2.2.2.1 c.2.2.2.2.2.2.2.2.2.2.2.2.1 v.1 v.2.1 v.2.2.1 v.2.2.2.1⟩
def uP(k:Nat):Ev bw:=⟨[ay.cl],[lp 0 (sr aD ay aq k) k],[(4,37)]⟩
def Ad(k q:Nat):Cd bw:=oM (uP aD ay aq k) f75 0 (sr aD ay aq k) q []
def Do(k:Nat):Cl bw:=lO (uP aD ay aq k) 75 f75 func75 call75 [500000] (nB (kF aD.1 ay.1 aq.1 k)) [Ad aD ay aq k k]
def Dp(k:Nat):Cl bw:=lO ⟨[aD.cl,wb k,BZ k,DN k,lq k,BY k,aq.cl],[],[(4,37),(5,47)]⟩ 113 f113 func113 call113 [500000] (nC (a6 aD.1 ay.1 aq.1 k)) []
def qp(k:Nat):mS:=⟨⟨44,[(37,2),(47,5),(137,10)],[lI 47 0,lI 47 1,lI 47 2,lD 47 3 .str,lD 47 4 sI,lD 137 0 sN,lD 137 1 sA,lD 137 2 sS,lD 137 3 sF,lD 137 4 .str,lI 137 5,lD 137 6 sS,lD 137 7 sS,lI 137 8,rP 0 137,rP 3 47,rP 4 37,rD 11 sI,rI 12],[lI 37 0,lI 37 1,lH .mp 137 9 tA,rI 13],[]⟩,[.ex (.exit 0) [lI 37 0,lI 37 1,lH .mp 137 9 tA],.ex .ret [lI 37 0,lI 37 1,lH .mp 137 9 tA]],fun q c v=>cN aD.1 ay.1 aq.1 k q c.2.2.2.2.2.1 c.2.2.2.2.2.2.1 c.2.2.2.2.2.2.2.1 c.2.2.2.2.2.2.2.2.1 c.2.2.2.2.2.2.2.2.2.1 c.2.2.2.2.2.2.2.2.2.2.1 c.2.2.2.2.2.2.2.2.2.2.2.1 c.2.2.2.2.2.2.2.2.2.2.2.2.1 c.2.2.2.2.2.2.2.2.2.2.2.2.2.1 c.2.2.2.2.2.2.2.2.2.2.2.2.2.2.2.2.2.1 c.2.2.2.2.2.2.2.2.2.2.2.2.2.2.2.2.2.2.1 v.1 v.2.1 v.2.2.1 v.2.2.2.1⟩
def rZ(k:Nat):Ev bw:=⟨[ay.cl],[lp 0 (qp aD ay aq k) k],[(3,47),(4,37)]⟩
def xu(k q:Nat):Cd bw:=oM (rZ aD ay aq k) f139 0 (qp aD ay aq k) q []
def An(k:Nat):Cl bw:=lO (rZ aD ay aq k) 139 f139 func139 call139 [500000] (lb (gY aD.1 ay.1 aq.1 k)) [xu aD ay aq k k]
end
theorem kb:∀ k,ld prog gt 75 (uR (bN k))∧ld prog gt 113 (uS (cv k))∧ld prog gt 139 (se (bY k))
 |0=>⟨cU (fun _ _=>rfl),cU (fun _ _=>rfl),cU (fun _ _=>rfl)⟩
 |k+1=>have ih:=kb k;⟨(Do ⟨_,ih.1⟩ ⟨_,ih.2.1⟩ ⟨_,ih.2.2⟩ k).ok,(Dp ⟨_,ih.1⟩ ⟨_,ih.2.1⟩ ⟨_,ih.2.2⟩ k).ok,(An ⟨_,ih.1⟩ ⟨_,ih.2.1⟩ ⟨_,ih.2.2⟩ k).ok⟩
def Dl(k:Nat):Cl bw:=⟨_,_,(kb k).1⟩
def Sa(k:Nat):Cl bw:=⟨_,_,(kb k).2.1⟩
def Ow(k:Nat):Cl bw:=⟨_,_,(kb k).2.2⟩
def dO(q:Nat):Nat→XN→XI→Int→XA→XS→XF→Int→Int→XA→Int→Option (((XA×XS×XF×Int×Int×XA×Unit)⊕(Int×Int×Unit)))
 |0,_,_,_,_,_,_,_,_,_,_=>none
 |k+1,b9,afI,afJ,aH,ax,bt,w,w2,mv,ad5=>
  bif decide (ad5<afJ) then
   (bL afI ad5).bind fun x2=>
   (eT aH ax bt b9 x2 mv).bind fun r1=>
   bif r1.1 != 0 then
    (bL b9 x2).bind fun x3=>
    some (.inr (r1.1,x3.2.1,()))
   else
    dO q k b9 afI afJ r1.2.1 r1.2.2.1 r1.2.2.2.1 w w2 r1.2.2.2.2.1 (bC (ad5+1))
  else
   some (.inl (aH,ax,bt,w,w2,mv,()))
def qo(q:Nat)(Er:XN)(U8 JY:Int)(jS:XF)(ER:XA):Option (XF×XA×Int×Int×Unit):=
 (bL Er JY).bind fun x4=>
 (bL jS U8).bind fun x5=>
 (bL jS (U8.toNat:Int)).bind fun e=>
 (tf q e.2.1 e.2.2.1 e.2.2.2.1 Er x4 ER).bind fun r1=>
 some (List.set jS U8.toNat (e.1,r1.2.1,r1.2.2.1,r1.2.2.2.1,e.2.2.2.2),r1.2.2.2.2.1,r1.1.1,r1.1.2,())
def dx(q:Nat):Nat→XN→XI→Int→XF→Int→Int→XA→Int→Int→Option (((XF×Int×Int×Unit)⊕(Int×Int×Unit)))
 |0,_,_,_,_,_,_,_,_,_=>none
 |k+1,b9,aaw,T8,bt,w,w2,mv,mN,N8=>
  bif decide (N8<T8) then
   aa (fun(jv:XA×Int×XF)=>
    dx q k b9 aaw T8 (jv.2.2) w w2 (jv.1) (jv.2.1) (bC (N8+1))) fun cJ=>
   (bL aaw N8).bind fun x2=>
   (bL b9 x2).bind fun x3=>
   bif x3.1 != 4 then
    cJ (mv,mN,bt)
   else
    (qo q b9 mN x2 bt mv).bind fun o3=>
    bif o3.2.2.1 != 0 then
     some (.inr (o3.2.2.1,o3.2.2.2.1,()))
    else
     cJ (o3.2.1,(bC (mN+1)),o3.1)
  else
   some (.inl (bt,w,w2,()))
def fH(q:Nat):Nat→XF→XN→XF→Int→XA→XS→Int→Int→Int→Option (((XA×XS×Int×Int×Unit)⊕(Int×Int×Unit)))
 |0,_,_,_,_,_,_,_,_,_=>none
 |k+1,bt,b9,afR,afS,aH,ax,w,w2,aea=>
  bif decide (aea<afS) then
   (bL afR aea).bind fun x4=>
   (bN q b9 aH ax bt x4.1 x4.2.1 x4.2.2.1 x4.2.2.2.1 x4.2.2.2.2 ([]:XA) x4.2.2.2.2).bind fun r2=>
   bif r2.1.1 != 0 then
    some (.inr (r2.1.1,r2.1.2,()))
   else
    fH q k bt b9 afR afS aH ax w w2 (bC (aea+1))
  else
   some (.inl (aH,ax,w,w2,()))
def je(k:Nat)(aA:XN):Option ((XA×XS×XF)×(Int×Int)×Unit):=
 (bL aA (bC ((aA.length:Int) - 1))).bind fun x1=>
 (dO k k aA x1.2.2.2.2 (x1.2.2.2.2.length:Int) [] [] [] 0 0 ([]:XA) 0).bind fun r=>match r with
 |.inl o=>
  (dx k k aA x1.2.2.2.2 (x1.2.2.2.2.length:Int) o.2.2.1 o.2.2.2.1 o.2.2.2.2.1 o.2.2.2.2.2.1 0 0).bind fun r=>match r with
  |.inl o3=>
   (vL k (o.1,o.2.1,o3.1)).bind fun r1=>
   aa (fun(v:Bool)=>
    bif v then
     some (([],[],[]),(13,0),())
    else
     (fH k k o3.1 aA o3.1 (o3.1.length:Int) o.1 o.2.1 o3.2.1 o3.2.2.1 0).bind fun r=>match r with
     |.inl o5=>
      some ((o5.1,o5.2.1,o3.1),(0,0),())
     |.inr o6=>
      some (([],[],[]),(o6.1,o6.2.1),())) fun cJ=>
   bif decide (r1.1<0) then
    cJ true
   else
    (bL o3.1 r1.1).bind fun x2=>
    (bL o3.1 (r1.1.toNat:Int)).bind fun x3=>
    cJ (decide (x3.2.1 > 0))
  |.inr o4=>
   some (([],[],[]),(o4.1,o4.2.1),())
 |.inr o2=>
  some (([],[],[]),(o2.1,o2.2.1),())
def yO(k:Nat):mS:=⟨⟨118,[(35,3),(37,2),(47,5),(10002,3)],[lI 47 0,lI 47 1,lI 47 2,lD 47 3 .str,lD 47 4 sI,rD 0 sN,rP 2 10002,rP 3 37,rP 4 47,rP 5 35,rD 27 sI,rI 28],[lF 35 0 tA,lF 35 1 .str,lU 35 2 tF,lI 37 0,lI 37 1,lN 10002 0,lN 10002 1,lN 10002 2,(.r 6,.h .mp tA),rI 29],[]⟩,[.ex (.exit 0) [lF 35 0 tA,lF 35 1 .str,lU 35 2 tF,lI 37 0,lI 37 1,lN 10002 0,lN 10002 1,lN 10002 2,(.r 6,.h .mp tA)],.ex .ret [lI 37 0,lI 37 1,lN 10002 0,lN 10002 1,lN 10002 2]],fun q c v=>dO k q c.2.2.2.2.2.1 c.2.2.2.2.2.2.2.2.2.2.1 c.2.2.2.2.2.2.2.2.2.2.2.1 v.1 v.2.1 v.2.2.1 v.2.2.2.1 v.2.2.2.2.1 v.2.2.2.2.2.2.2.2.1 v.2.2.2.2.2.2.2.2.2.1⟩
def xe(k:Nat):mS:=⟨⟨118,[(35,3),(37,2),(47,5),(10002,3)],[lF 35 0 tA,lF 35 1 .str,lI 37 0,lI 37 1,lI 47 0,lI 47 1,lI 47 2,lD 47 3 .str,lD 47 4 sI,lN 10002 0,lN 10002 1,lN 10002 2,rD 0 sN,rP 2 10002,rP 3 37,rP 5 35,rI 10,rI 12,rD 49 sI,rI 50,rI 51],[lU 35 2 tF,(.r 6,.h .mp tA)],[]⟩,[.ex .normal [lU 35 2 tF,(.r 6,.h .mp tA),rP 13 10013,lI 10013 0,lI 10013 1]],fun q c v=>qo k c.2.2.2.2.2.2.2.2.2.2.2.2.1 c.2.2.2.2.2.2.2.2.2.2.2.2.2.2.2.2.1 c.2.2.2.2.2.2.2.2.2.2.2.2.2.2.2.2.2.1 v.1 v.2.1⟩
def yP(k:Nat):mS:=⟨⟨118,[(35,3),(37,2),(47,5),(10002,3)],[lF 35 0 tA,lF 35 1 .str,lI 47 0,lI 47 1,lI 47 2,lD 47 3 .str,lD 47 4 sI,rD 0 sN,rP 2 10002,rP 3 37,rP 5 35,rD 49 sI,rI 50],[lU 35 2 tF,lI 37 0,lI 37 1,lN 10002 0,lN 10002 1,lN 10002 2,(.r 6,.h .mp tA),rI 10,rI 51],[]⟩,[.ex (.exit 2) [lU 35 2 tF,lI 37 0,lI 37 1,lN 10002 0,lN 10002 1,lN 10002 2],.ex .ret [lI 37 0,lI 37 1,lN 10002 0,lN 10002 1,lN 10002 2]],fun q c v=>dx k q c.2.2.2.2.2.2.2.1 c.2.2.2.2.2.2.2.2.2.2.2.1 c.2.2.2.2.2.2.2.2.2.2.2.2.1 v.1 v.2.1 v.2.2.1 v.2.2.2.2.2.2.1 v.2.2.2.2.2.2.2.1 v.2.2.2.2.2.2.2.2.1⟩
def yQ(k:Nat):mS:=⟨⟨118,[(35,3),(37,2),(47,5),(10002,3)],[lD 35 2 sF,lI 47 0,lI 47 1,lI 47 2,lD 47 3 .str,lD 47 4 sI,rD 0 sN,rP 2 10002,rP 3 37,rP 5 35,rD 96 sF,rI 97],[lD 35 0 sA,lD 35 1 sS,lI 37 0,lI 37 1,lN 10002 0,lN 10002 1,lN 10002 2,rI 98],[]⟩,[.ex (.exit 4) [lD 35 0 sA,lD 35 1 sS,lI 37 0,lI 37 1,lN 10002 0,lN 10002 1,lN 10002 2],.ex .ret [lI 37 0,lI 37 1,lN 10002 0,lN 10002 1,lN 10002 2]],fun q c v=>fH k q c.1 c.2.2.2.2.2.2.1 c.2.2.2.2.2.2.2.2.2.2.1 c.2.2.2.2.2.2.2.2.2.2.2.1 v.1 v.2.1 v.2.2.1 v.2.2.2.1 v.2.2.2.2.2.2.2.1⟩
def pM(k:Nat):Ev bw:=⟨[GQ,(Ic k).agI 2 67,K4 k,(Dl k).uO 0 137],[lp 0 (yO k) k,rg 16 (xe k),lp 2 (yP k) k,lp 4 (yQ k) k],[(3,37),(4,47),(5,35)]⟩
def GB(k q:Nat):Cd bw:=oM (pM k) f42 0 (yO k) q []
def Fl(k:Nat):Cd bw:=rgC (pM k) f42 16 (xe k) [[0,1,2,3,4,5,6,7,8,9,10,11,12],[0,1,2,3,4,5,6,7,8,9,11,10,12]]
def GC(k q:Nat):Cd bw:=oM (pM k) f42 2 (yP k) q [Fl k]
def GD(k q:Nat):Cd bw:=oM (pM k) f42 4 (yQ k) q []
def K5(k:Nat):Cl bw:=zp (pM k) 42 f42 func42 call42 [sN] [tM,tP] (fun d=>je k d.1) [GB k k,GC k k,GD k k]
abbrev mu:=XN→XA→XS→XF→XI→XI→XI→XI→XB→XE→XQ→XL→XB→(ab×Int×XS×XS×Int)→Int→Option (XI×XI×Unit)
def oI(f:mu):CF:=⟨⟨55,[(93,13)],[lD 93 0 sN,lD 93 1 sA,lD 93 2 sS,lD 93 3 sF,lD 93 6 sI,lD 93 7 sI,lD 93 8 sB,lD 93 9 sE,lD 93 10 sQ,lD 93 11 sL,lD 93 12 sB],[rP 0 93,rD 1 tF,rI 2,lF 93 4 I,lF 93 5 I],[]⟩,[.ret [lF 93 4 I,lF 93 5 I] []],fun c v=>f c.1 c.2.1 c.2.2.1 c.2.2.2.1 v.2.2.2.1 v.2.2.2.2.1 c.2.2.2.2.1 c.2.2.2.2.2.1 c.2.2.2.2.2.2.1 c.2.2.2.2.2.2.2.1 c.2.2.2.2.2.2.2.2.1 c.2.2.2.2.2.2.2.2.2.1 c.2.2.2.2.2.2.2.2.2.2.1 v.2.1 v.2.2.1⟩
def wX(f:mu):iL:=mg (oI f).L (oI f).F (zJ [] (oI f).V)
def gJ(dy:mu)(q:Nat):Nat→ab→Int→XS→XS→Int→XN→XA→XS→XF→XI→XI→XB→XE→XQ→XL→XB→XI→Int→XI→XI→Int→Option (XI×XI×Unit)
 |0,_,_,_,_,_,_,_,_,_,_,_,_,_,_,_,_,_,_,_,_,_=>none
 |k+1,Sj,wE,KW,KX,On,b9,gL,gD,jS,kH,mY,qi,nK,tS,vw,kZ,aau,aav,Zq,Wo,N7=>
  bif decide (N7<aav) then
   (bL aau N7).bind fun x6=>
   (dy b9 gL gD jS Zq Wo kH mY qi nK tS vw kZ (Sj,wE,KW,KX,On) x6).bind fun r2=>
   gJ dy q k Sj wE KW KX On b9 gL gD jS kH mY qi nK tS vw kZ aau aav r2.1 r2.2.1 (bC (N7+1))
  else
   some (Zq,Wo,())
def oL(dy:mu)(k:Nat)(aA:XN)(aH:XA)(ax:XS)(bt:XF)(mC jU im jb:XI)(lG:XB)(gT:XE)(laid:XQ)(out:XL)(bA:XB)(fn:ab×Int×XS×XS×Int)(n:Int):Option (XI×XI×Unit):=
 (bL aA n).bind fun x1=>
 aa (fun(jv:XI×XI)=>
  (gJ dy k k fn.1 fn.2.1 fn.2.2.1 fn.2.2.2.1 fn.2.2.2.2 aA aH ax bt im jb lG gT laid out bA x1.2.2.2.2 (x1.2.2.2.2.length:Int) (jv.1) (jv.2) 0).bind fun o=>
  some (o.1,o.2.1,())) fun cJ=>
 bif !(x1.2.2.2.1==([]:ab)) then
  (fQ k (aH,ax,bt) fn.1 x1.2.2.2.1).bind fun r1=>
  (bL mC n).bind fun x2=>
  (bL mC (n.toNat:Int)).bind fun x3=>
  (bL jU n).bind fun x4=>
  (bL jU (n.toNat:Int)).bind fun x5=>
  cJ (List.set mC n.toNat r1.1,List.set jU n.toNat r1.2.1)
 else
  cJ (mC,jU)
def gB:Nat→mu
 |0=>fun _ _ _ _ _ _ _ _ _ _ _ _ _ _ _=>none
 |k+1=>oL (gB k) k
section
variable (dy:Gd bw 43 wX)
def ut(k:Nat):mS:=⟨⟨55,[(47,5),(67,5),(93,13)],[lI 47 0,lI 47 1,lI 47 2,lD 47 3 .str,lD 47 4 sI,lD 67 0 .str,lI 67 1,lD 67 2 sS,lD 67 3 sS,lI 67 4,lD 93 0 sN,lD 93 1 sA,lD 93 2 sS,lD 93 3 sF,lD 93 6 sI,lD 93 7 sI,lD 93 8 sB,lD 93 9 sE,lD 93 10 sQ,lD 93 11 sL,lD 93 12 sB,rP 0 93,rP 4 67,rD 44 sI,rI 45],[lF 93 4 I,lF 93 5 I,rI 46],[]⟩,[.ex (.exit 0) [lF 93 4 I,lF 93 5 I]],fun q c v=>gJ dy.1 k q c.2.2.2.2.2.1 c.2.2.2.2.2.2.1 c.2.2.2.2.2.2.2.1 c.2.2.2.2.2.2.2.2.1 c.2.2.2.2.2.2.2.2.2.1 c.2.2.2.2.2.2.2.2.2.2.1 c.2.2.2.2.2.2.2.2.2.2.2.1 c.2.2.2.2.2.2.2.2.2.2.2.2.1 c.2.2.2.2.2.2.2.2.2.2.2.2.2.1 c.2.2.2.2.2.2.2.2.2.2.2.2.2.2.1 c.2.2.2.2.2.2.2.2.2.2.2.2.2.2.2.1 c.2.2.2.2.2.2.2.2.2.2.2.2.2.2.2.2.1 c.2.2.2.2.2.2.2.2.2.2.2.2.2.2.2.2.2.1 c.2.2.2.2.2.2.2.2.2.2.2.2.2.2.2.2.2.2.1 c.2.2.2.2.2.2.2.2.2.2.2.2.2.2.2.2.2.2.2.1 c.2.2.2.2.2.2.2.2.2.2.2.2.2.2.2.2.2.2.2.2.1 c.2.2.2.2.2.2.2.2.2.2.2.2.2.2.2.2.2.2.2.2.2.2.2.1 c.2.2.2.2.2.2.2.2.2.2.2.2.2.2.2.2.2.2.2.2.2.2.2.2.1 v.1 v.2.1 v.2.2.1⟩
def wU(k:Nat):Ev bw:=⟨[dy.cl,wI k],[lp 0 (ut dy k) k],[(4,67),(6,47)]⟩
def BO(k q:Nat):Cd bw:=oM (wU dy k) f43 0 (ut dy k) q []
def FI(k:Nat):Cl bw:=lO (wU dy k) 43 f43 func43 call43 [] (oI (oL dy.1 k)) [BO dy k k]
end
theorem we:∀ k,ld prog gt 43 (wX (gB k))
 |0=>cU (fun _ _=>rfl)
 |k+1=>(FI ⟨_,we k⟩ k).ok
def FB(k:Nat):Cl bw:=⟨_,_,we k⟩
def dw(fn:Int)(im:XI)(lG:XB)(adh:Bool):Option (Int×XI×XB×Unit):=
 (bE im ([fn])).bind fun l=>
 (bE lG ([adh])).bind fun l2=>
 some ((bC ((l.length:Int) - 1)),l,l2,())
def pw:Cl bw:=lO ⟨[],[],[]⟩ 77 f77 func77 call77 [500000] ⟨⟨39,[(97,7),(93,13)],[(.l 97 0,.lit (.lB 93 0)),lI 97 1,lF 97 3 I,lF 97 5 tE,lF 97 6 tQ,lD 93 0 sN,lD 93 1 sA,lD 93 2 sS,lD 93 3 sF,lF 93 4 I,lF 93 5 I,lD 93 6 sI,lD 93 7 sI,lD 93 8 sB,lD 93 9 sE,lD 93 10 sQ,lD 93 11 sL,lD 93 12 sB],[rP 0 97,rD 1 .bool,lF 97 2 I,lF 97 4 .bool],[]⟩,[.ret [rI 500000,lF 97 2 I,lF 97 4 .bool] []],fun c v=>dw c.2.1 v.2.2.1 v.2.2.2.1 v.2.1⟩ []
def dC(gT:XE)(my to Ee nZ arg:Int):Option (XE×Unit):=
 (bE gT ([(my,to,Ee,nZ,arg)])).bind fun l=>
 some (l,())
def qm:Cl bw:=lO ⟨[],[],[]⟩ 79 f79 func79 call79 [] ⟨⟨29,[(97,7),(93,13)],[(.l 97 0,.lit (.lB 93 0)),lI 97 1,lF 97 2 I,lF 97 3 I,lF 97 4 .bool,lF 97 6 tQ,lD 93 0 sN,lD 93 1 sA,lD 93 2 sS,lD 93 3 sF,lF 93 4 I,lF 93 5 I,lD 93 6 sI,lD 93 7 sI,lD 93 8 sB,lD 93 9 sE,lD 93 10 sQ,lD 93 11 sL,lD 93 12 sB],[rP 0 97,rI 1,rI 2,rI 3,rI 4,rI 5,lF 97 5 tE],[]⟩,[.ret [lF 97 5 tE] []],fun c v=>dC v.2.2.2.2.2.2.1 v.2.1 v.2.2.1 v.2.2.2.1 v.2.2.2.2.1 v.2.2.2.2.2.1⟩ []
end
end Go.Fx.R5
namespace Go.Fx.R5
open Go Go.Fx Go.Proofs Go.Proofs.Tryz
noncomputable section
abbrev qk:=Int→XI→XI→XB→XE→XQ→XN→XA→XS→XF→XI→XI→XI→XI→XB→XE→XQ→XL→XB→Int→Int→Int→Int→Option (XI×XB×XE×Unit)
def qf(f:qk):CF:=⟨⟨90,[(97,7),(93,13)],[(.l 97 0,.lit (.lB 93 0)),lI 97 1,lF 97 3 I,lF 97 6 tQ,lD 93 0 sN,lD 93 1 sA,lD 93 2 sS,lD 93 3 sF,lF 93 4 I,lF 93 5 I,lD 93 6 sI,lD 93 7 sI,lD 93 8 sB,lD 93 9 sE,lD 93 10 sQ,lD 93 11 sL,lD 93 12 sB],[rP 0 97,rI 1,rI 2,rI 3,rI 4,lF 97 2 I,lF 97 4 .bool,lF 97 5 tE],[]⟩,[.ret [lF 97 2 I,lF 97 4 .bool,lF 97 5 tE] []],fun c v=>f c.2.1 v.2.2.2.2.2.1 c.2.2.1 v.2.2.2.2.2.2.1 v.2.2.2.2.2.2.2.1 c.2.2.2.1 c.2.2.2.2.1 c.2.2.2.2.2.1 c.2.2.2.2.2.2.1 c.2.2.2.2.2.2.2.1 c.2.2.2.2.2.2.2.2.1 c.2.2.2.2.2.2.2.2.2.1 c.2.2.2.2.2.2.2.2.2.2.1 c.2.2.2.2.2.2.2.2.2.2.2.1 c.2.2.2.2.2.2.2.2.2.2.2.2.1 c.2.2.2.2.2.2.2.2.2.2.2.2.2.1 c.2.2.2.2.2.2.2.2.2.2.2.2.2.2.1 c.2.2.2.2.2.2.2.2.2.2.2.2.2.2.2.1 c.2.2.2.2.2.2.2.2.2.2.2.2.2.2.2.2.1 v.2.1 v.2.2.1 v.2.2.2.1 v.2.2.2.2.1⟩
def zA(f:qk):iL:=mg (qf f).L (qf f).F (zJ [] (qf f).V)
def lS(iW:qk)(k:Nat)(fn:Int)(im jb:XI)(lG:XB)(gT:XE)(laid:XQ)(aA:XN)(aH:XA)(ax:XS)(bt:XF)(mC jU kH mY:XI)(qi:XB)(nK:XE)(tS:XQ)(out:XL)(bA:XB)(n p y z:Int):Option (XI×XB×XE×Unit):=
 (bL aA n).bind fun x1=>
 bif x1.1==33 then
  (bL x1.2.2.2.2 0).bind fun x2=>
  (iW fn im jb lG gT laid aA aH ax bt mC jU kH mY qi nK tS out bA x2 p z y).bind fun r1=>
  some (r1.1,r1.2.1,r1.2.2.1,())
 else
  bif x1.1==31 then
   (dw fn im lG false).bind fun r2=>
   (bL x1.2.2.2.2 0).bind fun x3=>
   (iW fn r2.2.1 jb r2.2.2.1 gT laid aA aH ax bt mC jU kH mY qi nK tS out bA x3 p r2.1 z).bind fun r3=>
   (bL x1.2.2.2.2 1).bind fun x4=>
   (iW fn r3.1 jb r3.2.1 r3.2.2.1 laid aA aH ax bt mC jU kH mY qi nK tS out bA x4 r2.1 y z).bind fun r4=>
   some (r4.1,r4.2.1,r4.2.2.1,())
  else
   bif x1.1==32 then
    (dw fn im lG false).bind fun r5=>
    (bL x1.2.2.2.2 0).bind fun x5=>
    (iW fn r5.2.1 jb r5.2.2.1 gT laid aA aH ax bt mC jU kH mY qi nK tS out bA x5 p y r5.1).bind fun r6=>
    (bL x1.2.2.2.2 1).bind fun x6=>
    (iW fn r6.1 jb r6.2.1 r6.2.2.1 laid aA aH ax bt mC jU kH mY qi nK tS out bA x6 r5.1 y z).bind fun r7=>
    some (r7.1,r7.2.1,r7.2.2.1,())
   else
    (dC gT p y 3 n 1).bind fun r8=>
    (dC r8.1 p z 3 n 0).bind fun r9=>
    some (im,lG,r9.1,())
def iH:Nat→qk
 |0=>fun _ _ _ _ _ _ _ _ _ _ _ _ _ _ _ _ _ _ _ _ _ _ _=>none
 |k+1=>lS (iH k) k
section
variable (iW:Gd bw 140 zA)
def Io(k:Nat):Cl bw:=lO ⟨[pw,qm,iW.cl],[],[(10,47)]⟩ 140 f140 func140 call140 [] (qf (lS iW.1 k)) []
end
theorem yy:∀ k,ld prog gt 140 (zA (iH k))
 |0=>cU (fun _ _=>rfl)
 |k+1=>(Io ⟨_,yy k⟩ k).ok
def Ib(k:Nat):Cl bw:=⟨_,_,yy k⟩
abbrev jy:=Int→XI→XI→XB→XE→XQ→XN→XA→XS→XF→XI→XI→XI→XI→XB→XE→XQ→XL→XB→Int→Int→Int→Option (XI×XB×XE×XQ×Unit)
def pk(f:jy):CF:=⟨⟨52,[(97,7),(93,13)],[(.l 97 0,.lit (.lB 93 0)),lI 97 1,lF 97 3 I,lD 93 0 sN,lD 93 1 sA,lD 93 2 sS,lD 93 3 sF,lF 93 4 I,lF 93 5 I,lD 93 6 sI,lD 93 7 sI,lD 93 8 sB,lD 93 9 sE,lD 93 10 sQ,lD 93 11 sL,lD 93 12 sB],[rP 0 97,rI 1,rI 2,rI 3,lF 97 2 I,lF 97 4 .bool,lF 97 5 tE,lF 97 6 tQ],[]⟩,[.ret [lF 97 2 I,lF 97 4 .bool,lF 97 5 tE,lF 97 6 tQ] []],fun c v=>f c.2.1 v.2.2.2.2.1 c.2.2.1 v.2.2.2.2.2.1 v.2.2.2.2.2.2.1 v.2.2.2.2.2.2.2.1 c.2.2.2.1 c.2.2.2.2.1 c.2.2.2.2.2.1 c.2.2.2.2.2.2.1 c.2.2.2.2.2.2.2.1 c.2.2.2.2.2.2.2.2.1 c.2.2.2.2.2.2.2.2.2.1 c.2.2.2.2.2.2.2.2.2.2.1 c.2.2.2.2.2.2.2.2.2.2.2.1 c.2.2.2.2.2.2.2.2.2.2.2.2.1 c.2.2.2.2.2.2.2.2.2.2.2.2.2.1 c.2.2.2.2.2.2.2.2.2.2.2.2.2.2.1 c.2.2.2.2.2.2.2.2.2.2.2.2.2.2.2.1 v.2.1 v.2.2.1 v.2.2.2.1⟩
def yj(f:jy):iL:=mg (pk f).L (pk f).F (zJ [] (pk f).V)
abbrev gM:=Int→XI→XI→XB→XE→XQ→XN→XA→XS→XF→XI→XI→XI→XI→XB→XE→XQ→XL→XB→Int→Int→Int→Option (XI×XB×XE×XQ×Unit)
def mD(f:gM):CF:=⟨⟨218,[(97,7),(93,13)],[(.l 97 0,.lit (.lB 93 0)),lI 97 1,lF 97 3 I,lD 93 0 sN,lD 93 1 sA,lD 93 2 sS,lD 93 3 sF,lF 93 4 I,lF 93 5 I,lD 93 6 sI,lD 93 7 sI,lD 93 8 sB,lD 93 9 sE,lD 93 10 sQ,lD 93 11 sL,lD 93 12 sB],[rP 0 97,rI 1,rI 2,rI 3,lF 97 2 I,lF 97 4 .bool,lF 97 5 tE,lF 97 6 tQ],[]⟩,[.ret [lF 97 2 I,lF 97 4 .bool,lF 97 5 tE,lF 97 6 tQ] []],fun c v=>f c.2.1 v.2.2.2.2.1 c.2.2.1 v.2.2.2.2.2.1 v.2.2.2.2.2.2.1 v.2.2.2.2.2.2.2.1 c.2.2.2.1 c.2.2.2.2.1 c.2.2.2.2.2.1 c.2.2.2.2.2.2.1 c.2.2.2.2.2.2.2.1 c.2.2.2.2.2.2.2.2.1 c.2.2.2.2.2.2.2.2.2.1 c.2.2.2.2.2.2.2.2.2.2.1 c.2.2.2.2.2.2.2.2.2.2.2.1 c.2.2.2.2.2.2.2.2.2.2.2.2.1 c.2.2.2.2.2.2.2.2.2.2.2.2.2.1 c.2.2.2.2.2.2.2.2.2.2.2.2.2.2.1 c.2.2.2.2.2.2.2.2.2.2.2.2.2.2.2.1 v.2.1 v.2.2.1 v.2.2.2.1⟩
def ue(f:gM):iL:=mg (mD f).L (mD f).F (zJ [] (mD f).V)
def ic(cA:jy)(bZ:gM)(q:Nat):Nat→XN→XA→XS→XF→XI→XI→XI→XI→XB→XE→XQ→XL→XB→Int→XI→Int→XI→XI→Int→XI→XB→XE→XQ→Int→Int→Option (XI×XB×XE×XQ×Unit)
 |0,_,_,_,_,_,_,_,_,_,_,_,_,_,_,_,_,_,_,_,_,_,_,_,_,_=>none
 |k+1,b9,gL,gD,jS,Zp,Wn,Yi,Yc,abW,Mk,acv,vw,kZ,GW,Yd,q2,cL,afK,aat,Uo,Ye,Yb,acw,p2,Vn=>
  bif decide (Vn<aat) then
   (bL afK Vn).bind fun x2=>
   aa (fun(jv:Int×XI×XB)=>
    (bZ GW (jv.2.1) Yd (jv.2.2) Yb acw b9 gL gD jS Zp Wn Yi Yc abW Mk acv vw kZ x2 p2 (jv.1)).bind fun r3=>
    ic cA bZ q k b9 gL gD jS Zp Wn Yi Yc abW Mk acv vw kZ GW Yd q2 cL afK aat r3.1 r3.2.1 r3.2.2.1 r3.2.2.2.1 (jv.1) (bC (Vn+1))) fun cJ=>
   bif decide (Vn<(bC ((cL.length:Int) - 1))) then
    (dw GW Uo Ye false).bind fun r2=>
    cJ (r2.1,r2.2.1,r2.2.2.1)
   else
    cJ (q2,Uo,Ye)
  else
   some (Uo,Ye,Yb,acw,())
def ni(cA:jy)(bZ:gM)(k:Nat)(fn:Int)(im jb:XI)(lG:XB)(gT:XE)(laid:XQ)(aA:XN)(aH:XA)(ax:XS)(bt:XF)(mC jU kH mY:XI)(qi:XB)(nK:XE)(tS:XQ)(out:XL)(bA:XB)(n p q:Int):Option (XI×XB×XE×XQ×Unit):=
 (bL aA n).bind fun x1=>
 bif (x1.2.2.2.2.length:Int)==0 then
  (dC gT p q 1 (-1) 0).bind fun r1=>
  some (im,lG,r1.1,laid,())
 else
  (ic cA bZ k k aA aH ax bt mC jU kH mY qi nK tS out bA fn jb q x1.2.2.2.2 x1.2.2.2.2 (x1.2.2.2.2.length:Int) im lG gT laid p 0).bind fun o=>
  some (o.1,o.2.1,o.2.2.1,o.2.2.2.1,())
def cZ(cA:jy)(bZ:gM)(k:Nat)(fn:Int)(im jb:XI)(lG:XB)(gT:XE)(laid:XQ)(aA:XN)(aH:XA)(ax:XS)(bt:XF)(mC jU kH mY:XI)(qi:XB)(nK:XE)(tS:XQ)(out:XL)(bA:XB)(n p q:Int):Option (XI×XB×XE×XQ×Unit):=
 (bL aA n).bind fun x1=>
 aa (fun(jv:XI×XB×XE×XQ×Int×Int)=>
  (bL (jv.2.2.2.1) n).bind fun x12=>
  (bL (jv.2.2.2.1) (n.toNat:Int)).bind fun x13=>
  some ((jv.1),(jv.2.1),(jv.2.2.1),List.set (jv.2.2.2.1) n.toNat (p,q,(jv.2.2.2.2.1),(jv.2.2.2.2.2)),())) fun jf=>
 bif x1.1==14 then
  (dw fn im lG false).bind fun r1=>
  aa (fun(jv:XI×XB×Int)=>
   (bL x1.2.2.2.2 0).bind fun x2=>
   (iH k fn (jv.1) jb (jv.2.1) gT laid aA aH ax bt mC jU kH mY qi nK tS out bA x2 p r1.1 (jv.2.2)).bind fun r3=>
   (bL x1.2.2.2.2 1).bind fun x3=>
   (cA fn r3.1 jb r3.2.1 r3.2.2.1 laid aA aH ax bt mC jU kH mY qi nK tS out bA x3 r1.1 q).bind fun r4=>
   bif (x1.2.2.2.2.length:Int)==3 then
    (bL x1.2.2.2.2 2).bind fun x4=>
    (cA fn r4.1 jb r4.2.1 r4.2.2.1 r4.2.2.2.1 aA aH ax bt mC jU kH mY qi nK tS out bA x4 (jv.2.2) q).bind fun r5=>
    jf (r5.1,r5.2.1,r5.2.2.1,r5.2.2.2.1,r1.1,(jv.2.2))
   else
    jf (r4.1,r4.2.1,r4.2.2.1,r4.2.2.2.1,r1.1,(jv.2.2))) fun cJ=>
  bif (x1.2.2.2.2.length:Int)==3 then
   (dw fn r1.2.1 r1.2.2.1 false).bind fun r2=>
   cJ (r2.2.1,r2.2.2.1,r2.1)
  else
   cJ (r1.2.1,r1.2.2.1,q)
 else
  bif x1.1==15 then
   (dw fn im lG true).bind fun r6=>
   (dw fn r6.2.1 r6.2.2.1 false).bind fun r7=>
   (dC gT p r6.1 1 (-1) 0).bind fun r8=>
   (bL x1.2.2.2.2 0).bind fun x5=>
   (iH k fn r7.2.1 jb r7.2.2.1 r8.1 laid aA aH ax bt mC jU kH mY qi nK tS out bA x5 r6.1 r7.1 q).bind fun r9=>
   (bL x1.2.2.2.2 1).bind fun x6=>
   (cA fn r9.1 jb r9.2.1 r9.2.2.1 laid aA aH ax bt mC jU kH mY qi nK tS out bA x6 r7.1 r6.1).bind fun kC=>
   jf (kC.1,kC.2.1,kC.2.2.1,kC.2.2.2.1,r7.1,q)
  else
   bif x1.1==16 then
    (dw fn im lG true).bind fun oc=>
    (dw fn oc.2.1 oc.2.2.1 false).bind fun pf=>
    (dC gT p oc.1 8 n 0).bind fun p7=>
    (dC p7.1 oc.1 pf.1 9 n 1).bind fun rY=>
    (dC rY.1 oc.1 q 9 n 0).bind fun qW=>
    (dw fn pf.2.1 pf.2.2.1 false).bind fun th=>
    (bL x1.2.2.2.2 2).bind fun x7=>
    (cA fn th.2.1 jb th.2.2.1 qW.1 laid aA aH ax bt mC jU kH mY qi nK tS out bA x7 pf.1 th.1).bind fun vA=>
    (dC vA.2.2.1 th.1 oc.1 10 n 0).bind fun rW=>
    jf (vA.1,vA.2.1,rW.1,vA.2.2.2.1,pf.1,q)
   else
    bif x1.1==19 then
     (dw fn im lG false).bind fun qX=>
     (bL x1.2.2.2.2 0).bind fun x8=>
     (iH k fn qX.2.1 jb qX.2.2.1 gT laid aA aH ax bt mC jU kH mY qi nK tS out bA x8 p q qX.1).bind fun vB=>
     (dC vB.2.2.1 qX.1 qX.1 4 n 0).bind fun y8=>
     jf (vB.1,vB.2.1,y8.1,laid,q,qX.1)
    else
     bif x1.1==21 then
      (dC gT p p 6 n 0).bind fun Kf=>
      jf (im,lG,Kf.1,laid,0,0)
     else
      bif x1.1==20 then
       (dC gT p p 7 n 0).bind fun I3=>
       jf (im,lG,I3.1,laid,0,0)
      else
       bif x1.1==22 then
        (bL x1.2.2.2.2 0).bind fun x9=>
        (bL jU x9).bind fun x10=>
        (bL jU (x9.toNat:Int)).bind fun x11=>
        (dC gT p q 5 n x11).bind fun Jk=>
        jf (im,lG,Jk.1,laid,0,0)
       else
        (dC gT p q 2 n 0).bind fun r25=>
        jf (im,lG,r25.1,laid,0,0)
def jJ:Nat→jy×gM
 |0=>(fun _ _ _ _ _ _ _ _ _ _ _ _ _ _ _ _ _ _ _ _ _ _=>none,fun _ _ _ _ _ _ _ _ _ _ _ _ _ _ _ _ _ _ _ _ _ _=>none)
 |k+1=>(ni (jJ k).1 (jJ k).2 k,cZ (jJ k).1 (jJ k).2 k)
def jO(k:Nat):jy:=(jJ k).1
def gG(k:Nat):gM:=(jJ k).2
section
variable (cA:Gd bw 78 yj) (bZ:Gd bw 115 ue)
def uW(k:Nat):mS:=⟨⟨52,[(93,13),(97,7)],[lD 93 0 sN,lD 93 1 sA,lD 93 2 sS,lD 93 3 sF,lF 93 4 I,lF 93 5 I,lD 93 6 sI,lD 93 7 sI,lD 93 8 sB,lD 93 9 sE,lD 93 10 sQ,lD 93 11 sL,lD 93 12 sB,(.l 97 0,.lit (.lB 93 0)),lI 97 1,lF 97 3 I,rP 0 97,rI 3,rD 8 sI,rD 30 sI,rI 31],[lF 97 2 I,lF 97 4 .bool,lF 97 5 tE,lF 97 6 tQ,rI 2,rI 32],[]⟩,[.ex (.exit 0) [lF 97 2 I,lF 97 4 .bool,lF 97 5 tE,lF 97 6 tQ]],fun q c v=>ic cA.1 bZ.1 k q c.1 c.2.1 c.2.2.1 c.2.2.2.1 c.2.2.2.2.1 c.2.2.2.2.2.1 c.2.2.2.2.2.2.1 c.2.2.2.2.2.2.2.1 c.2.2.2.2.2.2.2.2.1 c.2.2.2.2.2.2.2.2.2.1 c.2.2.2.2.2.2.2.2.2.2.1 c.2.2.2.2.2.2.2.2.2.2.2.1 c.2.2.2.2.2.2.2.2.2.2.2.2.1 c.2.2.2.2.2.2.2.2.2.2.2.2.2.2.1 c.2.2.2.2.2.2.2.2.2.2.2.2.2.2.2.1 c.2.2.2.2.2.2.2.2.2.2.2.2.2.2.2.2.2.1 c.2.2.2.2.2.2.2.2.2.2.2.2.2.2.2.2.2.2.1 c.2.2.2.2.2.2.2.2.2.2.2.2.2.2.2.2.2.2.2.1 c.2.2.2.2.2.2.2.2.2.2.2.2.2.2.2.2.2.2.2.2.1 v.1 v.2.1 v.2.2.1 v.2.2.2.1 v.2.2.2.2.1 v.2.2.2.2.2.1⟩
def xX(k:Nat):Ev bw:=⟨[pw,qm,bZ.cl],[lp 0 (uW cA bZ k) k],[]⟩
def De(k q:Nat):Cd bw:=oM (xX cA bZ k) f78 0 (uW cA bZ k) q []
def GY(k:Nat):Cl bw:=lO (xX cA bZ k) 78 f78 func78 call78 [] (pk (ni cA.1 bZ.1 k)) [De cA bZ k k]
def B6(k:Nat):Cl bw:=lO ⟨[pw,cA.cl,qm,Ib k],[],[(8,47),(9,167)]⟩ 115 f115 func115 call115 [] (mD (cZ cA.1 bZ.1 k)) []
end
theorem oR:∀ k,ld prog gt 78 (yj (jO k))∧ld prog gt 115 (ue (gG k))
 |0=>⟨cU (fun _ _=>rfl),cU (fun _ _=>rfl)⟩
 |k+1=>have ih:=oR k;⟨(GY ⟨_,ih.1⟩ ⟨_,ih.2⟩ k).ok,(B6 ⟨_,ih.1⟩ ⟨_,ih.2⟩ k).ok⟩
def GP(k:Nat):Cl bw:=⟨_,_,(oR k).1⟩
def QI(k:Nat):Cl bw:=⟨_,_,(oR k).2⟩
def rV(k:Nat)(im jb:XI)(lG:XB)(gT:XE)(laid:XQ)(aA:XN)(aH:XA)(ax:XS)(bt:XF)(mC jU kH mY:XI)(qi:XB)(nK:XE)(tS:XQ)(out:XL)(bA:XB)(GW:Int):Option (Int×XI×XI×XB×XE×XQ×Unit):=
 (dw GW im lG false).bind fun r1=>
 (bE jb ([r1.1])).bind fun l=>
 (dw GW r1.2.1 r1.2.2.1 false).bind fun r2=>
 (bL bt GW).bind fun x1=>
 (jO k GW r2.2.1 l r2.2.2.1 gT laid aA aH ax bt mC jU kH mY qi nK tS out bA x1.2.2.2.2 r1.1 r2.1).bind fun r3=>
 (dC r3.2.2.1 r2.1 r2.1 6 (-1) 0).bind fun r4=>
 some (GW,r3.1,l,r3.2.1,r4.1,r3.2.2.2.1,())
def Dj(k:Nat):Cl bw:=lO ⟨[pw,GP k,qm],[],[]⟩ 44 f44 func44 call44 [] ⟨⟨46,[(97,7),(93,13)],[(.l 97 0,.lit (.lB 93 0)),lD 93 0 sN,lD 93 1 sA,lD 93 2 sS,lD 93 3 sF,lF 93 4 I,lF 93 5 I,lD 93 6 sI,lD 93 7 sI,lD 93 8 sB,lD 93 9 sE,lD 93 10 sQ,lD 93 11 sL,lD 93 12 sB],[rP 0 97,rI 1,lI 97 1,lF 97 2 I,lF 97 3 I,lF 97 4 .bool,lF 97 5 tE,lF 97 6 tQ],[]⟩,[.ret [lI 97 1,lF 97 2 I,lF 97 3 I,lF 97 4 .bool,lF 97 5 tE,lF 97 6 tQ] []],fun c v=>rV k v.2.2.2.1 v.2.2.2.2.1 v.2.2.2.2.2.1 v.2.2.2.2.2.2.1 v.2.2.2.2.2.2.2.1 c.2.1 c.2.2.1 c.2.2.2.1 c.2.2.2.2.1 c.2.2.2.2.2.1 c.2.2.2.2.2.2.1 c.2.2.2.2.2.2.2.1 c.2.2.2.2.2.2.2.2.1 c.2.2.2.2.2.2.2.2.2.1 c.2.2.2.2.2.2.2.2.2.2.1 c.2.2.2.2.2.2.2.2.2.2.2.1 c.2.2.2.2.2.2.2.2.2.2.2.2.1 c.2.2.2.2.2.2.2.2.2.2.2.2.2.1 v.2.1⟩ []
def jN(q:Nat):Nat→XI→XE→Int→XB→Int→Option (XB×Unit)
 |0,_,_,_,_,_=>none
 |k+1,kH,XY,afH,FY,ad4=>
  bif decide (ad4<afH) then
   aa (fun(DU:XB)=>
    jN q k kH XY afH DU (bC (ad4+1))) fun cJ=>
   (bL XY ad4).bind fun x1=>
   bif x1.2.2.1==5 then
    (bL kH x1.1).bind fun x2=>
    bif decide (0≤x2)&&decide (x2<6) then
     bif decide (0≤x1.2.2.2.2)&&decide (x1.2.2.2.2<6) then
      (bL FY (((x2.toNat * 6)+x1.2.2.2.2.toNat * 1):Int)).bind fun x5=>
      cJ (List.set FY ((x2.toNat * 6)+x1.2.2.2.2.toNat * 1) true)
     else
      none
    else
     none
   else
    cJ FY
  else
   some (FY,())
def gl(q:Nat):Nat→Int→Int→Int→XB→Int→Option (XB×Unit)
 |0,_,_,_,_,_=>none
 |k+1,k2,i1,afL,JD,R3=>
  bif decide (R3<afL) then
   aa (fun(ac0:XB)=>
    gl q k k2 i1 afL ac0 (bC (R3+1))) fun jf=>
   bif decide (0≤i1)&&decide (i1<6) then
    bif decide (0≤k2)&&decide (k2<6) then
     (bL JD (((i1.toNat * 6)+k2.toNat * 1):Int)).bind fun x3=>
     aa (fun(v:Bool)=>
      bif v then
       bif decide (0≤i1)&&decide (i1<6) then
        bif decide (0≤R3)&&decide (R3<6) then
         (bL JD (((i1.toNat * 6)+R3.toNat * 1):Int)).bind fun x9=>
         jf (List.set JD ((i1.toNat * 6)+R3.toNat * 1) true)
        else
         none
       else
        none
      else
       jf JD) fun cJ=>
     bif x3 then
      bif decide (0≤k2)&&decide (k2<6) then
       bif decide (0≤R3)&&decide (R3<6) then
        (bL JD (((k2.toNat * 6)+R3.toNat * 1):Int)).bind fun x6=>
        cJ x6
       else
        none
      else
       none
     else
      cJ false
    else
     none
   else
    none
  else
   some (JD,())
def kM(q:Nat):Nat→Int→Int→Int→XB→Int→Option (XB×Unit)
 |0,_,_,_,_,_=>none
 |k+1,n2,k1,T8,DU,N8=>
  bif decide (N8<T8) then
   (gl q q k1 N8 n2 DU 0).bind fun o2=>
   kM q k n2 k1 T8 o2.1 (bC (N8+1))
  else
   some (DU,())
def kK(q:Nat):Nat→Int→Int→XB→Int→Option (XB×Unit)
 |0,_,_,_,_=>none
 |k+1,n,N7,FY,ad7=>
  bif decide (ad7<N7) then
   (kM q q n ad7 n FY 0).bind fun o2=>
   kK q k n N7 o2.1 (bC (ad7+1))
  else
   some (FY,())
def gA(q:Nat):Nat→XB→Int→Int→XB→Int→Option (XB×Unit)
 |0,_,_,_,_,_=>none
 |k+1,DU,i1,afQ,SK,LM=>
  bif decide (LM<afQ) then
   aa (fun(aew:XB)=>
    gA q k DU i1 afQ aew (bC (LM+1))) fun wg=>
   bif decide (0≤LM)&&decide (LM<6) then
    bif decide (0≤LM)&&decide (LM<6) then
     (bL DU (((LM.toNat * 6)+LM.toNat * 1):Int)).bind fun x3=>
     aa (fun(v2:Bool)=>
      bif v2 then
       (bL SK i1).bind fun x7=>
       (bL SK (i1.toNat:Int)).bind fun x8=>
       wg (List.set SK i1.toNat true)
      else
       wg SK) fun jf=>
     bif x3 then
      aa (fun(v:Bool)=>
       jf v) fun cJ=>
      bif i1==LM then
       cJ true
      else
       bif decide (0≤LM)&&decide (LM<6) then
        bif decide (0≤i1)&&decide (i1<6) then
         (bL DU (((LM.toNat * 6)+i1.toNat * 1):Int)).bind fun x6=>
         cJ x6
        else
         none
       else
        none
     else
      jf false
    else
     none
   else
    none
  else
   some (SK,())
def kN(q:Nat):Nat→Int→XB→Int→XB→Int→Option (XB×Unit)
 |0,_,_,_,_,_=>none
 |k+1,n,FY,afP,ab6,ad9=>
  bif decide (ad9<afP) then
   (gA q q FY ad9 n ab6 0).bind fun o3=>
   kN q k n FY afP o3.1 (bC (ad9+1))
  else
   some (ab6,())
def vK(k:Nat)(bt:XF)(im:XI)(gT:XE):Option (XB×Unit):=
 (jN k k im gT (gT.length:Int) (List.replicate 36 false) 0).bind fun o=>
 (kK k k (bt.length:Int) (bt.length:Int) o.1 0).bind fun o2=>
 (mkl (bt.length:Int) (false:Bool)).bind fun z=>
 (sub z 0 (bt.length:Int)).bind fun l=>
 (kN k k (bt.length:Int) o2.1 (bt.length:Int) l 0).bind fun o3=>
 some (o3.1,())
def yG(k:Nat):mS:=⟨⟨110,[(93,13)],[lD 93 0 sN,lD 93 1 sA,lD 93 2 sS,lD 93 3 sF,lF 93 4 I,lF 93 5 I,lD 93 6 sI,lD 93 7 sI,lD 93 8 sB,lD 93 9 sE,lD 93 10 sQ,lD 93 11 sL,lD 93 12 sB,rP 0 93,rI 3,rD 23 sE,rI 24],[(.r 4,.h .arr .bool),rI 25],[]⟩,[.ex (.exit 0) [(.r 4,.h .arr .bool)]],fun q c v=>jN k q c.2.2.2.2.2.2.1 c.2.2.2.2.2.2.2.2.2.2.2.2.2.2.2.1 c.2.2.2.2.2.2.2.2.2.2.2.2.2.2.2.2.1 v.1 v.2.1⟩
def yJ(k:Nat):mS:=⟨⟨110,[(93,13)],[lD 93 0 sN,lD 93 1 sA,lD 93 2 sS,lD 93 3 sF,lF 93 4 I,lF 93 5 I,lD 93 6 sI,lD 93 7 sI,lD 93 8 sB,lD 93 9 sE,lD 93 10 sQ,lD 93 11 sL,lD 93 12 sB,rI 3,rI 7,rI 8,rI 46,rI 47,rI 50,rI 51,rI 54],[(.r 4,.h .arr .bool),rI 55],[]⟩,[.ex (.exit 6) [(.r 4,.h .arr .bool)]],fun q c v=>gl k q c.2.2.2.2.2.2.2.2.2.2.2.2.2.2.1 c.2.2.2.2.2.2.2.2.2.2.2.2.2.2.2.1 c.2.2.2.2.2.2.2.2.2.2.2.2.2.2.2.2.2.2.2.2.1 v.1 v.2.1⟩
def yI(k:Nat):mS:=⟨⟨110,[(93,13)],[lD 93 0 sN,lD 93 1 sA,lD 93 2 sS,lD 93 3 sF,lF 93 4 I,lF 93 5 I,lD 93 6 sI,lD 93 7 sI,lD 93 8 sB,lD 93 9 sE,lD 93 10 sQ,lD 93 11 sL,lD 93 12 sB,rI 3,rI 7,rI 46,rI 47,rI 50],[(.r 4,.h .arr .bool),rI 51],[]⟩,[.ex (.exit 4) [(.r 4,.h .arr .bool)]],fun q c v=>kM k q c.2.2.2.2.2.2.2.2.2.2.2.2.2.1 c.2.2.2.2.2.2.2.2.2.2.2.2.2.2.1 c.2.2.2.2.2.2.2.2.2.2.2.2.2.2.2.2.2.1 v.1 v.2.1⟩
def yH(k:Nat):mS:=⟨⟨110,[(93,13)],[lD 93 0 sN,lD 93 1 sA,lD 93 2 sS,lD 93 3 sF,lF 93 4 I,lF 93 5 I,lD 93 6 sI,lD 93 7 sI,lD 93 8 sB,lD 93 9 sE,lD 93 10 sQ,lD 93 11 sL,lD 93 12 sB,rI 3,rI 46],[(.r 4,.h .arr .bool),rI 47],[]⟩,[.ex (.exit 2) [(.r 4,.h .arr .bool)]],fun q c v=>kK k q c.2.2.2.2.2.2.2.2.2.2.2.2.2.1 c.2.2.2.2.2.2.2.2.2.2.2.2.2.2.1 v.1 v.2.1⟩
def xa(k:Nat):mS:=⟨⟨110,[(93,13)],[lD 93 0 sN,lD 93 1 sA,lD 93 2 sS,lD 93 3 sF,lF 93 4 I,lF 93 5 I,lD 93 6 sI,lD 93 7 sI,lD 93 8 sB,lD 93 9 sE,lD 93 10 sQ,lD 93 11 sL,lD 93 12 sB,rI 3,(.r 4,.h .arr .bool),rI 11,rI 79,rI 80,rI 83],[(.r 10,.h .eL .bool),rI 84],[]⟩,[.ex (.exit 10) [(.r 10,.h .eL .bool)]],fun q c v=>gA k q c.2.2.2.2.2.2.2.2.2.2.2.2.2.2.1 c.2.2.2.2.2.2.2.2.2.2.2.2.2.2.2.1 c.2.2.2.2.2.2.2.2.2.2.2.2.2.2.2.2.2.2.1 v.1 v.2.1⟩
def yK(k:Nat):mS:=⟨⟨110,[(93,13)],[lD 93 0 sN,lD 93 1 sA,lD 93 2 sS,lD 93 3 sF,lF 93 4 I,lF 93 5 I,lD 93 6 sI,lD 93 7 sI,lD 93 8 sB,lD 93 9 sE,lD 93 10 sQ,lD 93 11 sL,lD 93 12 sB,rI 3,(.r 4,.h .arr .bool),rI 79],[(.r 10,.h .eL .bool),rI 80],[]⟩,[.ex (.exit 8) [(.r 10,.h .eL .bool)]],fun q c v=>kN k q c.2.2.2.2.2.2.2.2.2.2.2.2.2.1 c.2.2.2.2.2.2.2.2.2.2.2.2.2.2.1 c.2.2.2.2.2.2.2.2.2.2.2.2.2.2.2.1 v.1 v.2.1⟩
def lV(k:Nat):Ev bw:=⟨[],[lp 0 (yG k) k,lp 6 (yJ k) k,lp 4 (yI k) k,lp 2 (yH k) k,lp 10 (xa k) k,lp 8 (yK k) k],[(4,9999)]⟩
def Gs(k q:Nat):Cd bw:=oM (lV k) f45 0 (yG k) q []
def Gv(k q:Nat):Cd bw:=oM (lV k) f45 6 (yJ k) q []
def Gu(k q:Nat):Cd bw:=oM (lV k) f45 4 (yI k) q [Gv k k]
def Gt(k q:Nat):Cd bw:=oM (lV k) f45 2 (yH k) q [Gu k k]
def Fj(k q:Nat):Cd bw:=oM (lV k) f45 10 (xa k) q []
def Gw(k q:Nat):Cd bw:=oM (lV k) f45 8 (yK k) q [Fj k k]
def KZ(k:Nat):Cl bw:=lO (lV k) 45 f45 func45 call45 [500000] ⟨⟨110,[(93,13)],[lD 93 0 sN,lD 93 1 sA,lD 93 2 sS,lD 93 3 sF,lF 93 4 I,lF 93 5 I,lD 93 6 sI,lD 93 7 sI,lD 93 8 sB,lD 93 9 sE,lD 93 10 sQ,lD 93 11 sL,lD 93 12 sB],[rP 0 93],[]⟩,[.ret [(.r 500000,.h .eL .bool)] []],fun c v=>vK k c.2.2.2.1 c.2.2.2.2.2.2.1 c.2.2.2.2.2.2.2.2.2.1⟩ [Gs k k,Gt k k,Gw k k]
end
end Go.Fx.R5
namespace Go.Fx.R5
open Go Go.Fx Go.Proofs Go.Proofs.Tryz
noncomputable section
def sqA:Code→Code | .seq a _=>a|c=>c
def sqB:Code→Code | .seq _ b=>b|c=>c
noncomputable def q0:Code:=rR f41
noncomputable def q1:Code:=sqB q0
noncomputable def q2:Code:=sqB q1
noncomputable def q3:Code:=sqB q2
noncomputable def q4:Code:=sqB q3
noncomputable def q5:Code:=sqB q4
def DD(k:Nat):Ev bw:=⟨[Jw k,Dm k],[],[(2,9002),(3,9003),(19,126)]⟩
abbrev ptR:List Ty:=[.slice (.dg I (.dg I (.dg I (.dg .str (.slice I))))),.dg I I]
def V1(o:Nat):Option af→Bool
 |some (.one (.lB p z))=>Nat.beq p o&&Nat.beq z 0
 |_=>false
def SX(n:Nat):Option (List ai)→Bool
 |some l=>Nat.beq l.length n
 |none=>false
def Wt(st:St):Bool:=(st.iz 20).isNone&&Nat.beq st.n 28&&V1 9002 (st.iz 2)&&V1 9003 (st.iz 3)&&SX 1 (st.dT 9002)&&SX 2 (st.dT 9003)
def ptP(av:af)(st:St):Option (DL ptR):=
 match av with
 |.Au T ls=>bif Nat.beq T 128&&SX 1 (st.dT 9002)&&SX 2 (st.dT 9003) then(PA [I,I] ls).map fun d=>([],(d.1,d.2.1),()) else none
 |_=>none
noncomputable def XK(k:Nat)(e:Exit)(st:St):Option (DL ptR):=match e with
 |.normal=>tB (DD k).e (sqB q5) st (kD (DD k).e f41.results.toList ptR) (fun _ _=>none)
 |_=>none
noncomputable def agT(k:Nat)(e:Exit)(st:St):Option (DL ptR):=match e with
 |.normal=>bif Wt st then tB (DD k).e (sqA q5) st (XK k) ptP else none
 |_=>none
noncomputable def agS(k:Nat)(e:Exit)(st:St):Option (DL ptR):=match e with
 |.normal=>tB (DD k).e (sqA q3) st (agT k) (fun _ _=>none)
 |.ret=>O8 (DD k).e f41.results.toList ptR st
 |_=>none
noncomputable def agR(k:Nat)(e:Exit)(st:St):Option (DL ptR):=match e with
 |.normal=>tB (DD k).e (sqA q2) st (agS k) (fun _ _=>none)
 |_=>none
noncomputable def agQ(k:Nat)(e:Exit)(st:St):Option (DL ptR):=match e with
 |.normal=>tB (DD k).e (sqA q1) st (agR k) (fun _ _=>none)
 |_=>none
def pE(k:Nat)(s:ab):Option (List (Int×Int×Int×ab×List Int)×(Int×Int)×Unit):=
 (ng k s).bind fun r=>bif r.2.1.1 != 0 then some ([],r.2.1,()) else
 (oK k r.1 (s.length:Int) 0 0 []).bind fun r=>match r with
 |.inl o=>some (o.2.2.1,(0,0),())
 |.inr p=>some ([],(p.1,p.2.1),())
def KI(k:Nat):iL:=Az [.str] ptR (fun d=>pE k d.1) id
theorem aex(k:Nat)(d:DL [.str]):pE k d.1=tB (DD k).e (sqA q0) (stD 28 [.str] d) (agQ k) (fun _ _=>none):=by kernel_rfl
def adF:Oper:={dst:=some 20,op:=.makeFunc (.func 70) #[] #[.tmp 2,.tmp 3],type:=1,pos:= "l3_parse.go:79",after:=#[],guard:=none}
def ac4:Oper:={dst:=none,op:=.defer {callee:=.value (.tmp 20),args:=#[],argTypes:=#[]},type:=0,pos:= "l3_parse.go:79",after:=#[{on:=0,ground:=.data}],guard:=none}
def Tk:Oper:={dst:=some 21,op:=.move (.tmp 5),type:=124,pos:= "l3_parse.go:84",after:=#[],guard:=none}
def SF:Oper:={dst:=some 22,op:=.call {callee:=.value (.func 71),args:=#[.tmp 21],argTypes:=#[124]},type:=0,pos:= "l3_parse.go:84",after:=#[{on:=0,ground:=.data}],guard:=none}
theorem abu:f41.body=some (.seq (sqA q0) (.seq (sqA q1) (.seq (sqA q2) (.seq (sqA q3) (.seq (.region 5 #[adF,ac4] false) (.seq (sqA q5) (sqB q5))))))):=by kernel_rfl
theorem abv:sqA q5=.region 6 #[Tk,SF] false:=by kernel_rfl
theorem S7{o:Nat}{x:Option af}(h:V1 o x=true):x=some (.one (.lB o 0)):=by
 unfold V1 at h;split at h
 ·simp only[Q3] at h
  rw[Q4 h.1,Q4 h.2]
 ·cases h
theorem LU{n:Nat}{x:Option (List ai)}(h:SX n x=true):∃ l,x=some l∧l.length=n:=by
 unfold SX at h;split at h
 ·exact⟨_,rfl,Q4 h⟩
 ·cases h
theorem YA{Q:Exit→Act→World→Prop}{act:Act}{w:World}(hn:act.tmps.size=28)(h:Q .normal {tmps:=act.tmps.setIfInBounds 20 (.func (.func 70) #[] #[act.tmps.getD 2 undef,act.tmps.getD 3 undef]),defers:=⟨.fn (.func 70) #[act.tmps.getD 2 undef,act.tmps.getD 3 undef],#[]⟩::act.defers} w):
  (Code.region 5 #[adF,ac4] false).wp prog Q act w:=by
 refine wp_region_list ?_;have hmf:∀(fn:Fn) (first cap:Array Value) (w:World),(Instr.makeFunc fn first cap).run prog w=.ok (.func fn first cap) w:=fun _ _ _ _=>rfl
 simp[wpList,adF,ac4,go_sem,hmf,hn];refine .inl (.inl ?_);simpa[hn] using h
def Mm(b2 o2 b3 o3:Nat)(act:Act):Prop:=
 act.tmps.size=28∧act.tmps.getD 2 undef=.pointer (some ⟨b2,o2,none⟩)∧act.tmps.getD 3 undef=.pointer (some ⟨b3,o3,none⟩)∧act.defers=[⟨.fn (.func 70) #[.pointer (some ⟨b2,o2,none⟩),.pointer (some ⟨b3,o3,none⟩)],#[]⟩]
theorem Mm.put{b2 o2 b3 o3:Nat}{act:Act}(h:Mm b2 o2 b3 o3 act){d:Tmp}(hd:¬ d=2∧¬ d=3)(v:Value):Mm b2 o2 b3 o3 (act.put (some d) v):=by
 obtain⟨h1,h2,h3,h4⟩:=h;refine⟨by simp[Act.put,h1],?_,?_,h4⟩
 ·rw[←h2];simp only[Act.put,aCa];rw[bta hd.1]
 ·rw[←h3];simp only[Act.put,aCa];rw[bta hd.2]
theorem MF{w:World}{b o:Nat}{arr:Array Value}{elem:TypeId}(h:w.heap[b]? = some (.cells arr elem (0,0)))(hl:o<arr.size):(∃ x,w.cell? ⟨b,o,none⟩=some x)∧w.frozen? ⟨b,o,none⟩=false:=by
 refine⟨⟨arr[o],?_⟩,?_⟩
 ·simp[World.cell?,h,hl]
 ·simp[World.frozen?,h]
theorem abw(k:Nat){b2 o2 b3 o3:Nat}{X:mW}(hg:nL gt X.S0){st:St}{G:Gh}{w:World}{act:Act}{y:DL ptR}{Q:Exit→Act→World→Prop}(h:tB (DD k).e (sqA q5) st (XK k) ptP=some y)(hm:aB X st G w)(hr:bQ G st act)(ha:Mm b2 o2 b3 o3 act)
  (hK:∀ st G w act,aB X st G w→bQ G st act→Mm b2 o2 b3 o3 act→XK k .normal st=some y→Q .normal act w)
  (hP:∀ av v st G w act,aB X st G w→Mm b2 o2 b3 o3 act→aU G av v→ptP av st=some y→Q (.panic [{v,recovered:=false}]) act w):(sqA q5).wp prog Q act w:=by
 have hE:=(DD k).ok;rw[abv] at h ⊢;refine wp_region_list ?_;have h:mw (DD k).e Tk st (fun v st'=>pe Tk.dst v st' fun s=>mw (DD k).e SF s (fun v st'=>pe SF.dst v st' fun s=>XK k .normal s) ptP) ptP=some y:=h;have w1:Region.wanted Tk (yielded #[Tk,SF] act.tmps)=true:=rfl;show(if Region.wanted Tk (yielded #[Tk,SF] act.tmps)=true then _ else _)
 rw[a8a w1];refine .inl (Ik hE.iK hE.BG h hg hm hr (fun av v st' G' w' m' r' v' k'=>?_) (fun av v st' G' w' m' v' k'=>hP av v st' G' w' act m' ha v' k'));obtain⟨s,m2,r2,k2⟩:=L9 k' m' r' v';have ha1:=ha.put (d:=21) (by decide) v
 show(if Region.wanted SF (yielded #[Tk,SF] (act.put (some 21) v).tmps)=true then _ else _)
 rw[a8a (show Region.wanted SF _=true from rfl)]
 refine .inl (Ik hE.iK hE.BG k2 hg m2 r2 (fun av v2 st' G' w' m' r' v' k'=>?_) (fun av v2 st' G' w' m' v' k'=>hP av v2 st' G' w' _ m' ha1 v' k'));obtain⟨s,m3,r3,k3⟩:=L9 k' m' r' v';exact hK _ _ _ _ m3 r3 (ha1.put (d:=22) (by decide) v2) k3
open Go.RowKit (Below)
def ZY(b2 b3:Nat)(O6 po2 Ge po3:List Value)(o:Nat):Option (Nat×List Value×List Value):=
 if o=9002 then some (b2,O6,po2) else if o=9003 then some (b3,Ge,po3) else none
theorem abs{b2 b3:Nat}{O6 po2 Ge po3:List Value}(o:Nat)(q:Nat×List Value×List Value)(h:ZY b2 b3 O6 po2 Ge po3 o=some q):o<10000:=by
 unfold ZY at h;split at h
 ·omega
 ·split at h
  ·omega
  ·cases h
theorem sco{w:World}{a b:Addr}{v:Value}(h:a.block≠b.block∨a.off≠b.off):(w.setCell a v).cell? b=w.cell? b:=World.cell?_setCell_other _ _ _ _ (fun e=>by subst e;simp at h)
theorem abx{X:mW}{b2 b3:Nat}{O6 po2 Ge po3:List Value}(Xl:∀ o q,ZY b2 b3 O6 po2 Ge po3 o=some q→X.pin o=some q){st:St}{G:Gh}{w:World}{act:Act}{av:af}{v:Value}{y:DL ptR}(jK:∀ b,¬ X.XC b)(hm:aB X st G w)(ha:Mm b2 O6.length b3 Ge.length act)(hv:aU G av v)(hk:ptP av st=some y)
  {R:Ending→World→Prop} (hR:∀ c a w',y=([],(c,a),())→Below X.w0.heap.size w w'→R (.returned (.tuple #[.slice none 0 0,.agg #[.int .i64 c,.int .i64 a]])) w'):Leaves prog f41 act.tmps R act.defers (.panicking [{v,recovered:=false}]) w:=by
 obtain⟨h1,h2,h3,h4⟩:=ha;have p2:=hm.pin 9002 _ (Xl 9002 _ rfl);have p3:=hm.pin 9003 _ (Xl 9003 _ rfl);obtain⟨⟨l2,e2⟩,e2'⟩:=p2;obtain⟨⟨l3,e3⟩,e3'⟩:=p3;simp only[aia] at e2' e3';unfold ptP at hk;split at hk
 ·rename_i T ls
  cases hc:(Nat.beq T 128&&SX 1 (st.dT 9002)&&SX 2 (st.dT 9003)) with
  |false=>rw[hc] at hk;cases hk
  |true=>
   rw[hc] at hk;simp only[Q3] at hc;obtain⟨⟨c1,c2⟩,c3⟩:=hc;obtain rfl:=Q4 c1;obtain⟨l2',c2,n2⟩:=LU c2;obtain⟨l3',c3,n3⟩:=LU c3;obtain⟨d,hd,rfl⟩:=aKa.1 hk;obtain⟨g1,g2⟩:=Ir hd;obtain⟨c,a,u⟩:=d;subst g2;obtain⟨u,cs,rfl,hu,Dr⟩:=hv;have aa7:u=.agg #[.int .i64 c,.int .i64 a]:=by
    match cs,Dr,hu with
    |[x,z],⟨hx,hz,_⟩,hu=>
     have hx:=(BI (t:=I) rfl).1 hx;have hz:=(BI (t:=I) rfl).1 hz;subst hx hz;cases u with
     |agg A=>exact bWa Value.agg (Array.toList_inj.1 hu)
     |_=>exact absurd (bWa List.length hu) (by simp[Value.cells])
   subst aa7;obtain⟨Yn,el2,m2,o1,o2,o3⟩:=hm.ob 9002 _ c2;obtain⟨aen,el3,m3,q1,q2,q3⟩:=hm.ob 9003 _ c3;have lm2:m2.length=1:=by have:=All2.length o3;rw[iX] at this;omega
   have lm3:m3.length=2:=by have:=All2.length q3;rw[iX] at this;omega
   have B2:b2=G.φ 9002:=e2'.1;have B3:b3=G.φ 9003:=e3'.1;have P2:O6=G.pre 9002:=e2'.2.1;have P3:Ge=G.pre 9003:=e3'.2.1;rw[←B2] at o1;rw[←B3] at q1;rw[←P2] at o2;rw[←P3] at q2;have s2:O6.length+1≤Yn.size:=by have:=bWa List.length o2;simp only[bga,aua] at this;omega
   have s3:Ge.length+2≤aen.size:=by have:=bWa List.length q2;simp only[bga,aua] at this;omega
   obtain⟨⟨x2,f2⟩,z2⟩:=MF (o:=O6.length) o1 (by omega)
   obtain⟨⟨x3,f3⟩,z3⟩:=MF (o:=Ge.length) q1 (by omega)
   obtain⟨⟨x4,f4⟩,z4⟩:=MF (o:=Ge.length+1) q1 (by omega)
   have ow2:fq G st (false,9002) b2:=⟨⟨_,c2⟩,B2⟩;have ow3:fq G st (false,9003) b3:=⟨⟨_,c3⟩,B3⟩;have hb:b2≠b3:=fun e=>by subst e;have:=hm.qw _ _ _ ow2 ow3;simp at this
   have k2:=(hm.ua _ _ ow2).resolve_left (jK _);have k3:=(hm.ua _ _ ow3).resolve_left (jK _);have lt2:=gn o1;have lt3:=gn q1;rw[h4];refine leaves_cons (f:=70) (args:=#[.pointer (some ⟨b2,O6.length,none⟩),.pointer (some ⟨b3,Ge.length,none⟩)]) (by simp) (by simp[go_sem,invoke,call70]) ?_
   refine(Lg b2 O6.length b3 Ge.length c a x2 x3 x4 [] w hb lt2 lt3 f2 z2 f3 z3 f4 z4).mono ?_;rintro e u' w'' ⟨rfl,rfl,rfl⟩;have bel:Below X.w0.heap.size w ((((w.alloc (.cells #[.int .i64 c,.int .i64 a] 128)).setCell ⟨b2,O6.length,none⟩ (.slice none 0 0)).setCell ⟨b3,Ge.length,none⟩ (.int .i64 c)).setCell ⟨b3,Ge.length+1,none⟩ (.int .i64 a)).drew:=
    (((((Below.refl _ w).alloc hm.sz _).setCell k2 _).setCell k3 _).setCell k3 _).drew
   have hb':b3≠b2:=fun e=>hb e.symm;have g2:((((w.alloc (.cells #[.int .i64 c,.int .i64 a] 128)).setCell ⟨b2,O6.length,none⟩ (.slice none 0 0)).setCell ⟨b3,Ge.length,none⟩ (.int .i64 c)).setCell ⟨b3,Ge.length+1,none⟩ (.int .i64 a)).drew.cell? ⟨b2,O6.length,none⟩=some (.slice none 0 0):=by show((((w.alloc (.cells #[.int .i64 c,.int .i64 a] 128)).setCell ⟨b2,O6.length,none⟩ (.slice none 0 0)).setCell ⟨b3,Ge.length,none⟩ (.int .i64 c)).setCell ⟨b3,Ge.length+1,none⟩ (.int .i64 a)).cell? ⟨b2,O6.length,none⟩=_;exact(sco (.inl hb')).trans ((sco (.inl hb')).trans (cka _ _ _ ((bMa _ _ _ lt2).trans f2)))
   have g3:((((w.alloc (.cells #[.int .i64 c,.int .i64 a] 128)).setCell ⟨b2,O6.length,none⟩ (.slice none 0 0)).setCell ⟨b3,Ge.length,none⟩ (.int .i64 c)).setCell ⟨b3,Ge.length+1,none⟩ (.int .i64 a)).drew.cell? ⟨b3,Ge.length,none⟩=some (.int .i64 c):=by show((((w.alloc (.cells #[.int .i64 c,.int .i64 a] 128)).setCell ⟨b2,O6.length,none⟩ (.slice none 0 0)).setCell ⟨b3,Ge.length,none⟩ (.int .i64 c)).setCell ⟨b3,Ge.length+1,none⟩ (.int .i64 a)).cell? ⟨b3,Ge.length,none⟩=_;exact(sco (.inr (Nat.succ_ne_self _))).trans (cka _ _ _ ((sco (.inl hb)).trans ((bMa _ _ _ lt3).trans f3)))
   have g4:((((w.alloc (.cells #[.int .i64 c,.int .i64 a] 128)).setCell ⟨b2,O6.length,none⟩ (.slice none 0 0)).setCell ⟨b3,Ge.length,none⟩ (.int .i64 c)).setCell ⟨b3,Ge.length+1,none⟩ (.int .i64 a)).drew.cell? ⟨b3,Ge.length+1,none⟩=some (.int .i64 a):=by show((((w.alloc (.cells #[.int .i64 c,.int .i64 a] 128)).setCell ⟨b2,O6.length,none⟩ (.slice none 0 0)).setCell ⟨b3,Ge.length,none⟩ (.int .i64 c)).setCell ⟨b3,Ge.length+1,none⟩ (.int .i64 a)).cell? ⟨b3,Ge.length+1,none⟩=_;exact cka _ _ _ ((sco (.inr (Nat.succ_ne_self _).symm)).trans ((sco (.inl hb)).trans ((bMa _ _ _ lt3).trans f4)))
   generalize ((((w.alloc (.cells #[.int .i64 c,.int .i64 a] 128)).setCell ⟨b2,O6.length,none⟩ (.slice none 0 0)).setCell ⟨b3,Ge.length,none⟩ (.int .i64 c)).setCell ⟨b3,Ge.length+1,none⟩ (.int .i64 a)).drew=W at *;refine⟨_,?_,hR c a W rfl bel⟩;rw[aCa] at h2 h3;simp[results,results41,go_sem,h2,h3,g2,g3,g4]
 ·cases hk
theorem SV(k:Nat):ld prog gt 41 (KI k):=by
 refine⟨?_,BH _ _ _ _,xW _ _ _ _⟩;have hE:=(DD k).ok;intro R r X st G w dst args vs K KP hr zt hm _ ha;simp only[KI,Az] at hr;split at hr
 ·rename_i wR hs
  split at hr
  ·rename_i d hd
   obtain⟨y,hx,hr⟩:=ata.1 hr;obtain⟨G1,m1,a1,k1⟩:=zf hs hm;have BM:nL gt (SI G1.S w).S0:=zt.mono m1.s0;have hdr:=D5 m1 hd (ha.imp fun a v h=>h.sub a1);rw[aex] at hx;refine⟨call41 _ _,calls_of_wp_defers func41 abu ?_⟩;have sk:∀{s:St} {G3:Gh} {w3:World} {act:Act},aB (SI G1.S w) s G3 w3→bQ G3 s act→O8 (DD k).e f41.results.toList ptR s=some y→∃ v,(results f41 act.tmps).run prog w3=.ok v w3∧∃ av st' G',aB X st' G' w3∧(∀ act,bQ G st act→bQ G' st' act)∧aU G' av v∧K av st' = some r:=
    fun m3 r3 JU=>TV hE hm m1 a1 k1 hr m3 r3 JU
   refine wp_seq (z6 hE BM (sqA q0) (wd (l:=[]) (by kernel_rfl) trivial) hx (Vi m1.sh _ _ _) (MO hdr (n:=28) (aZa rfl)) (fun e s G2 w2 Sn m2 r2 k2=>?_) (fun av v s G3 w' act m3 r3 hv hk=>by cases hk))
   cases e with
   |normal=>
    refine wp_seq (z6 hE BM (sqA q1) (wd (l:=[]) (by kernel_rfl) trivial) k2 m2 r2 (fun e s G2 w2 Sn m2 r2 k2=>?_) (fun av v s G3 w' act m3 r3 hv hk=>by cases hk))
    cases e with
    |normal=>
     refine wp_seq (z6 hE BM (sqA q2) (wd (l:=[]) (by kernel_rfl) trivial) k2 m2 r2 (fun e s G2 w2 Sn m2 r2 k2=>?_) (fun av v s G3 w' act m3 r3 hv hk=>by cases hk))
     cases e with
     |ret=>show Leaves _ _ Sn.tmps _ Sn.defers .returning w2;rw[r2.1.trans m2.ds];exact sk m2 r2 k2
     |normal=>
      refine wp_seq (z6 hE BM (sqA q3) (wd (l:=[]) (by kernel_rfl) trivial) k2 m2 r2 (fun e s G2 w2 Sn m2 r2 k2=>?_) (fun av v s G3 w' act m3 r3 hv hk=>by cases hk))
      cases e with
      |normal=>
       have k2:(bif Wt s then tB (DD k).e (sqA q5) s (XK k) ptP else none)=some y:=k2
       cases hc:Wt s with
       |false=>rw[hc] at k2;cases k2
       |true=>
        rw[hc] at k2;have k2:tB (DD k).e (sqA q5) s (XK k) ptP=some y:=k2;simp only[Wt,Q3] at hc;obtain⟨⟨⟨⟨⟨c20,cn⟩,c2⟩,c3⟩,d2⟩,d3⟩:=hc;have cn:=Q4 cn;obtain⟨l2,d2,_⟩:=LU d2;obtain⟨l3,d3,_⟩:=LU d3;have p2:Sn.tmps.getD 2 undef=.pointer (some ⟨G2.φ 9002,(G2.pre 9002).length,none⟩):=r2.2.2 2 _ (S7 c2);have p3:Sn.tmps.getD 3 undef=.pointer (some ⟨G2.φ 9003,(G2.pre 9003).length,none⟩):=r2.2.2 3 _ (S7 c3);have m9:Sn.tmps.size=28:=r2.2.1.trans cn;refine wp_seq (YA m9 ?_);rw[p2,p3,r2.1.trans m2.ds];have m4:=m2.aac [⟨.fn (.func 70) #[.pointer (some ⟨G2.φ 9002,(G2.pre 9002).length,none⟩),.pointer (some ⟨G2.φ 9003,(G2.pre 9003).length,none⟩)],#[]⟩] (ZY (G2.φ 9002) (G2.φ 9003) (G2.pre 9002) (G2.post 9002) (G2.pre 9003) (G2.post 9003)) abs (fun o q hq=>by
         unfold ZY at hq;split at hq
         ·rename_i e;subst e;cases hq;exact⟨⟨_,d2⟩,rfl⟩
         ·split at hq
          ·rename_i e;subst e;cases hq;exact⟨⟨_,d3⟩,rfl⟩
          ·cases hq)
        have agM:∀ i v,s.iz i=some v→¬ 20=i:=fun i v hv e=>by subst e;rw[hv] at c20;cases c20
        refine wp_seq (abw k (b2:=G2.φ 9002) (o2:=(G2.pre 9002).length) (b3:=G2.φ 9003) (o3:=(G2.pre 9003).length) (by exact BM) k2 m4 ⟨rfl,by simpa using r2.2.1,fun i v hv=>?_⟩ ⟨by simpa using m9,?_,?_,rfl⟩ (fun s5 G5 w5 af6 m5 r5 pa5 k5=>?_) (fun av v s5 G5 w5 af6 m5 pa5 hv k5=>?_))
        ·simp only[aCa]
         rw[bta (agM i v hv)];exact Gh.aee (by have:=r2.2.2 i v hv;rwa[aCa] at this)
        ·rw[←p2];simp only[aCa];rw[bta (by decide)]
        ·rw[←p3];simp only[aCa];rw[bta (by decide)]
        ·refine z6 hE (by exact BM) (sqB q5) (wd (l:=[]) (by kernel_rfl) trivial) k5 m5 r5 (fun e s7 G7 w7 acS m7 r7 k7=>?_) (fun av v s G3 w' act m3 r3 hv hk=>by cases hk)
         have done:O8 (DD k).e f41.results.toList ptR s7=some y→Leaves prog f41 acS.tmps (fun e w'=>match e with
           |.returned v=>∃ av st' G',aB X st' G' w'∧(∀ act,bQ G st act→bQ G' st' act)∧aU G' av v∧K av st' = some r
           |.panicked If=>∃ v,If=[{v,recovered:=false}]∧∃ av st' G',aB X st' G' w'∧aU G' av v∧KP av st' = some r
           |.outgrown=>False) acS.defers .returning w7:=fun k7=>by
          rw[r7.1.trans m7.ds];refine leaves_cons (f:=70) (args:=#[.pointer (some ⟨G2.φ 9002,(G2.pre 9002).length,none⟩),.pointer (some ⟨G2.φ 9003,(G2.pre 9003).length,none⟩)]) (by simp) (by simp[go_sem,invoke,call70]) ((Uy _ _ w7).mono ?_)
          rintro e u' w' ⟨rfl,rfl,rfl⟩;have bel:=(Below.refl w7.heap.size w7).alloc (axa _) (.cells #[.int .i64 0,.int .i64 0] 128);have m8:=(m7.adb bel.block bel.size bel.os bel.tape bel.output).aac [] (fun _=>none) (fun _ _ h=>by cases h) (fun _ _ h=>by cases h)
          exact sk (act:={acS with defers:=[]}) m8 ⟨rfl,r7.2.1,fun i v h=>Gh.aee (r7.2.2 i v h)⟩ k7
         cases e with
         |normal=>exact done k7
         |ret=>exact done k7
         |_=>cases k7
        ·refine abx (po2:=G2.post 9002) (po3:=G2.post 9003) (fun o q h=>h) (fun b h=>h) m5 pa5 hv k5 (fun c a w' hy bel=>?_)
         subst hy;refine⟨TF ptR ([],(c,a),()),wR,G1,m1.adb (fun b hb=>(bel.block b hb).trans (m5.fr b hb (fun h=>h))) (bGa m5.sz bel.size) (bel.os.trans m5.os) (bel.tape.trans m5.tp) (bel.output.trans m5.out),fun act ra=>Bo k1 a1 ra,?_,hr⟩;exact L8 (rs:=ptR) (vs:=[.slice none 0 0,.agg #[.int .i64 c,.int .i64 a]]) ⟨⟨_,rfl,rfl,.inl ⟨rfl,none,0,rfl⟩⟩,⟨[.int .i64 c,.int .i64 a],rfl,[.int .i64 c],[.int .i64 a],[],[],rfl,rfl,⟨rfl,rfl⟩,⟨rfl,rfl⟩⟩,trivial⟩
      |_=>cases k2
     |_=>cases k2
    |_=>cases k2
   |_=>cases k2
  ·cases hr
 ·cases hr
def SA(k:Nat):Cl bw:=⟨_,_,SV k⟩
end
end Go.Fx.R5
namespace Go.Fx.R5
open Go Go.Fx Go.Proofs Go.Proofs.Tryz
noncomputable section
def pz(q:Nat):Nat→XN→XA→XS→XF→XF→Int→XI→XI→Int→Option (XI×XI×Unit)
 |0,_,_,_,_,_,_,_,_,_=>none
 |k+1,aA,gL,gD,jS,aaw,T8,mC,jU,N8=>
  bif decide (N8<T8) then
   (bL aaw N8).bind fun x1=>
   (gB q aA gL gD jS mC jU [] [] [] [] [] [] [] x1 x1.2.2.2.2).bind fun r3=>
   pz q k aA gL gD jS aaw T8 r3.1 r3.2.1 (bC (N8+1))
  else
   some (mC,jU,())
def pA(q:Nat):Nat→XN→XA→XS→XF→XI→XI→Int→Int→XI→XI→XB→XE→XQ→Int→Option (Int×XI×XI×XB×XE×XQ×Unit)
 |0,_,_,_,_,_,_,_,_,_,_,_,_,_,_=>none
 |k+1,aA,gL,gD,jS,mC,jU,afO,fn,im,jb,lG,gT,laid,ad8=>
  bif decide (ad8<afO) then
   (rV q im jb lG gT laid aA gL gD jS mC jU [] [] [] [] [] [] [] ad8).bind fun r3=>
   pA q k aA gL gD jS mC jU afO r3.1 r3.2.1 r3.2.2.1 r3.2.2.2.1 r3.2.2.2.2.1 r3.2.2.2.2.2.1 (bC (ad8+1))
  else
   some (fn,im,jb,lG,gT,laid,())
def pB(q:Nat):Nat→XE→Int→XL→Int→Option (XL×Unit)
 |0,_,_,_,_=>none
 |k+1,acK,acL,out,WK=>
  bif decide (WK<acL) then
   (bL acK WK).bind fun x1=>
   (bL out x1.1).bind fun x2=>
   (bL out (x1.1.toNat:Int)).bind fun x3=>
   (bL out (x1.1.toNat:Int)).bind fun e=>
   (bE e ([WK])).bind fun l5=>
   (bL out x1.1).bind fun x4=>
   bif Nat.beq x1.1.toNat x1.1.toNat&&true then
    pB q k acK acL (List.set out x1.1.toNat l5) (bC (WK+1))
   else
    none
  else
   some (out,())
def tK(k:Nat)(ce:ab):Option (((XN×XA×XS×XF×XI×XI×XI×XI×XB×XE×XQ×XL×XB×(Int×Int)×Unit)⊕((Int×Int)×Unit))):=
 (pE k ce).bind fun r1=>
 bif r1.2.1.1 != 0 then
  some (.inr (r1.2.1,()))
 else
  (je k r1.1).bind fun r2=>
  bif r2.2.1.1 != 0 then
   some (.inr (r2.2.1,()))
  else
   (mkl (r1.1.length:Int) (0:Int)).bind fun z=>
   (sub z 0 (r1.1.length:Int)).bind fun l=>
   (mkl (r1.1.length:Int) (0:Int)).bind fun z2=>
   (sub z2 0 (r1.1.length:Int)).bind fun l2=>
   (pz k k r1.1 r2.1.1 r2.1.2.1 r2.1.2.2 r2.1.2.2 (r2.1.2.2.length:Int) l l2 0).bind fun o=>
   (mkl (r1.1.length:Int) ((0,0,0,0):Int×Int×Int×Int)).bind fun z3=>
   (sub z3 0 (r1.1.length:Int)).bind fun l3=>
   (pA k k r1.1 r2.1.1 r2.1.2.1 r2.1.2.2 o.1 o.2.1 (r2.1.2.2.length:Int) 0 [] [] [] [] l3 0).bind fun o2=>
   (mkl (o2.2.1.length:Int) ([]:XI)).bind fun z4=>
   (sub z4 0 (o2.2.1.length:Int)).bind fun l4=>
   (pB k k o2.2.2.2.2.1 (o2.2.2.2.2.1.length:Int) l4 0).bind fun o3=>
   (vK k r2.1.2.2 o2.2.1 o2.2.2.2.2.1).bind fun r3=>
   some (.inl (r1.1,r2.1.1,r2.1.2.1,r2.1.2.2,o.1,o.2.1,o2.2.1,o2.2.2.1,o2.2.2.2.1,o2.2.2.2.2.1,o2.2.2.2.2.2.1,o3.1,r3.1,(0,0),()))
def Ef(k:Nat):mS:=⟨⟨138,[(35,3),(37,2),(93,13)],[lD 35 0 sA,lD 35 1 sS,lD 35 2 sF,lI 37 0,lI 37 1,lD 93 0 sN,lD 93 1 sA,lD 93 2 sS,lD 93 3 sF,lN 93 6,lN 93 7,lN 93 8,lN 93 9,lN 93 10,lN 93 11,lN 93 12,rP 3 37,rD 4 sN,rP 6 35,rP 7 93,rD 49 sF,rI 50],[lF 93 4 I,lF 93 5 I,rI 51],[]⟩,[.ex (.exit 0) [lF 93 4 I,lF 93 5 I]],fun q c v=>pz k q c.2.2.2.2.2.1 c.2.2.2.2.2.2.1 c.2.2.2.2.2.2.2.1 c.2.2.2.2.2.2.2.2.1 c.2.2.2.2.2.2.2.2.2.2.2.2.2.2.2.2.2.2.2.2.1 c.2.2.2.2.2.2.2.2.2.2.2.2.2.2.2.2.2.2.2.2.2.1 v.1 v.2.1 v.2.2.1⟩
def Eg(k:Nat):mS:=⟨⟨138,[(35,3),(37,2),(93,13),(97,7)],[lD 35 0 sA,lD 35 1 sS,lD 35 2 sF,lI 37 0,lI 37 1,lD 93 0 sN,lD 93 1 sA,lD 93 2 sS,lD 93 3 sF,lF 93 4 I,lF 93 5 I,lN 93 6,lN 93 7,lN 93 8,lN 93 9,lN 93 10,lN 93 11,lN 93 12,(.l 97 0,.lit (.lB 93 0)),rP 3 37,rP 7 93,rP 10 97,rI 69],[lI 97 1,lF 97 2 I,lF 97 3 I,lF 97 4 .bool,lF 97 5 tE,lF 97 6 tQ,rI 70],[]⟩,[.ex (.exit 2) [lI 97 1,lF 97 2 I,lF 97 3 I,lF 97 4 .bool,lF 97 5 tE,lF 97 6 tQ]],fun q c v=>pA k q c.2.2.2.2.2.1 c.2.2.2.2.2.2.1 c.2.2.2.2.2.2.2.1 c.2.2.2.2.2.2.2.2.1 c.2.2.2.2.2.2.2.2.2.1 c.2.2.2.2.2.2.2.2.2.2.1 c.2.2.2.2.2.2.2.2.2.2.2.2.2.2.2.2.2.2.2.2.2.2.1 v.1 v.2.1 v.2.2.1 v.2.2.2.1 v.2.2.2.2.1 v.2.2.2.2.2.1 v.2.2.2.2.2.2.1⟩
def Eh(k:Nat):mS:=⟨⟨138,[(35,3),(37,2),(93,13),(97,7)],[lD 35 0 sA,lD 35 1 sS,lD 35 2 sF,lI 37 0,lI 37 1,lD 93 0 sN,lD 93 1 sA,lD 93 2 sS,lD 93 3 sF,lF 93 4 I,lF 93 5 I,lD 93 6 sI,lD 93 7 sI,lD 93 8 sB,lD 93 9 sE,lD 93 10 sQ,lN 93 12,(.l 97 0,.lit (.lB 93 0)),lI 97 1,lD 97 2 sI,lD 97 3 sI,lD 97 4 sB,lD 97 5 sE,lD 97 6 sQ,rP 3 37,rP 7 93,rD 105 sE,rI 106],[lU 93 11 sI,rI 107],[]⟩,[.ex (.exit 4) [lU 93 11 sI]],fun q c v=>pB k q c.2.2.2.2.2.2.2.2.2.2.2.2.2.2.2.2.2.2.2.2.2.2.2.2.2.2.1 c.2.2.2.2.2.2.2.2.2.2.2.2.2.2.2.2.2.2.2.2.2.2.2.2.2.2.2.1 v.1 v.2.1⟩
def zx(k:Nat):Ev bw:=⟨[SA k,K5 k,FB k,Dj k,KZ k],[lp 0 (Ef k) k,lp 2 (Eg k) k,lp 4 (Eh k) k],[(3,37),(6,35),(35,93),(66,97),(98,9999)]⟩
def Mf(k q:Nat):Cd bw:=oM (zx k) f23 0 (Ef k) q []
def Mg(k q:Nat):Cd bw:=oM (zx k) f23 2 (Eg k) q []
def Mh(k q:Nat):Cd bw:=oM (zx k) f23 4 (Eh k) q []
def Sx(k:Nat):Cl bw:=lO (zx k) 23 f23 func23 call23 [500000,500001] ⟨⟨138,[],[],[rD 0 .str],[]⟩,[.ret [rP 500000 93,lD 93 0 sN,lD 93 1 sA,lD 93 2 sS,lD 93 3 sF,lF 93 4 I,lF 93 5 I,lD 93 6 sI,lD 93 7 sI,lD 93 8 sB,lD 93 9 sE,lD 93 10 sQ,lD 93 11 sL,lD 93 12 sB,rD 500001 tP] [(93,13,93)],.ret [(.r 500000,.lit .J7),rD 500001 tP] []],fun c v=>tK k v.1⟩ [Mf k k,Mg k k,Mh k k]
def mA(q:Nat):Nat→XA→Int→XI→Int→Option (XI×Unit)
 |0,_,_,_,_=>none
 |k+1,XX,afC,Qs,LL=>
  bif decide (LL<afC) then
   (bL XX LL).bind fun x1=>
   (bE Qs ([(bC (x1.2 - 1)),x1.2])).bind fun l=>
   mA q k XX afC l (bC (LL+1))
  else
   some (Qs,())
def mB(q:Nat):Nat→XN→Int→XI→Int→Option (XI×Unit)
 |0,_,_,_,_=>none
 |k+1,aat,Vn,Qs,ad6=>
  bif decide (ad6<Vn) then
   aa (fun(ad2:XI)=>
    mB q k aat Vn ad2 (bC (ad6+1))) fun cJ=>
   (bL aat ad6).bind fun x1=>
   bif x1.1==24 then
    (bE Qs ([(bC (x1.2.2.1 - 1)),x1.2.2.1,(bC (x1.2.2.1+1)),(bC ((bC (0 - x1.2.2.1)) - 1)),(bC (0 - x1.2.2.1)),(bC (1 - x1.2.2.1))])).bind fun l=>
    cJ l
   else
    cJ Qs
  else
   some (Qs,())
def rp(k:Nat)(aA:XN)(aH:XA):Option (XI×Unit):=
 (mA k k aH (aH.length:Int) [] 0).bind fun o=>
 (mB k k aA (aA.length:Int) o.1 0).bind fun o2=>
 some (o2.1,())
def uU(k:Nat):mS:=⟨⟨59,[(93,13)],[lD 93 0 sN,lD 93 1 sA,lD 93 2 sS,lD 93 3 sF,lF 93 4 I,lF 93 5 I,lD 93 6 sI,lD 93 7 sI,lD 93 8 sB,lD 93 9 sE,lD 93 10 sQ,lD 93 11 sL,lD 93 12 sB,rP 0 93,rD 13 sA,rI 14],[(.r 3,.h .eL I),rI 15],[]⟩,[.ex (.exit 0) [(.r 3,.h .eL I)]],fun q c v=>mA k q c.2.2.2.2.2.2.2.2.2.2.2.2.2.2.1 c.2.2.2.2.2.2.2.2.2.2.2.2.2.2.2.1 v.1 v.2.1⟩
def uV(k:Nat):mS:=⟨⟨59,[(93,13)],[lD 93 0 sN,lD 93 1 sA,lD 93 2 sS,lD 93 3 sF,lF 93 4 I,lF 93 5 I,lD 93 6 sI,lD 93 7 sI,lD 93 8 sB,lD 93 9 sE,lD 93 10 sQ,lD 93 11 sL,lD 93 12 sB,rD 31 sN,rI 32],[(.r 3,.h .eL I),rI 33],[]⟩,[.ex (.exit 2) [(.r 3,.h .eL I)]],fun q c v=>mB k q c.2.2.2.2.2.2.2.2.2.2.2.2.2.1 c.2.2.2.2.2.2.2.2.2.2.2.2.2.2.1 v.1 v.2.1⟩
def tq(k:Nat):Ev bw:=⟨[],[lp 0 (uU k) k,lp 2 (uV k) k],[]⟩
def Dc(k q:Nat):Cd bw:=oM (tq k) f24 0 (uU k) q []
def Dd(k q:Nat):Cd bw:=oM (tq k) f24 2 (uV k) q []
def GO(k:Nat):Cl bw:=lO (tq k) 24 f24 func24 call24 [500000] ⟨⟨59,[(93,13)],[lD 93 0 sN,lD 93 1 sA,lD 93 2 sS,lD 93 3 sF,lF 93 4 I,lF 93 5 I,lD 93 6 sI,lD 93 7 sI,lD 93 8 sB,lD 93 9 sE,lD 93 10 sQ,lD 93 11 sL,lD 93 12 sB],[rP 0 93],[]⟩,[.ret [(.r 500000,.h .eL I)] []],fun c v=>rp k c.1 c.2.1⟩ [Dc k k,Dd k k]
def ro(k:Nat)(ce:ab):Option (XI×Unit):=
 (tK k ce).bind fun r=>match r with
 |.inl r1=>
  bif r1.2.2.2.2.2.2.2.2.2.2.2.2.2.1.1 != 0 then
   some ([],())
  else
   (rp k r1.1 r1.2.1).bind fun r3=>
   some (r3.1,())
 |.inr r2=>
  bif r2.1.1 != 0 then
   some ([],())
  else
   none
def GN(k:Nat):Cl bw:=lO ⟨[Sx k,GO k],[],[(4,37)]⟩ 8 f8 func8 call8 [500000] ⟨⟨15,[],[],[rD 0 .str],[]⟩,[.ret [(.r 500000,.h .eL I)] []],fun c v=>ro k v.1⟩ []
def Ab(code:XI):Option (XI×Int×Unit):=
 aa (fun(aes:XI)=>
  some (aes,0,())) fun cJ=>
 bif decide ((code.length:Int) > 2000) then
  (sub code 0 2000).bind fun l=>
  cJ l
 else
  cJ code
def Oz:Cl bw:=lO ⟨[],[],[(10,118)]⟩ 37 f37 func37 call37 [500000] ⟨⟨11,[],[],[rD 0 (.slice U)],[]⟩,[.ret [rP 500000 118,lD 118 0 (.slice U),lI 118 1] [(118,2,118)]],fun c v=>Ab v.1⟩ []
def aI(b:XI)(p n:Int):Option (Int×Int×Unit):=
 aa (fun(v:Bool)=>
  bif v then
   some (0,(bC (p+1)),())
  else
   bif decide ((bC ((bC (p+1)) - 1))<(b.length:Int)) then
    (bL b (bC ((bC (p+1)) - 1))).bind fun x1=>
    bif decide (n=0) then
     none
    else
     some (((bC (x1)).tmod n),(bC (p+1)),())
   else
    bif decide ((b.length:Int)=0) then
     none
    else
     (bL b ((bC ((bC (p+1)) - 1)).tmod (b.length:Int))).bind fun x2=>
     bif decide ((b.length:Int)=0) then
      none
     else
      (bL b ((bC ((bC ((bC ((bC (p+1)) - 1)) * 7))+3)).tmod (b.length:Int))).bind fun x3=>
      bif decide ((b.length:Int)=0) then
       none
      else
       bif decide (n=0) then
        none
       else
        some (((Pf .xor .i64 (bC ((bC ((bC ((bC ((bC (x2)) * 131))+(bC ((bC (x3)) * 1117))))+(bC ((bC ((bC (p+1)) - 1)) * 29))))+(bC ((bC ((bC ((bC (p+1)) - 1)).tdiv (b.length:Int))) * 53)))) (bC ((bC ((bC ((bC ((bC ((bC (x2)) * 131))+(bC ((bC (x3)) * 1117))))+(bC ((bC ((bC (p+1)) - 1)) * 29))))+(bC ((bC ((bC ((bC (p+1)) - 1)).tdiv (b.length:Int))) * 53)))).tdiv 64))).tmod n),(bC (p+1)),())) fun cJ=>
 bif decide (n<1) then
  cJ true
 else
  cJ ((b.length:Int)==0)
def fF:Cl bw:=lO ⟨[],[],[]⟩ 38 f38 func38 call38 [500000] ⟨⟨99,[(118,2)],[lD 118 0 (.slice U)],[rP 0 118,rI 1,lI 118 1],[]⟩,[.ret [rI 500000,lI 118 1] []],fun c v=>aI c.1 v.2.2.1 v.2.1⟩ []
def Cs(b:XI)(p:Int):Option (ab×Int×Unit):=
 (aI b p 30).bind fun r1=>
 (bL ([([102,117,110,99,32,109,97,105,110,40,41,32,123,32,118,97,114,32,120,44,32,120,59,32,125]:ab),([118,97,114,32,109,97,105,110,59,32,102,117,110,99,32,109,97,105,110,40,41,32,123,32,125]:ab),([97,114,114,97,121,32,97,91,48,93,59,32,102,117,110,99,32,109,97,105,110,40,41,32,123,32,125]:ab),([97,114,114,97,121,32,97,91,54,53,93,59,32,102,117,110,99,32,109,97,105,110,40,41,32,123,32,125]:ab),([102,117,110,99,32,102,40,41,32,123,32,125]:ab),([102,117,110,99,32,109,97,105,110,40,120,41,32,123,32,125]:ab),([102,117,110,99,32,109,97,105,110,40,41,32,123,32,120,32,61,32,49,59,32,125]:ab),([102,117,110,99,32,109,97,105,110,40,41,32,123,32,118,97,114,32,120,59,32,120,32,61,32,121,59,32,125]:ab),([97,114,114,97,121,32,97,91,50,93,59,32,102,117,110,99,32,109,97,105,110,40,41,32,123,32,97,32,61,32,49,59,32,125]:ab),([102,117,110,99,32,109,97,105,110,40,41,32,123,32,114,101,102,32,112,59,32,112,32,61,32,49,59,32,125]:ab),([102,117,110,99,32,109,97,105,110,40,41,32,123,32,114,101,102,32,112,59,32,118,97,114,32,120,59,32,120,32,61,32,112,59,32,125]:ab),([102,117,110,99,32,109,97,105,110,40,41,32,123,32,114,101,102,32,112,59,32,118,97,114,32,120,59,32,112,32,61,32,120,59,32,125]:ab),([102,117,110,99,32,109,97,105,110,40,41,32,123,32,118,97,114,32,120,59,32,120,32,61,32,110,117,108,108,59,32,125]:ab),([102,117,110,99,32,109,97,105,110,40,41,32,123,32,118,97,114,32,105,59,32,102,111,114,32,105,32,61,32,48,32,46,46,32,51,32,123,32,105,32,61,32,49,59,32,125,32,125]:ab),([102,117,110,99,32,109,97,105,110,40,41,32,123,32,118,97,114,32,105,59,32,102,111,114,32,105,32,61,32,48,32,46,46,32,51,32,123,32,102,111,114,32,105,32,61,32,48,32,46,46,32,50,32,123,32,125,32,125,32,125]:ab),([118,97,114,32,103,59,32,102,117,110,99,32,109,97,105,110,40,41,32,123,32,102,111,114,32,103,32,61,32,48,32,46,46,32,51,32,123,32,125,32,125]:ab),([102,117,110,99,32,102,40,97,41,32,123,32,114,101,116,117,114,110,32,97,59,32,125,32,102,117,110,99,32,109,97,105,110,40,41,32,123,32,118,97,114,32,120,59,32,120,32,61,32,102,40,41,59,32,125]:ab),([102,117,110,99,32,102,40,97,41,32,123,32,114,101,116,117,114,110,32,97,59,32,125,32,102,117,110,99,32,109,97,105,110,40,41,32,123,32,118,97,114,32,120,59,32,120,32,61,32,102,40,49,44,32,50,41,59,32,125]:ab),([102,117,110,99,32,109,97,105,110,40,41,32,123,32,118,97,114,32,120,59,32,120,32,61,32,103,40,49,41,59,32,125]:ab),([102,117,110,99,32,109,97,105,110,40,41,32,123,32,118,97,114,32,97,44,32,98,44,32,99,44,32,100,44,32,101,44,32,102,44,32,103,44,32,104,44,32,105,59,32,125]:ab),([102,117,110,99,32,109,97,105,110,40,41,32,123,32,114,101,102,32,97,44,32,98,44,32,99,44,32,100,59,32,125]:ab),([102,117,110,99,32,102,40,97,44,32,98,44,32,99,44,32,100,41,32,123,32,125,32,102,117,110,99,32,109,97,105,110,40,41,32,123,32,125]:ab),([118,97,114,32,97,59,32,118,97,114,32,98,59,32,118,97,114,32,99,59,32,118,97,114,32,100,59,32,118,97,114,32,101,59,32,102,117,110,99,32,109,97,105,110,40,41,32,123,32,125]:ab),([97,114,114,97,121,32,97,91,49,93,59,32,97,114,114,97,121,32,98,91,49,93,59,32,97,114,114,97,121,32,99,91,49,93,59,32,97,114,114,97,121,32,100,91,49,93,59,32,97,114,114,97,121,32,101,91,49,93,59,32,102,117,110,99,32,109,97,105,110,40,41,32,123,32,125]:ab),([118,97,114,32,103,59,32,102,117,110,99,32,109,97,105,110,40,41,32,123,32,118,97,114,32,103,59,32,125]:ab),([102,117,110,99,32,109,97,105,110,40,41,32,123,32,118,97,114,32,105,59,32,102,111,114,32,105,32,61,32,48,32,46,46,32,51,32,123,32,114,101,97,100,32,105,59,32,125,32,125]:ab),([97,114,114,97,121,32,97,91,51,93,59,32,102,117,110,99,32,109,97,105,110,40,41,32,123,32,114,101,102,32,112,59,32,112,32,61,32,38,112,91,49,93,59,32,125]:ab),([97,114,114,97,121,32,97,91,51,93,59,32,102,117,110,99,32,109,97,105,110,40,41,32,123,32,118,97,114,32,120,59,32,42,120,32,61,32,49,59,32,125]:ab),([102,117,110,99,32,109,97,105,110,40,41,32,123,32,112,114,105,110,116,32,102,59,32,125]:ab),([102,117,110,99,32,97,40,41,32,123,32,125,32,102,117,110,99,32,98,40,41,32,123,32,125,32,102,117,110,99,32,99,40,41,32,123,32,125,32,102,117,110,99,32,100,40,41,32,123,32,125,32,102,117,110,99,32,101,40,41,32,123,32,125,32,102,117,110,99,32,102,40,41,32,123,32,125,32,102,117,110,99,32,109,97,105,110,40,41,32,123,32,125]:ab)]) r1.1).bind fun x1=>
 (bL ([([102,117,110,99,32,109,97,105,110,40,41,32,123,32,118,97,114,32,120,44,32,120,59,32,125]:ab),([118,97,114,32,109,97,105,110,59,32,102,117,110,99,32,109,97,105,110,40,41,32,123,32,125]:ab),([97,114,114,97,121,32,97,91,48,93,59,32,102,117,110,99,32,109,97,105,110,40,41,32,123,32,125]:ab),([97,114,114,97,121,32,97,91,54,53,93,59,32,102,117,110,99,32,109,97,105,110,40,41,32,123,32,125]:ab),([102,117,110,99,32,102,40,41,32,123,32,125]:ab),([102,117,110,99,32,109,97,105,110,40,120,41,32,123,32,125]:ab),([102,117,110,99,32,109,97,105,110,40,41,32,123,32,120,32,61,32,49,59,32,125]:ab),([102,117,110,99,32,109,97,105,110,40,41,32,123,32,118,97,114,32,120,59,32,120,32,61,32,121,59,32,125]:ab),([97,114,114,97,121,32,97,91,50,93,59,32,102,117,110,99,32,109,97,105,110,40,41,32,123,32,97,32,61,32,49,59,32,125]:ab),([102,117,110,99,32,109,97,105,110,40,41,32,123,32,114,101,102,32,112,59,32,112,32,61,32,49,59,32,125]:ab),([102,117,110,99,32,109,97,105,110,40,41,32,123,32,114,101,102,32,112,59,32,118,97,114,32,120,59,32,120,32,61,32,112,59,32,125]:ab),([102,117,110,99,32,109,97,105,110,40,41,32,123,32,114,101,102,32,112,59,32,118,97,114,32,120,59,32,112,32,61,32,120,59,32,125]:ab),([102,117,110,99,32,109,97,105,110,40,41,32,123,32,118,97,114,32,120,59,32,120,32,61,32,110,117,108,108,59,32,125]:ab),([102,117,110,99,32,109,97,105,110,40,41,32,123,32,118,97,114,32,105,59,32,102,111,114,32,105,32,61,32,48,32,46,46,32,51,32,123,32,105,32,61,32,49,59,32,125,32,125]:ab),([102,117,110,99,32,109,97,105,110,40,41,32,123,32,118,97,114,32,105,59,32,102,111,114,32,105,32,61,32,48,32,46,46,32,51,32,123,32,102,111,114,32,105,32,61,32,48,32,46,46,32,50,32,123,32,125,32,125,32,125]:ab),([118,97,114,32,103,59,32,102,117,110,99,32,109,97,105,110,40,41,32,123,32,102,111,114,32,103,32,61,32,48,32,46,46,32,51,32,123,32,125,32,125]:ab),([102,117,110,99,32,102,40,97,41,32,123,32,114,101,116,117,114,110,32,97,59,32,125,32,102,117,110,99,32,109,97,105,110,40,41,32,123,32,118,97,114,32,120,59,32,120,32,61,32,102,40,41,59,32,125]:ab),([102,117,110,99,32,102,40,97,41,32,123,32,114,101,116,117,114,110,32,97,59,32,125,32,102,117,110,99,32,109,97,105,110,40,41,32,123,32,118,97,114,32,120,59,32,120,32,61,32,102,40,49,44,32,50,41,59,32,125]:ab),([102,117,110,99,32,109,97,105,110,40,41,32,123,32,118,97,114,32,120,59,32,120,32,61,32,103,40,49,41,59,32,125]:ab),([102,117,110,99,32,109,97,105,110,40,41,32,123,32,118,97,114,32,97,44,32,98,44,32,99,44,32,100,44,32,101,44,32,102,44,32,103,44,32,104,44,32,105,59,32,125]:ab),([102,117,110,99,32,109,97,105,110,40,41,32,123,32,114,101,102,32,97,44,32,98,44,32,99,44,32,100,59,32,125]:ab),([102,117,110,99,32,102,40,97,44,32,98,44,32,99,44,32,100,41,32,123,32,125,32,102,117,110,99,32,109,97,105,110,40,41,32,123,32,125]:ab),([118,97,114,32,97,59,32,118,97,114,32,98,59,32,118,97,114,32,99,59,32,118,97,114,32,100,59,32,118,97,114,32,101,59,32,102,117,110,99,32,109,97,105,110,40,41,32,123,32,125]:ab),([97,114,114,97,121,32,97,91,49,93,59,32,97,114,114,97,121,32,98,91,49,93,59,32,97,114,114,97,121,32,99,91,49,93,59,32,97,114,114,97,121,32,100,91,49,93,59,32,97,114,114,97,121,32,101,91,49,93,59,32,102,117,110,99,32,109,97,105,110,40,41,32,123,32,125]:ab),([118,97,114,32,103,59,32,102,117,110,99,32,109,97,105,110,40,41,32,123,32,118,97,114,32,103,59,32,125]:ab),([102,117,110,99,32,109,97,105,110,40,41,32,123,32,118,97,114,32,105,59,32,102,111,114,32,105,32,61,32,48,32,46,46,32,51,32,123,32,114,101,97,100,32,105,59,32,125,32,125]:ab),([97,114,114,97,121,32,97,91,51,93,59,32,102,117,110,99,32,109,97,105,110,40,41,32,123,32,114,101,102,32,112,59,32,112,32,61,32,38,112,91,49,93,59,32,125]:ab),([97,114,114,97,121,32,97,91,51,93,59,32,102,117,110,99,32,109,97,105,110,40,41,32,123,32,118,97,114,32,120,59,32,42,120,32,61,32,49,59,32,125]:ab),([102,117,110,99,32,109,97,105,110,40,41,32,123,32,112,114,105,110,116,32,102,59,32,125]:ab),([102,117,110,99,32,97,40,41,32,123,32,125,32,102,117,110,99,32,98,40,41,32,123,32,125,32,102,117,110,99,32,99,40,41,32,123,32,125,32,102,117,110,99,32,100,40,41,32,123,32,125,32,102,117,110,99,32,101,40,41,32,123,32,125,32,102,117,110,99,32,102,40,41,32,123,32,125,32,102,117,110,99,32,109,97,105,110,40,41,32,123,32,125]:ab)]) (r1.1.toNat:Int)).bind fun x2=>
 some (x2,r1.2.1,())
def QO:Cl bw:=lO ⟨[fF],[],[]⟩ 50 f50 func50 call50 [500000] ⟨⟨8,[(118,2)],[lD 118 0 (.slice U)],[rP 0 118,lI 118 1],[]⟩,[.ret [rD 500000 .str,lI 118 1] []],fun c v=>Cs c.1 v.2.1⟩ []
abbrev ug:=Int→Option (ab×Unit)
def HZ(f:ug):iL:=Az [I] [.str] (fun d=>f d.1) id
def Gj(eA:ug)(q:Nat)(n2:Int):Option (ab×Unit):=
 (eA (bC (n2.tdiv (-10)))).bind fun r1=>
 (bE ([45]:ab) r1.1).bind fun s=>
 (bE s (List.map (fun n=>UInt8.ofNat n.toNat) ([(IntKind.u8.wrap ((bC (48 - (n2.tmod 10)))))]):ab)).bind fun s2=>
 some (s2,())
def Gk(eA:ug)(q:Nat)(n2:Int):Option (ab×Unit):=
 (eA (bC (n2.tdiv 10))).bind fun r1=>
 (bE r1.1 (List.map (fun n=>UInt8.ofNat n.toNat) ([(IntKind.u8.wrap ((bC (48+(n2.tmod 10)))))]):ab)).bind fun s2=>
 some (s2,())
def Jc(eA:ug)(k:Nat)(n:Int):Option (ab×Unit):=
 bif decide (n<(-9)) then
  (Gj eA k n).bind fun o=>
  some (o.1,())
 else
  bif decide (n<0) then
   (bE ([45]:ab) (List.map (fun n=>UInt8.ofNat n.toNat) ([(IntKind.u8.wrap ((bC (48 - n))))]):ab)).bind fun s=>
   some (s,())
  else
   bif decide (n<10) then
    some ((List.map (fun n=>UInt8.ofNat n.toNat) ([(IntKind.u8.wrap ((bC (48+n))))]):ab),())
   else
    (Gk eA k n).bind fun o2=>
    some (o2.1,())
def ny:Nat→ug
 |0=>fun _=>none
 |k+1=>Jc (ny k) k
section
variable (eA:Gd bw 80 HZ)
def C1(k:Nat):mS:=⟨⟨41,[],[rI 0],[],[]⟩,[.ex .normal [rD 2 .str]],fun q c v=>Gj eA.1 k c.1⟩
def C2(k:Nat):mS:=⟨⟨41,[],[rI 0],[],[]⟩,[.ex .normal [rD 2 .str]],fun q c v=>Gk eA.1 k c.1⟩
def BT(k:Nat):Ev bw:=⟨[eA.cl],[rg 2 (C1 eA k),rg 7 (C2 eA k)],[]⟩
def KQ(k:Nat):Cd bw:=rgC (BT eA k) f80 2 (C1 eA k) [[0,1,4,5,6,7,2,3,8,9,10,11],[0,1,4,5,6,7,8,9,2,3,10,11]]
def KR(k:Nat):Cd bw:=rgC (BT eA k) f80 7 (C2 eA k) [[0,1,3,4,5,6,2,7,8,9,10],[0,1,3,4,5,6,7,8,2,9,10]]
def Rg(k:Nat):Cl bw:=zp (BT eA k) 80 f80 func80 call80 [I] [.str] (fun d=>Jc eA.1 k d.1) [KQ eA k,KR eA k]
end
theorem F1:∀ k,ld prog gt 80 (HZ (ny k))
 |0=>UD (fun _=>rfl)
 |k+1=>(Rg ⟨_,F1 k⟩ k).ok
def xw(k:Nat):Cl bw:=⟨_,_,F1 k⟩
def bK(b:XI)(p:Int)(l:XS):Option (ab×Int×Unit):=
 bif (l.length:Int)==0 then
  some (([120]:ab),p,())
 else
  (aI b p (l.length:Int)).bind fun r1=>
  (bL l r1.1).bind fun x1=>
  some (x1,r1.2.1,())
def uh:Cl bw:=lO ⟨[fF],[],[]⟩ 141 f141 func141 call141 [500000] ⟨⟨18,[(146,5),(118,2)],[(.l 146 0,.lit (.lB 118 0)),lD 146 1 sS,lD 146 2 sS,lD 146 3 sS,lI 146 4,lD 118 0 (.slice U)],[rP 0 146,rD 1 sS,lI 118 1],[]⟩,[.ret [rD 500000 .str,lI 118 1] []],fun c v=>bK c.2.2.2.2.2.1 v.2.2.1 v.2.1⟩ []
end
end Go.Fx.R5
