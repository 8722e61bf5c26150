/- Proved here: laws.FnExactEngineSteps returns true at every input (the tied card), no condition beyond the card. -/
import Derived.Shelf.Strconv.Atoi
import Derived.Shelf.LaysM
import Derived.Shelf.Strconv.Clone
import Derived.Shelf.Strings.Prefix
import Derived.Test.YtooajghcoijkaaaGreatDoorProg
import Derived.Test.YtooajghcoijkaaaGreatDoorChecked
import Derived.WalkKit
import Derived.Recover
import Derived.Laws.Pointers
import Derived.Test.YtooajghcoijkaaaGreatDoorFc
set_option linter.unusedVariables false
set_option linter.unusedSimpArgs false
set_option linter.unusedSectionVars false
set_option maxRecDepth 100000
namespace Go.Proofs
open Go.Shelf
def Tryz.Re:Go.Shelf.Ren:=⟨fun | 172=>156 | 244=>162 | 245=>163 | 247=>171 | 279=>172 | 280=>173 | 281=>174 | 282=>175 | 287=>181 | 316=>155 | 171=>183 | 205=>182 | 321=>186 | 322=>187 | 243=>188 | 246=>190 | 283=>191 | 284=>192 | 285=>193 | 286=>194 | 129=>196 | 317=>195 | 318=>197 | 319=>198 | 320=>199 | 337=>200 | 338=>201 | n=>n,fun | 9=>9 | 3=>3 | 75=>172 | 76=>173 | 4=>4 | 5=>5 | 167=>179 | 37=>29 | 0=>0 | 85=>180 | 2=>2 | 168=>182 | 53=>187 | 175=>188 | 46=>190 | 210=>192 | 127=>177 | 145=>198 | 143=>196 | 21=>21 | 171=>201 | 173=>204 | 212=>206 | 51=>207 | 20=>20 | 213=>208 | 232=>211 | 233=>212 | 80=>114 | n=>n,fun | 15=>1 | 16=>2 | 17=>5 | 18=>6 | 19=>7 | n=>n⟩
theorem Tryz.Y0:Go.Proofs.Lays.n172 Tryz.prog Tryz.Re:={
 mixed:=by kernel_rfl
 f129:=Tryz.func196.trans (congrArg some (by kernel_rfl))
 f171:=Tryz.func183.trans (congrArg some (by kernel_rfl))
 f172:=Tryz.func156.trans (congrArg some (by kernel_rfl))
 f205:=Tryz.func182.trans (congrArg some (by kernel_rfl))
 f243:=Tryz.func188.trans (congrArg some (by kernel_rfl))
 f244:=Tryz.func162.trans (congrArg some (by kernel_rfl))
 f245:=Tryz.func163.trans (congrArg some (by kernel_rfl))
 f246:=Tryz.func190.trans (congrArg some (by kernel_rfl))
 f247:=Tryz.func171.trans (congrArg some (by kernel_rfl))
 f279:=Tryz.func172.trans (congrArg some (by kernel_rfl))
 f280:=Tryz.func173.trans (congrArg some (by kernel_rfl))
 f281:=Tryz.func174.trans (congrArg some (by kernel_rfl))
 f282:=Tryz.func175.trans (congrArg some (by kernel_rfl))
 f283:=Tryz.func191.trans (congrArg some (by kernel_rfl))
 f284:=Tryz.func192.trans (congrArg some (by kernel_rfl))
 f285:=Tryz.func193.trans (congrArg some (by kernel_rfl))
 f286:=Tryz.func194.trans (congrArg some (by kernel_rfl))
 f287:=Tryz.func181.trans (congrArg some (by kernel_rfl))
 f316:=Tryz.func155.trans (congrArg some (by kernel_rfl))
 f317:=Tryz.func195.trans (congrArg some (by kernel_rfl))
 f318:=Tryz.func197.trans (congrArg some (by kernel_rfl))
 f319:=Tryz.func198.trans (congrArg some (by kernel_rfl))
 f320:=Tryz.func199.trans (congrArg some (by kernel_rfl))
 f321:=Tryz.func186.trans (congrArg some (by kernel_rfl))
 f322:=Tryz.func187.trans (congrArg some (by kernel_rfl))
 f337:=Tryz.func200.trans (congrArg some (by kernel_rfl))
 f338:=Tryz.func201.trans (congrArg some (by kernel_rfl))
 t0:=Tryz.underlying0
 a0:=Tryz.isAgg0
 z0:=Tryz.sizeOf0
 v0:=Tryz.zeroValue0
 t2:=Tryz.underlying2
 a2:=Tryz.isAgg2
 z2:=Tryz.sizeOf2
 v2:=Tryz.zeroValue2
 t3:=Tryz.underlying3
 a3:=Tryz.isAgg3
 z3:=Tryz.sizeOf3
 v3:=Tryz.zeroValue3
 t4:=Tryz.underlying4
 a4:=Tryz.isAgg4
 z4:=Tryz.sizeOf4
 v4:=Tryz.zeroValue4
 t5:=Tryz.underlying5
 a5:=Tryz.isAgg5
 z5:=Tryz.sizeOf5
 v5:=Tryz.zeroValue5
 t9:=Tryz.underlying9
 a9:=Tryz.isAgg9
 z9:=Tryz.sizeOf9
 v9:=Tryz.zeroValue9
 t20:=Tryz.underlying20
 a20:=Tryz.isAgg20
 z20:=Tryz.sizeOf20
 v20:=Tryz.zeroValue20
 t21:=Tryz.underlying21
 a21:=Tryz.isAgg21
 z21:=Tryz.sizeOf21
 v21:=Tryz.zeroValue21
 t37:=Tryz.underlying29
 a37:=Tryz.isAgg29
 z37:=Tryz.sizeOf29
 v37:=Tryz.zeroValue29
 t46:=Tryz.underlying190
 a46:=Tryz.isAgg190
 z46:=Tryz.sizeOf190
 v46:=Tryz.zeroValue190
 t51:=Tryz.underlying207
 a51:=Tryz.isAgg207
 z51:=Tryz.sizeOf207
 v51:=Tryz.zeroValue207
 t53:=Tryz.underlying187
 a53:=Tryz.isAgg187
 z53:=Tryz.sizeOf187
 v53:=Tryz.zeroValue187
 t75:=Tryz.underlying172
 a75:=Tryz.isAgg172
 z75:=Tryz.sizeOf172
 v75:=Tryz.zeroValue172
 t76:=Tryz.underlying173
 a76:=Tryz.isAgg173
 z76:=Tryz.sizeOf173
 v76:=Tryz.zeroValue173
 t85:=Tryz.underlying180
 a85:=Tryz.isAgg180
 z85:=Tryz.sizeOf180
 v85:=Tryz.zeroValue180
 t127:=Tryz.underlying177
 a127:=Tryz.isAgg177
 z127:=Tryz.sizeOf177
 v127:=Tryz.zeroValue177
 t143:=Tryz.underlying196
 a143:=Tryz.isAgg196
 z143:=Tryz.sizeOf196
 v143:=Tryz.zeroValue196
 t145:=Tryz.underlying198
 a145:=Tryz.isAgg198
 z145:=Tryz.sizeOf198
 v145:=Tryz.zeroValue198
 t167:=Tryz.underlying179
 a167:=Tryz.isAgg179
 z167:=Tryz.sizeOf179
 v167:=Tryz.zeroValue179
 t168:=Tryz.underlying182
 a168:=Tryz.isAgg182
 z168:=Tryz.sizeOf182
 v168:=Tryz.zeroValue182
 t171:=Tryz.underlying201
 a171:=Tryz.isAgg201
 z171:=Tryz.sizeOf201
 v171:=Tryz.zeroValue201
 t173:=Tryz.underlying204
 a173:=Tryz.isAgg204
 z173:=Tryz.sizeOf204
 v173:=Tryz.zeroValue204
 t175:=Tryz.underlying188
 a175:=Tryz.isAgg188
 z175:=Tryz.sizeOf188
 v175:=Tryz.zeroValue188
 t210:=Tryz.underlying192
 a210:=Tryz.isAgg192
 z210:=Tryz.sizeOf192
 v210:=Tryz.zeroValue192
 t212:=Tryz.underlying206
 a212:=Tryz.isAgg206
 z212:=Tryz.sizeOf206
 v212:=Tryz.zeroValue206
 t213:=Tryz.underlying208
 a213:=Tryz.isAgg208
 z213:=Tryz.sizeOf208
 t232:=Tryz.underlying211
 a232:=Tryz.isAgg211
 z232:=Tryz.sizeOf211
 v232:=Tryz.zeroValue211
 t233:=Tryz.underlying212
 a233:=Tryz.isAgg212
 z233:=Tryz.sizeOf212
 v233:=Tryz.zeroValue212
 g15:=by kernel_rfl
 g16:=by kernel_rfl
 g17:=by kernel_rfl
 g18:=by kernel_rfl
 g19:=by kernel_rfl}
open Go.RowKit in
theorem Tryz.strconv_Atoi(s:ByteArray)(n:Int)(hl:s.size≤18)(h:Lib.atoi s.data.toList=some n)(w:World):
 Calls Tryz.prog 156 #[.string s] w fun e w'=>e = .returned (.tuple #[.int .i64 n,.nilIface])∧∃ t,w' = Lib.bytesWorld w 5 t:=Any.strconv_Atoi Tryz.Y0 s n hl h w
def Tryz.Pe:Go.Shelf.Ren:=⟨fun | 316=>155 | n=>n,fun | 9=>9 | 3=>3 | 4=>4 | 37=>29 | 0=>0 | 127=>177 | 5=>5 | n=>n,fun | n=>n⟩
theorem Tryz.W7:Go.Proofs.LaysM.n316 Tryz.prog Tryz.Pe:={
 mixed:=by kernel_rfl
 f316:=Tryz.func155.trans (congrArg some (by kernel_rfl))
 t0:=Tryz.underlying0
 a0:=Tryz.isAgg0
 z0:=Tryz.sizeOf0
 v0:=Tryz.zeroValue0
 t3:=Tryz.underlying3
 a3:=Tryz.isAgg3
 z3:=Tryz.sizeOf3
 v3:=Tryz.zeroValue3
 t4:=Tryz.underlying4
 a4:=Tryz.isAgg4
 z4:=Tryz.sizeOf4
 v4:=Tryz.zeroValue4
 t9:=Tryz.underlying9
 a9:=Tryz.isAgg9
 z9:=Tryz.sizeOf9
 v9:=Tryz.zeroValue9
 t37:=Tryz.underlying29
 a37:=Tryz.isAgg29
 z37:=Tryz.sizeOf29
 v37:=Tryz.zeroValue29
 t127:=Tryz.underlying177
 a127:=Tryz.isAgg177
 z127:=Tryz.sizeOf177
 v127:=Tryz.zeroValue177
 t5:=Tryz.underlying5
 a5:=Tryz.isAgg5
 z5:=Tryz.sizeOf5
 v5:=Tryz.zeroValue5
 i0:=by kernel_rfl
 i3:=by kernel_rfl
 i4:=by kernel_rfl
 i5:=by kernel_rfl
 i9:=by kernel_rfl
 i37:=by kernel_rfl
 i127:=by kernel_rfl}
open Go.RowKit in
theorem Tryz.stringslite_Clone(s:ByteArray)(w:World)(JG:s.size≤281474976710656):
 Calls Tryz.prog 155 #[.string s] w fun e w'=>e = .returned (.string s)∧Below w.heap.size w w':=Any.stringslite_Clone Tryz.W7 s w JG
def Tryz.SL:Go.Shelf.Ren:=⟨fun | 99=>157 | 206=>164 | n=>n,fun | 9=>9 | 4=>4 | 3=>3 | n=>n,fun | n=>n⟩
theorem Tryz.abf:Go.Proofs.Lays.n99 Tryz.prog Tryz.SL:={
 mixed:=by kernel_rfl
 f99:=Tryz.func157.trans (congrArg some (by kernel_rfl))
 f206:=Tryz.func164.trans (congrArg some (by kernel_rfl))
 t3:=Tryz.underlying3
 a3:=Tryz.isAgg3
 z3:=Tryz.sizeOf3
 v3:=Tryz.zeroValue3
 t4:=Tryz.underlying4
 a4:=Tryz.isAgg4
 z4:=Tryz.sizeOf4
 v4:=Tryz.zeroValue4
 t9:=Tryz.underlying9
 a9:=Tryz.isAgg9
 z9:=Tryz.sizeOf9
 v9:=Tryz.zeroValue9}
open Go.RowKit Go.Lib in
theorem Tryz.strings_HasPrefix(s p:ByteArray)(w:World):
 Calls Tryz.prog 157 #[.string s,.string p] w fun e w'=>e = .returned (.bool (Lib.hasPrefix s.data.toList p.data.toList))∧w' = w:=Any.strings_HasPrefix Tryz.abf s p w
end Go.Proofs
namespace Go.Proofs
open Go.Shelf Go.RowKit
set_option maxHeartbeats 4000000
theorem Ls(s:ByteArray)(w:World)(hs:0 < s.size)(h:(1 < s.size∧(s[0]'hs).toNat=48)∨10 < s.size):
  Calls Tryz.prog 127 #[.string s] w fun e w'=>e = .returned (.tuple #[.int .i64 0,.bool false])∧w' = w:=by
 go_enter Tryz.func127,Tryz.ntmps127
 go_wp2_with fail
 all_goals first
  |(go_ret2;exact⟨rfl,rfl⟩)
  |(exfalso;rcases h with ⟨h1,h2⟩ | h1<;>simp_all<;>omega)
  |skip
theorem JK(s:ByteArray)(w:World)(hs:0 < s.size)(h1:1 < s.size→(s[0]'hs).toNat≠48)(h2:s.size≤10)(n:Int)(hn:Lib.atoi s.data.toList=some n):
  Calls Tryz.prog 127 #[.string s] w fun e w'=>e = .returned (.tuple (bif decide (2147483647 < n) then #[.int .i64 0,.bool false] else #[.int .i64 n,.bool true]))∧∃ t,w' = Lib.bytesWorld w 5 t:=by
 go_enter Tryz.func127,Tryz.ntmps127
 go_wp2_with (go_at_call 156;refine(Tryz.strconv_Atoi s n (by omega) hn w).mono ?_;rintro e w' ⟨rfl,t,rfl⟩)
 all_goals first
  |(exfalso;simp_all<;>omega)
  |(go_ret2;refine⟨?_,_,rfl⟩;rename_i hh;simp only [hh,decide_true,cond_true];rfl)
  |(go_ret2;refine⟨?_,_,rfl⟩;rename_i hh;simp only [show ¬ 2147483647 < n by omega,decide_false,cond_false];rfl)
  |skip
end Go.Proofs
namespace Go.Fx.R5
open Go Go.Proofs
theorem abO(w:World):(Instr.typeAssert .nilIface 20 128 true).run Tryz.prog w = .ok (.tuple #[.agg #[.int .i64 0,.int .i64 0],.bool false]) w:=by kernel_rfl
theorem Zy(u:Value)(w:World):(Instr.typeAssert (.iface 128 u) 20 128 true).run Tryz.prog w = .ok (.tuple #[u,.bool true]) w:=by kernel_rfl
def clA(p2 p3:Addr)(l:List Value):Act:={tmps:=(Value.pointer (some p2) :: Value.pointer (some p3) :: l).toArray,defers:=[]}
theorem Sz(p2 p3:Addr)(w:World):
  CallsD Tryz.prog 70 #[.pointer (some p2),.pointer (some p3)] .returning w fun e u' w'=>e = .returned (.tuple #[])∧u' = .returning∧w' = w.alloc (.cells #[.int .i64 0,.int .i64 0] 128):=by
 refine callsD_of_wpS Tryz.func70 rfl fun c₀ cs hu=>?_;show Code.wpS _ _ _ {tmps:=#[Value.pointer (some p2),Value.pointer (some p3),undef,undef,undef,undef,undef,undef,undef,undef,undef,undef],defers:=[]} _ _;apply wpS_seq;apply wpS_region;simp [wpOpsS,go_sem,recoverD,hu,Exit.thenS,abO];apply wpS_seq;apply wpS_region;simp [wpOpsS,go_sem,Exit.thenS];refine wpS_cond (t:=false) (by simp [Act.eval]) ?_
 simp only [Bool.false_eq_true,if_false];refine wpS_of_wp (wp_skip ?_);cases c₀;simp_all [bodyPostS,results,Tryz.results70]
theorem Js(b2 o2 b3 o3:Nat)(c a:Int)(x y z:Value)(aaj:List PanicEntry)(w:World)(hb:b2≠b3)(l2:b2 < w.heap.size)(l3:b3 < w.heap.size)(h2:w.cell? ⟨b2,o2,none⟩=some x)(z2:w.frozen? ⟨b2,o2,none⟩=false)(h3:w.cell? ⟨b3,o3,none⟩=some y)(z3:w.frozen? ⟨b3,o3,none⟩=false)(h4:w.cell? ⟨b3,o3 + 1,none⟩=some z)(z4:w.frozen? ⟨b3,o3 + 1,none⟩=false):
  CallsD Tryz.prog 70 #[.pointer (some ⟨b2,o2,none⟩),.pointer (some ⟨b3,o3,none⟩)] (.panicking ({v:=.iface 128 (.agg #[.int .i64 c,.int .i64 a]),recovered:=false} :: aaj)) w fun e u' w'=>e = .returned (.tuple #[])∧u' = .panicking ({v:=.iface 128 (.agg #[.int .i64 c,.int .i64 a]),recovered:=true} :: aaj)∧
   w' = ((((w.alloc (.cells #[.int .i64 c,.int .i64 a] 128)).setCell ⟨b2,o2,none⟩ (.slice none 0 0)).setCell ⟨b3,o3,none⟩ (.int .i64 c)).setCell ⟨b3,o3 + 1,none⟩ (.int .i64 a)).drew:=by
 refine callsD_of_wpS Tryz.func70 rfl fun c₀ cs hu=>?_;show Code.wpS _ _ _ {tmps:=#[Value.pointer (some ⟨b2,o2,none⟩),Value.pointer (some ⟨b3,o3,none⟩),undef,undef,undef,undef,undef,undef,undef,undef,undef,undef],defers:=[]} _ _;apply wpS_seq;apply wpS_region;simp [wpOpsS,go_sem,recoverD,hu,Exit.thenS,Zy];apply wpS_seq;apply wpS_region;simp [wpOpsS,go_sem,Exit.thenS];refine wpS_cond (t:=true) (by simp [Act.eval]) ?_
 simp only [if_true];refine wpS_of_wp ?_;have q2:(w.alloc (.cells #[.int .i64 c,.int .i64 a] 128)).cell? ⟨b2,o2,none⟩=some x:=by rw [World.cell?_alloc_past _ _ _ l2];exact h2
 have q3:(w.alloc (.cells #[.int .i64 c,.int .i64 a] 128)).cell? ⟨b3,o3,none⟩=some y:=by rw [World.cell?_alloc_past _ _ _ l3];exact h3
 have q4:(w.alloc (.cells #[.int .i64 c,.int .i64 a] 128)).cell? ⟨b3,o3 + 1,none⟩=some z:=by rw [World.cell?_alloc_past _ _ _ l3];exact h4
 have r2:(w.alloc (.cells #[.int .i64 c,.int .i64 a] 128)).frozen? ⟨b2,o2,none⟩=false:=by rw [World.frozen?_alloc_past _ _ _ l2];exact z2
 have r3:(w.alloc (.cells #[.int .i64 c,.int .i64 a] 128)).frozen? ⟨b3,o3,none⟩=false:=by rw [World.frozen?_alloc_past _ _ _ l3];exact z3
 have r4:(w.alloc (.cells #[.int .i64 c,.int .i64 a] 128)).frozen? ⟨b3,o3 + 1,none⟩=false:=by rw [World.frozen?_alloc_past _ _ _ l3];exact z4
 have k0:(w.alloc (.cells #[.int .i64 c,.int .i64 a] 128)).cell? ⟨w.heap.size,0,none⟩=some (.int .i64 c):=by simp [go_sem]
 have k1:(w.alloc (.cells #[.int .i64 c,.int .i64 a] 128)).cell? ⟨w.heap.size,1,none⟩=some (.int .i64 a):=by simp [go_sem]
 have n2:b2≠w.heap.size:=Nat.ne_of_lt l2;have n3:b3≠w.heap.size:=Nat.ne_of_lt l3;generalize w.alloc (.cells #[.int .i64 c,.int .i64 a] 128)=W at *;generalize w.heap.size=B at *
 go_region
 cases c₀;simp_all [bodyPostS,results,Tryz.results70]
end Go.Fx.R5
namespace Go.Fx.R5
open Go Go.Fx Go.Proofs Go.Proofs.Tryz
noncomputable section
abbrev XN:=List (Int×Int×Int×ao×List Int)
abbrev XF:=List (ao×Int×List ao×List ao×Int)
abbrev XT:=List (Int×Int×ao×Int)
abbrev XE:=List (Int×Int×Int×Int×Int)
abbrev XQ:=List (Int×Int×Int×Int)
abbrev XA:=List (ao×Int)
abbrev XL:=List (List Int)
abbrev XS:=List ao
abbrev XI:=List Int
abbrev XB:=List Bool
abbrev tN:Ty:=(.cX I (.cX I (.cX I (.cX .str (.slice I)))))
abbrev tF:Ty:=(.cX .str (.cX I (.cX (.slice .str) (.cX (.slice .str) I))))
abbrev tT:Ty:=(.cX I (.cX I (.cX .str I)))
abbrev tE:Ty:=(.cX I (.cX I (.cX I (.cX I I))))
abbrev tQ:Ty:=(.cX I (.cX I (.cX I I)))
abbrev tA:Ty:=(.cX .str I)
abbrev tP:Ty:=(.cX I I)
abbrev sN:Ty:=(.slice tN)
abbrev sF:Ty:=(.slice tF)
abbrev sT:Ty:=(.slice tT)
abbrev sE:Ty:=(.slice tE)
abbrev sQ:Ty:=(.slice tQ)
abbrev sA:Ty:=(.slice tA)
abbrev sL:Ty:=(.slice (.slice I))
abbrev sI:Ty:=(.slice I)
abbrev sS:Ty:=(.slice .str)
abbrev sB:Ty:=(.slice .bool)
abbrev tM:Ty:=(.cX sA (.cX sS sF))
abbrev tG:Ty:=(.cX (.slice .str) (.cX sS I))
theorem mix:prog.follows .mixedOrders=true:=by kernel_rfl
def wq:List ao:=[[43,37],[45,37],[42,37],[60,60],[62,62],[61,61],[33,61],[60,61],[62,61],[46,46],[43,61],[43],[45],[42],[47],[37],[38],[124],[94],[60],[62],[61],[40],[41],[123],[125],[91],[93],[44],[59]]
def MC:List ao:=[[],[43],[45],[42],[47],[37],[38],[124],[94],[60,60],[62,62],[43,37],[45,37],[42,37]]
def P6:List ao:=[[],[61,61],[33,61],[60],[60,61],[62],[62,61]]
def gt:Nat→Option GA
 |0=>some ⟨.str,wq⟩
 |3=>some ⟨.str,MC⟩
 |4=>some ⟨.str,P6⟩
 |_=>none
noncomputable def aeu:List (Tb prog):=[tb 3 t3 underlying3 ⟨1,8,some I,.int .i64,[.int .i64 0]⟩,
 tb 4 t4 underlying4 ⟨1,1,some .bool,.bool,[.bool false]⟩,
 tb 5 t5 underlying5 ⟨1,1,some U,.int .u8,[.int .u8 0]⟩,
 tb 9 t9 underlying9 ⟨1,16,some .str,.str,[.string ⟨#[]⟩]⟩,
 tb 22 t22 underlying22 ⟨1,24,some sI,.slice 3,[.slice none 0 0]⟩,
 tb 31 t31 underlying31 ⟨1,24,some sA,.slice 42,[.slice none 0 0]⟩,
 tb 32 t32 underlying32 ⟨1,24,some sS,.slice 9,[.slice none 0 0]⟩,
 tb 33 t33 underlying33 ⟨1,24,some sF,.slice 67,[.slice none 0 0]⟩,
 tb 35 t35 underlying35 ⟨3,72,some tM,.struct [(0,31),(1,32),(2,33)],[.slice none 0 0,.slice none 0 0,.slice none 0 0]⟩,
 tb 37 t37 underlying37 ⟨2,16,some tP,.struct [(0,3),(1,3)],[.int .i64 0,.int .i64 0]⟩,
 tb 42 t42 underlying42 ⟨2,24,some tA,.struct [(0,9),(1,3)],[.string ⟨#[]⟩,.int .i64 0]⟩,
 tb 43 t43 underlying43 ⟨1,24,some sN,.slice 47,[.slice none 0 0]⟩,
 tb 47 t47 underlying47 ⟨5,64,some tN,.struct [(0,3),(1,3),(2,3),(3,9),(4,22)],[.int .i64 0,.int .i64 0,.int .i64 0,.string ⟨#[]⟩,.slice none 0 0]⟩,
 tb 52 t52 underlying52 ⟨1,8,none,.mT 86,[.pointer none]⟩,
 tb 56 t56 underlying56 ⟨1,8,none,.mT 93,[.pointer none]⟩,
 tb 67 t67 underlying67 ⟨5,80,some tF,.struct [(0,9),(1,3),(2,32),(3,32),(4,3)],[.string ⟨#[]⟩,.int .i64 0,.slice none 0 0,.slice none 0 0,.int .i64 0]⟩,
 tb 68 t68 underlying68 ⟨1,8,none,.mT 70,[.pointer none]⟩,
 tb 70 t70 underlying70 ⟨8,152,some (.cX tM (.cX sN (.cX .str (.cX sS tP)))),.struct [(0,35),(3,43),(4,9),(5,32),(6,37)],[.slice none 0 0,.slice none 0 0,.slice none 0 0,.slice none 0 0,.string ⟨#[]⟩,.slice none 0 0,.int .i64 0,.int .i64 0]⟩,
 tb 72 t72 underlying72 ⟨1,24,some sT,.slice 110,[.slice none 0 0]⟩,
 tb 75 t75 underlying75 ⟨1,8,none,.mT 77,[.pointer none]⟩,
 tb 77 t77 underlying77 ⟨7,88,some (.cX sT (.cX I (.cX I (.cX sN (.cX I tP))))),.struct [(0,72),(1,3),(2,3),(3,43),(4,3),(5,37)],[.slice none 0 0,.int .i64 0,.int .i64 0,.slice none 0 0,.int .i64 0,.int .i64 0,.int .i64 0]⟩,
 tb 81 t81 underlying81 ⟨1,24,some sB,.slice 4,[.slice none 0 0]⟩,
 tb 82 t82 underlying82 ⟨1,24,some sE,.slice 99,[.slice none 0 0]⟩,
 tb 84 t84 underlying84 ⟨4,96,some (.cX sI (.cX sI (.cX sB sE))),.struct [(0,22),(1,22),(2,81),(3,82)],[.slice none 0 0,.slice none 0 0,.slice none 0 0,.slice none 0 0]⟩,
 tb 86 t86 underlying86 ⟨9,216,some (.cX tM (.cX sN (.cX (.cX sI (.cX sI (.cX sB sE))) sB))),.struct [(0,35),(3,43),(4,84),(8,81)],[.slice none 0 0,.slice none 0 0,.slice none 0 0,.slice none 0 0,.slice none 0 0,.slice none 0 0,.slice none 0 0,.slice none 0 0,.slice none 0 0]⟩,
 tb 90 t90 underlying90 ⟨1,24,some sQ,.slice 167,[.slice none 0 0]⟩,
 tb 91 t91 underlying91 ⟨1,24,some sL,.slice 22,[.slice none 0 0]⟩,
 tb 93 t93 underlying93 ⟨13,312,some (.cX sN (.cX tM (.cX sI (.cX sI (.cX (.cX sI (.cX sI (.cX sB sE))) (.cX sQ (.cX sL sB))))))),.struct [(0,43),(1,35),(4,22),(5,22),(6,84),(10,90),(11,91),(12,81)],[.slice none 0 0,.slice none 0 0,.slice none 0 0,.slice none 0 0,.slice none 0 0,.slice none 0 0,.slice none 0 0,.slice none 0 0,.slice none 0 0,.slice none 0 0,.slice none 0 0,.slice none 0 0,.slice none 0 0]⟩,
 tb 95 t95 underlying95 ⟨1,8,none,.mT 97,[.pointer none]⟩,
 tb 97 t97 underlying97 ⟨7,136,none,.struct [(0,56),(1,3),(2,84),(6,90)],[.pointer none,.int .i64 0,.slice none 0 0,.slice none 0 0,.slice none 0 0,.slice none 0 0,.slice none 0 0]⟩,
 tb 99 t99 underlying99 ⟨5,40,some tE,.struct [(0,3),(1,3),(2,3),(3,3),(4,3)],[.int .i64 0,.int .i64 0,.int .i64 0,.int .i64 0,.int .i64 0]⟩,
 tb 110 t110 underlying110 ⟨4,40,some tT,.struct [(0,3),(1,3),(2,9),(3,3)],[.int .i64 0,.int .i64 0,.string ⟨#[]⟩,.int .i64 0]⟩,
 tb 120 t120 underlying120 ⟨11,248,some (.cX tM (.cX sN (.cX I (.cX (.cX sI (.cX sI (.cX sB sE))) (.cX sI sI))))),.struct [(0,35),(3,43),(4,3),(5,84),(9,22),(10,22)],[.slice none 0 0,.slice none 0 0,.slice none 0 0,.slice none 0 0,.int .i64 0,.slice none 0 0,.slice none 0 0,.slice none 0 0,.slice none 0 0,.slice none 0 0,.slice none 0 0]⟩,
 tb 121 t121 underlying121 ⟨1,8,none,.mT 120,[.pointer none]⟩,
 tb 124 t124 underlying124 ⟨1,8,none,.mT 126,[.pointer none]⟩,
 tb 126 t126 underlying126 ⟨5,72,some (.cX sT (.cX I (.cX I (.cX I sN)))),.struct [(0,72),(1,3),(2,3),(3,3),(4,43)],[.slice none 0 0,.int .i64 0,.int .i64 0,.int .i64 0,.slice none 0 0]⟩,
 tb 128 t128 underlying128 ⟨2,16,some (.one tP),.struct [(0,37)],[.int .i64 0,.int .i64 0]⟩,
 tb 130 t130 underlying130 ⟨1,8,none,.mp 9 3,[.map none]⟩,
 tb 132 t132 underlying132 ⟨1,8,none,.mT 35,[.pointer none]⟩,
 tb 134 t134 underlying134 ⟨1,8,none,.mT 67,[.pointer none]⟩,
 tb 137 t137 underlying137 ⟨10,184,none,.struct [(0,43),(1,35),(4,67),(9,130)],[.slice none 0 0,.slice none 0 0,.slice none 0 0,.slice none 0 0,.string ⟨#[]⟩,.int .i64 0,.slice none 0 0,.slice none 0 0,.int .i64 0,.map none]⟩,
 tb 142 t142 underlying142 ⟨6,6,some (.arr 6 .bool),.arr 6 4,[.bool false,.bool false,.bool false,.bool false,.bool false,.bool false]⟩,
 tb 143 t143 underlying143 ⟨36,36,some (.arr 6 (.arr 6 .bool)),.arr 6 142,[.bool false,.bool false,.bool false,.bool false,.bool false,.bool false,.bool false,.bool false,.bool false,.bool false,.bool false,.bool false,.bool false,.bool false,.bool false,.bool false,.bool false,.bool false,.bool false,.bool false,.bool false,.bool false,.bool false,.bool false,.bool false,.bool false,.bool false,.bool false,.bool false,.bool false,.bool false,.bool false,.bool false,.bool false,.bool false,.bool false]⟩,
 tb 158 t158 underlying158 ⟨1,8,none,.mT 137,[.pointer none]⟩,
 tb 167 t167 underlying167 ⟨4,32,some tQ,.struct [(0,3),(1,3),(2,3),(3,3)],[.int .i64 0,.int .i64 0,.int .i64 0,.int .i64 0]⟩,
 tb 175 t175 underlying175 ⟨30,480,some (.arr 30 .str),.arr 30 9,[.string ⟨#[]⟩,.string ⟨#[]⟩,.string ⟨#[]⟩,.string ⟨#[]⟩,.string ⟨#[]⟩,.string ⟨#[]⟩,.string ⟨#[]⟩,.string ⟨#[]⟩,.string ⟨#[]⟩,.string ⟨#[]⟩,.string ⟨#[]⟩,.string ⟨#[]⟩,.string ⟨#[]⟩,.string ⟨#[]⟩,.string ⟨#[]⟩,.string ⟨#[]⟩,.string ⟨#[]⟩,.string ⟨#[]⟩,.string ⟨#[]⟩,.string ⟨#[]⟩,.string ⟨#[]⟩,.string ⟨#[]⟩,.string ⟨#[]⟩,.string ⟨#[]⟩,.string ⟨#[]⟩,.string ⟨#[]⟩,.string ⟨#[]⟩,.string ⟨#[]⟩,.string ⟨#[]⟩,.string ⟨#[]⟩]⟩,
 tb 186 t186 underlying186 ⟨1,8,none,.mT 47,[.pointer none]⟩,
 tb 194 t194 underlying194 ⟨14,224,some (.arr 14 .str),.arr 14 9,[.string ⟨#[]⟩,.string ⟨#[]⟩,.string ⟨#[]⟩,.string ⟨#[]⟩,.string ⟨#[]⟩,.string ⟨#[]⟩,.string ⟨#[]⟩,.string ⟨#[]⟩,.string ⟨#[]⟩,.string ⟨#[]⟩,.string ⟨#[]⟩,.string ⟨#[]⟩,.string ⟨#[]⟩,.string ⟨#[]⟩]⟩,
 tb 200 t200 underlying200 ⟨7,112,some (.arr 7 .str),.arr 7 9,[.string ⟨#[]⟩,.string ⟨#[]⟩,.string ⟨#[]⟩,.string ⟨#[]⟩,.string ⟨#[]⟩,.string ⟨#[]⟩,.string ⟨#[]⟩]⟩]
noncomputable def bD:P0:=⟨prog,gt,aeu,mix⟩
def Fk(s p:ao):Option (Bool×Unit):=some (p.isPrefixOf s,())
def RY:iT:=Ah [.str,.str] [.bool] (fun d=>Fk d.1 d.2.1) id
theorem QN:lZ prog gt 157 RY:=by refine⟨C7 (ts:=[.str,.str]) (rs:=[.bool]) (dec:=id) rfl rfl call157 fun d y w hg h=>?_,Ai _ _ _ _,wy _ _ _ _⟩;cases h;exact(strings_HasPrefix ⟨⟨d.1⟩⟩ ⟨⟨d.2.1⟩⟩ w).mono fun e w' ⟨h1,h2⟩=>⟨h1,h2 ▸ Go.RowKit.Below.refl _ _⟩
def Qr:Cl bD:=⟨_,_,QN⟩
def AE(s:ao):Option (ao×Unit):=bif decide (s.length≤281474976710656) then some (s,()) else none
def Uz:iT:=Ah [.str] [.str] (fun d=>AE d.1) id
theorem Wt:lZ prog gt 155 Uz:=by
 refine⟨C7 (ts:=[.str]) (rs:=[.str]) (dec:=id) rfl rfl call155 fun d y w hg h=>?_,Ai _ _ _ _,wy _ _ _ _⟩;obtain⟨s,u⟩:=d;have h:(bif decide (s.length≤281474976710656) then some (s,()) else none)=some y:=h
 cases hb:decide (s.length≤281474976710656) with
 |false=>rw [hb] at h;cases h
 |true=>rw [hb] at h;cases h;exact stringslite_Clone ⟨⟨s⟩⟩ w (of_decide_eq_true hb)
def YA:Cl bD:=zd ⟨[⟨155,Uz,Wt⟩],[],[]⟩ 126 f126 func126 call126 [.str] [.str] (fun d=>AE d.1) [] (h:=fun d=>(show AE d.1=(AE d.1).bind fun r=>some (r.1,()) by unfold AE;cases decide (d.1.length≤281474976710656)<;>rfl).trans (by kernel_rfl))
def QG(s:ao):Bool:=s.all fun b=>decide (48≤b.toNat) && decide (b.toNat≤57)
def Me(s:ao):Int:=s.foldl (fun n b=>n * 10 + ((b.toNat:Int) - 48)) 0
def oV(s:ao):Option (Int×Bool×Unit):=
 bif !(QG s) || s.isEmpty then none else
 bif (decide (1 < s.length) && (s.headD 0 == 48)) || decide (10 < s.length) then some (0,false,()) else
 bif decide (2147483647 < Me s) then some (0,false,()) else some (Me s,true,())
def RZ:iT:=Ah [.str] [I,.bool] (fun d=>oV d.1) id
theorem TN:∀(s:ao) (n:Nat),QG s=true→∃ m:Nat,Lib.decFrom n s=some m∧(m:Int)=s.foldl (fun n b=>n * 10 + ((b.toNat:Int) - 48)) (n:Int)
 |[],n,_=>⟨n,rfl,rfl⟩
 |b :: s,n,h=>by
  simp only [QG,List.all_cons,Bool.and_eq_true,decide_eq_true_eq] at h;obtain⟨m,h1,h2⟩:=TN s (n * 10 + (b.toNat - 48)) (by simpa only [QG] using h.2)
  refine⟨m,by simp only [Lib.decFrom,Lib.digitVal,h.1,and_self,if_true];exact h1,h2.trans ?_⟩
  rw [List.foldl_cons]
  congr 1
  omega
theorem V5(s:ao)(h:QG s=true)(hs:s≠[]):Lib.atoi s=some (Me s):=by
 obtain⟨m,h1,h2⟩:=TN s 0 h;cases s with
 |nil=>exact absurd rfl hs
 |cons b r=>
  have hb:48≤b.toNat:=by simp only [QG,List.all_cons,Bool.and_eq_true,decide_eq_true_eq] at h;exact h.1.1
  have n1:(b == 45)=false:=by simp only [beq_eq_false_iff_ne];rintro rfl;revert hb;decide
  have n2:(b == 43)=false:=by simp only [beq_eq_false_iff_ne];rintro rfl;revert hb;decide
  show Lib.atoi (b :: r)=_;simp only [Lib.atoi,n1,n2,Lib.decNat,h1,List.isEmpty_cons,Bool.false_eq_true,if_false,Option.map_some];exact congrArg some h2
theorem QO:lZ prog gt 127 RZ:=by
 refine⟨C7 (ts:=[.str]) (rs:=[I,.bool]) (dec:=id) rfl rfl call127 fun d y w hg h=>?_,Ai _ _ _ _,wy _ _ _ _⟩;obtain⟨s,u⟩:=d;have h:oV s=some y:=h;unfold oV at h;cases hd:QG s with
 |false=>rw [hd] at h;cases h
 |true=>
 cases s with
 |nil=>cases h
 |cons b r=>
 simp only [hd,Bool.not_true,List.isEmpty_cons,Bool.or_self,cond_false,List.headD_cons] at h;have hs:0 < (⟨⟨b :: r⟩⟩:ByteArray).size:=Nat.succ_pos _;have h48:((⟨⟨b :: r⟩⟩:ByteArray)[0]'hs).toNat=48↔(b == 48)=true:=by rw [beq_iff_eq];exact⟨fun hh=>UInt8.toNat_inj.1 hh,fun hh=>by subst hh;rfl⟩
 cases hb:decide (1 < (b :: r).length) && (b == 48) || decide (10 < (b :: r).length) with
 |true=>rw [hb] at h;cases h;refine(Ls ⟨⟨b :: r⟩⟩ w hs ?_).mono fun e w' ⟨h1,h2⟩=>⟨h1,h2 ▸ Go.RowKit.Below.refl _ _⟩;simp only [Bool.or_eq_true,Bool.and_eq_true,decide_eq_true_eq] at hb;exact hb.imp (fun q=>⟨q.1,h48.2 q.2⟩) id
 |false=>
  rw [hb] at h;simp only [Bool.or_eq_false_iff,Bool.and_eq_false_iff,decide_eq_false_iff_not] at hb;have hl:¬ 10 < (⟨⟨b :: r⟩⟩:ByteArray).size:=hb.2;refine(JK ⟨⟨b :: r⟩⟩ w hs (fun g1 g2=>?_) (by omega) _ (V5 (b :: r) hd (by simp))).mono fun e w' ⟨h1,t,h2⟩=>?_
  ·rcases hb.1 with q | q
   ·exact q g1
   ·rw [h48.1 g2] at q;cases q
  ·have adI:Go.RowKit.Below w.heap.size w w':=by subst h2;exact⟨rfl,rfl,rfl,by rw [Lib.bytesWorld_size];omega,fun j hj=>Lib.bytesWorld_at_old w 5 t j hj⟩
   refine⟨?_,adI⟩;subst h1;cases hv:decide (2147483647 < Me (b :: r)) with
   |true=>rw [hv] at h;cases h;rfl
   |false=>rw [hv] at h;cases h;rfl
def Qu:Cl bD:=⟨_,_,QO⟩
end
end Go.Fx.R5
namespace Go.Fx.R5
open Go Go.Fx Go.Proofs Go.Proofs.Tryz
noncomputable section
def eJ(ak:XT)(jf ZL:Int)(ck:ao):Option (Bool×Unit):=
 aa (fun(v:Bool)=>
  some (v,())) fun cL=>
 bif decide ((dP (jf + ZL)) < (ak.length:Int)) then
  (bK ak (dP (jf + ZL))).bind fun x1=>
  cL (x1.2.2.1 == ck)
 else
  cL false
def mt:Cl bD:=mY ⟨[],[],[]⟩ 129 f129 func129 call129 [500000] ⟨⟨33,[(126,5)],[lD 126 0 sT,lI 126 1,lI 126 2,lI 126 3,lF 126 4 tN],[rP 0 126,rI 1,rD 2 .str],[]⟩,[.ret [rD 500000 .bool] []],fun c v=>eJ c.1 c.2.2.1 v.2.1 v.2.2.1⟩ []
def aG(ak:XT)(jf:Int)(ck:ao):Option (Bool×Int×Unit):=
 (eJ ak jf 0 ck).bind fun r1=>
 bif !r1.1 then
  some (false,jf,())
 else
  some (true,(dP (jf + 1)),())
def fA:Cl bD:=mY ⟨[mt],[],[]⟩ 106 f106 func106 call106 [500000] ⟨⟨16,[(126,5)],[lD 126 0 sT,lI 126 1,lI 126 3,lF 126 4 tN],[rP 0 126,rD 1 .str,lI 126 2],[]⟩,[.ret [rD 500000 .bool,lI 126 2] []],fun c v=>aG c.1 v.2.2.1 v.2.1⟩ []
def db(ak:XT)(aE jf:Int):Option (Int×Unit):=
 bif decide (jf < (ak.length:Int)) then
  (bK ak jf).bind fun x1=>
  some (x1.2.1,())
 else
  some (aE,())
def ey:Cl bD:=mY ⟨[],[],[]⟩ 131 f131 func131 call131 [500000] ⟨⟨28,[(126,5)],[lD 126 0 sT,lI 126 1,lI 126 2,lI 126 3,lF 126 4 tN],[rP 0 126],[]⟩,[.ret [rI 500000] []],fun c v=>db c.1 c.2.1 c.2.2.1⟩ []
def gK(ak:XT)(aE jf code:Int):Option (Int×Int×Unit):=
 (db ak aE jf).bind fun r1=>
 some (code,r1.1,())
def jg:Cl bD:=mY ⟨[ey],[],[]⟩ 112 f112 func112 call112 [] ⟨⟨10,[(126,5)],[lD 126 0 sT,lI 126 1,lI 126 2,lI 126 3,lF 126 4 tN],[rP 0 126,rI 1],[]⟩,[.zh 128 [I,I]],fun c v=>gK c.1 c.2.1 c.2.2.1 v.2.1⟩ []
def ig(ak:XT)(jf CH:Int):Option (Bool×Unit):=
 aa (fun(v:Bool)=>
  some (v,())) fun cL=>
 bif decide (jf < (ak.length:Int)) then
  (bK ak jf).bind fun x1=>
  cL (x1.1 == CH)
 else
  cL false
def l6:Cl bD:=mY ⟨[],[],[]⟩ 130 f130 func130 call130 [500000] ⟨⟨30,[(126,5)],[lD 126 0 sT,lI 126 1,lI 126 2,lI 126 3,lF 126 4 tN],[rP 0 126,rI 1],[]⟩,[.ret [rD 500000 .bool] []],fun c v=>ig c.1 c.2.2.1 v.2.1⟩ []
def dd(ak:XT)(aE jf CH:Int):Option ((((Int×Int×ao×Int)×Int×Unit)⊕(Int×Int×Unit))):=
 (ig ak jf CH).bind fun r1=>
 bif !r1.1 then
  (gK ak aE jf 6).bind fun r2=>
  some (.inr (r2.1,r2.2.1,()))
 else
  (bK ak (dP ((dP (jf + 1)) - 1))).bind fun x1=>
  some (.inl (x1,(dP (jf + 1)),()))
def gP:Cl bD:=mY ⟨[jg,l6],[],[(4,110)]⟩ 107 f107 func107 call107 [500000] ⟨⟨29,[(126,5)],[lD 126 0 sT,lI 126 1,lI 126 3,lF 126 4 tN],[rP 0 126,rI 1,lI 126 2],[]⟩,[.ret [rD 500000 tT,lI 126 2] [],.zh 128 [I,I]],fun c v=>dd c.1 c.2.1 v.2.2.1 v.2.1⟩ []
def a7(ak:XT)(aE jf:Int)(ck:ao):Option (((Int×Unit)⊕(Int×Int×Unit))):=
 (aG ak jf ck).bind fun r1=>
 bif !r1.1 then
  (gK ak aE r1.2.1 6).bind fun r2=>
  some (.inr (r2.1,r2.2.1,()))
 else
  some (.inl (r1.2.1,()))
def gy:Cl bD:=mY ⟨[fA,jg],[],[]⟩ 108 f108 func108 call108 [] ⟨⟨10,[(126,5)],[lD 126 0 sT,lI 126 1,lI 126 3,lF 126 4 tN],[rP 0 126,rD 1 .str,lI 126 2],[]⟩,[.ret [lI 126 2] [],.zh 128 [I,I]],fun c v=>a7 c.1 c.2.1 v.2.2.1 v.2.1⟩ []
def bA(aA:XN)(nA:Int×Int×Int×ao×XI):Option (Int×XN×Unit):=
 (lM aA ([nA])).bind fun l=>
 some ((dP ((l.length:Int) - 1)),l,())
def dC:Cl bD:=mY ⟨[],[],[(3,47)]⟩ 109 f109 func109 call109 [500000] ⟨⟨21,[(126,5)],[lD 126 0 sT,lI 126 1,lI 126 2,lI 126 3],[rP 0 126,rD 1 tN,lF 126 4 tN],[]⟩,[.ret [rI 500000,lF 126 4 tN] []],fun c v=>bA v.2.2.1 v.2.1⟩ []
def eP(ak:XT)(aE jf:Int)(aA:XN)(CH:Int):Option (((Int×Int×XN×Unit)⊕(Int×Int×Unit))):=
 (dd ak aE jf 1).bind fun r=>match r with
 |.inl r1=>
  (bA aA (CH,r1.1.2.1,0,r1.1.2.2.1,[])).bind fun r3=>
  some (.inl (r3.1,r1.2.1,r3.2.1,()))
 |.inr r2=>
  some (.inr (r2.1,r2.2.1,()))
def qM:Cl bD:=mY ⟨[gP,dC],[],[(5,110)]⟩ 110 f110 func110 call110 [500000] ⟨⟨16,[(126,5)],[lD 126 0 sT,lI 126 1,lI 126 3],[rP 0 126,rI 1,lI 126 2,lF 126 4 tN],[]⟩,[.ret [rI 500000,lI 126 2,lF 126 4 tN] [],.zh 128 [I,I]],fun c v=>eP c.1 c.2.1 v.2.2.1 v.2.2.2.1 v.2.1⟩ []
def fD(ak:XT)(aE jf depth:Int):Option (((Int×Unit)⊕(Int×Int×Unit))):=
 bif decide ((dP (depth + 1)) > 10) then
  (gK ak aE jf 7).bind fun r1=>
  some (.inr (r1.1,r1.2.1,()))
 else
  some (.inl ((dP (depth + 1)),()))
def kK:Cl bD:=mY ⟨[jg],[],[]⟩ 132 f132 func132 call132 [] ⟨⟨16,[(126,5)],[lD 126 0 sT,lI 126 1,lI 126 2,lF 126 4 tN],[rP 0 126,lI 126 3],[]⟩,[.ret [lI 126 3] [],.zh 128 [I,I]],fun c v=>fD c.1 c.2.1 c.2.2.1 v.2.1⟩ []
def l8(q:Nat):Nat→ao→XS→Int→Option (((Unit)⊕(Int×Unit)))
 |0,_,_,_=>none
 |k + 1,R2,t51,t61=>
  bif decide (t61 < 14) then
   (bK t51 t61).bind fun b=>
   aa (fun(v:Bool)=>
    bif v then
     some (.inr (t61,()))
    else
     l8 q k R2 t51 (dP (t61 + 1))) fun cL=>
   bif decide (t61 > 0) then
    cL (b == R2)
   else
    cL false
  else
   some (.inl ())
def Dn(k:Nat)(wl:ao):Option (Int×Unit):=
 (l8 k k wl MC 0).bind fun r=>match r with
 |.inl o=>
  some (0,())
 |.inr o2=>
  some (o2.1,())
def CL(k:Nat):m9:=⟨⟨19,[],[rD 0 .str,rD 5 (.arr 14 .str)],[rI 6],[]⟩,[.ex (.exit 0) [],.ex .ret [rI 2]],fun q c v=>l8 k q c.1 c.2.1 v.1⟩
def IF(k:Nat):Ev bD:=⟨[],[lp 0 (CL k) k],[]⟩
def Kq(k q:Nat):Cd bD:=oz (IF k) f178 0 (CL k) q []
def Qt(k:Nat):Cl bD:=zd (IF k) 178 f178 func178 call178 [.str] [I] (fun d=>Dn k d.1) [Kq k k]
def wb(op:Int):Option (Int×Unit):=
 bif op == 7 then
  some (1,())
 else
  bif op == 8 then
   some (2,())
  else
   bif op == 6 then
    some (3,())
   else
    aa (fun(v:Bool)=>
     bif v then
      some (4,())
     else
      aa (fun(v2:Bool)=>
       bif v2 then
        some (5,())
       else
        some (6,())) fun jX=>
      bif op == 1 then
       jX (op == 1)
      else
       bif op == 2 then
        jX (op == 2)
       else
        bif op == 11 then
         jX (op == 11)
        else
         jX (op == 12)) fun cL=>
    bif op == 9 then
     cL (op == 9)
    else
     cL (op == 10)
def KC:Cl bD:=zd ⟨[],[],[]⟩ 179 f179 func179 call179 [I] [I] (fun d=>wb d.1) []
abbrev ic:=XT→Int→Int→Int→XN→Int→Option (((Int×Int×Int×XN×Unit)⊕(Int×Int×Unit)))
def oJ(f:ic):De:=⟨⟨67,[(126,5)],[lD 126 0 sT,lI 126 1],[rP 0 126,rI 1,lI 126 2,lI 126 3,lF 126 4 tN],[]⟩,[.ret [rI 500000,lI 126 2,lI 126 3,lF 126 4 tN] [],.zh 128 [I,I]],fun c v=>f c.1 c.2.1 v.2.2.1 v.2.2.2.1 v.2.2.2.2.1 v.2.1⟩
def wN(f:ic):iT:=mF (oJ f).L (oJ f).F (Ao [500000] (oJ f).V)
abbrev gO:=XT→Int→Int→Int→XN→Option (((Int×Int×Int×XN×Unit)⊕(Int×Int×Unit)))
def nX(f:gO):De:=⟨⟨35,[(126,5)],[lD 126 0 sT,lI 126 1],[rP 0 126,lI 126 2,lI 126 3,lF 126 4 tN],[]⟩,[.ret [rI 500000,lI 126 2,lI 126 3,lF 126 4 tN] [],.zh 128 [I,I]],fun c v=>f c.1 c.2.1 v.2.1 v.2.2.1 v.2.2.2.1⟩
def vC(f:gO):iT:=mF (nX f).L (nX f).F (Ao [500000] (nX f).V)
abbrev fK:=XT→Int→Int→Int→XN→Option (((Int×Int×Int×XN×Unit)⊕(Int×Int×Unit)))
def mN(f:fK):De:=⟨⟨78,[(126,5)],[lD 126 0 sT,lI 126 1],[rP 0 126,lI 126 2,lI 126 3,lF 126 4 tN],[]⟩,[.ret [rI 500000,lI 126 2,lI 126 3,lF 126 4 tN] [],.zh 128 [I,I]],fun c v=>f c.1 c.2.1 v.2.1 v.2.2.1 v.2.2.2.1⟩
def tK(f:fK):iT:=mF (mN f).L (mN f).F (Ao [500000] (mN f).V)
def dK(bz:ic)(bG:gO)(bE:fK)(q:Nat):Nat→XT→Int→Int→Int→Int→XN→Int→Option (((Int×Int×XN×Int×Unit)⊕(Int×Int×Unit)))
 |0,_,_,_,_,_,_,_=>none
 |k + 1,cJ,fH,SN,sr,od,bV,left=>
  bif decide (sr < (cJ.length:Int)) then
   (bK cJ sr).bind fun x1=>
   (Dn q x1.2.2.1).bind fun r5=>
   aa (fun(v:Bool)=>
    bif v then
     some (.inl (sr,od,bV,left,()))
    else
     (db cJ fH sr).bind fun r7=>
     (bz cJ fH (dP (sr + 1)) od bV (dP (SN + 1))).bind fun r=>match r with
     |.inl r8=>
      (bA r8.2.2.2.1 (28,r7.1,r5.1,([]:ao),[left,r8.1])).bind fun mU=>
      dK bz bG bE q k cJ fH SN r8.2.1 r8.2.2.1 mU.2.1 mU.1
     |.inr r9=>
      some (.inr (r9.1,r9.2.1,()))) fun cL=>
   bif r5.1 == 0 then
    cL true
   else
    (wb r5.1).bind fun r6=>
    cL (r6.1 != SN)
  else
   some (.inl (sr,od,bV,left,()))
def ii(bz:ic)(bG:gO)(bE:fK)(k:Nat)(ak:XT)(aE jf depth:Int)(aA:XN)(uV:Int):Option (((Int×Int×Int×XN×Unit)⊕(Int×Int×Unit))):=
 bif decide (uV > 6) then
  (bG ak aE jf depth aA).bind fun r=>match r with
  |.inl r1=>
   some (.inl (r1.1,r1.2.1,r1.2.2.1,r1.2.2.2.1,()))
  |.inr r2=>
   some (.inr (r2.1,r2.2.1,()))
 else
  (bz ak aE jf depth aA (dP (uV + 1))).bind fun r=>match r with
  |.inl r3=>
   (dK bz bG bE k k ak aE uV r3.2.1 r3.2.2.1 r3.2.2.2.1 r3.1).bind fun r=>match r with
   |.inl o=>
    some (.inl (o.2.2.2.1,o.1,o.2.1,o.2.2.1,()))
   |.inr o2=>
    some (.inr (o2.1,o2.2.1,()))
  |.inr r4=>
   some (.inr (r4.1,r4.2.1,()))
def gR(bz:ic)(bG:gO)(bE:fK)(k:Nat)(ak:XT)(aE jf depth:Int)(aA:XN):Option (((Int×Int×Int×XN×Unit)⊕(Int×Int×Unit))):=
 (db ak aE jf).bind fun r1=>
 (aG ak jf ([45]:ao)).bind fun r2=>
 bif !r2.1 then
  (bE ak aE r2.2.1 depth aA).bind fun r=>match r with
  |.inl r3=>
   some (.inl (r3.1,r3.2.1,r3.2.2.1,r3.2.2.2.1,()))
  |.inr r4=>
   some (.inr (r4.1,r4.2.1,()))
 else
  (fD ak aE r2.2.1 depth).bind fun r=>match r with
  |.inl r5=>
   (bA aA (24,r1.1,0,([]:ao),[])).bind fun r7=>
   (bG ak aE r2.2.1 r5.1 r7.2.1).bind fun r=>match r with
   |.inl r8=>
    (bA r8.2.2.2.1 (28,r1.1,2,([]:ao),[r7.1,r8.1])).bind fun mU=>
    some (.inl (mU.1,r8.2.1,(dP (r8.2.2.1 - 1)),mU.2.1,()))
   |.inr r9=>
    some (.inr (r9.1,r9.2.1,()))
  |.inr r6=>
   some (.inr (r6.1,r6.2.1,()))
def bO(bz:ic)(bG:gO)(bE:fK)(k:Nat)(ak:XT)(aE jf depth:Int)(aA:XN):Option (((Int×Int×Int×XN×Unit)⊕(Int×Int×Unit))):=
 (db ak aE jf).bind fun r1=>
 (ig ak jf 2).bind fun r2=>
 bif r2.1 then
  (dd ak aE jf 2).bind fun r=>match r with
  |.inl r3=>
   (bA aA (24,r1.1,r3.1.2.2.2,([]:ao),[])).bind fun r5=>
   some (.inl (r5.1,r3.2.1,depth,r5.2.1,()))
  |.inr r4=>
   some (.inr (r4.1,r4.2.1,()))
 else
  (aG ak jf ([42]:ao)).bind fun r6=>
  bif r6.1 then
   (dd ak aE r6.2.1 1).bind fun r=>match r with
   |.inl r7=>
    (bA aA (27,r1.1,0,r7.1.2.2.1,[])).bind fun r9=>
    some (.inl (r9.1,r7.2.1,depth,r9.2.1,()))
   |.inr r8=>
    some (.inr (r8.1,r8.2.1,()))
  else
   (aG ak r6.2.1 ([40]:ao)).bind fun mU=>
   bif mU.1 then
    (fD ak aE mU.2.1 depth).bind fun r=>match r with
    |.inl pK=>
     (bz ak aE mU.2.1 pK.1 aA 1).bind fun r=>match r with
     |.inl sm=>
      (a7 ak aE sm.2.1 ([41]:ao)).bind fun r=>match r with
      |.inl rN=>
       some (.inl (sm.1,rN.1,(dP (sm.2.2.1 - 1)),sm.2.2.2.1,()))
      |.inr tz=>
       some (.inr (tz.1,tz.2.1,()))
     |.inr sx=>
      some (.inr (sx.1,sx.2.1,()))
    |.inr qP=>
     some (.inr (qP.1,qP.2.1,()))
   else
    (dd ak aE mU.2.1 1).bind fun r=>match r with
    |.inl wi=>
     (aG ak wi.2.1 ([91]:ao)).bind fun sy=>
     bif !sy.1 then
      (bA aA (25,r1.1,0,wi.1.2.2.1,[])).bind fun xJ=>
      some (.inl (xJ.1,sy.2.1,depth,xJ.2.1,()))
     else
      (fD ak aE sy.2.1 depth).bind fun r=>match r with
      |.inl Aq=>
       (bz ak aE sy.2.1 Aq.1 aA 1).bind fun r=>match r with
       |.inl Mn=>
        (a7 ak aE Mn.2.1 ([93]:ao)).bind fun r=>match r with
        |.inl r25=>
         (bA Mn.2.2.2.1 (26,r1.1,0,wi.1.2.2.1,[Mn.1])).bind fun r27=>
         some (.inl (r27.1,r25.1,(dP (Mn.2.2.1 - 1)),r27.2.1,()))
        |.inr r26=>
         some (.inr (r26.1,r26.2.1,()))
       |.inr Hv=>
        some (.inr (Hv.1,Hv.2.1,()))
      |.inr M2=>
       some (.inr (M2.1,M2.2.1,()))
    |.inr so=>
     some (.inr (so.1,so.2.1,()))
def dq:Nat→ic×gO×fK
 |0=>(fun _ _ _ _ _ _=>none,fun _ _ _ _ _=>none,fun _ _ _ _ _=>none)
 |k + 1=>(ii (dq k).1 (dq k).2.1 (dq k).2.2 k,gR (dq k).1 (dq k).2.1 (dq k).2.2 k,bO (dq k).1 (dq k).2.1 (dq k).2.2 k)
def aj(k:Nat):ic:=(dq k).1
def fo(k:Nat):gO:=(dq k).2.1
def fO(k:Nat):fK:=(dq k).2.2
section
variable (bz:Gd bD 166 wN) (bG:Gd bD 177 vC) (bE:Gd bD 184 tK)
def tV(k:Nat):m9:=⟨⟨67,[(126,5)],[lD 126 0 sT,lI 126 1,rP 0 126,rI 1],[lI 126 2,lI 126 3,lF 126 4 tN,rI 5],[]⟩,[.ex (.exit 0) [lI 126 2,lI 126 3,lF 126 4 tN,rI 5],.zh 128 [I,I]],fun q c v=>dK bz.1 bG.1 bE.1 k q c.1 c.2.1 c.2.2.2.1 v.1 v.2.1 v.2.2.1 v.2.2.2.1⟩
def wE(k:Nat):Ev bD:=⟨[dC,ey,bz.cl,bG.cl,Qt k,KC],[lp 0 (tV bz bG bE k) k],[]⟩
def BN(k q:Nat):Cd bD:=oz (wE bz bG bE k) f166 0 (tV bz bG bE k) q []
def Fi(k:Nat):Cl bD:=mY (wE bz bG bE k) 166 f166 func166 call166 [500000] (oJ (ii bz.1 bG.1 bE.1 k)) [BN bz bG bE k k]
def DY(k:Nat):Cl bD:=mY ⟨[fA,dC,ey,kK,bG.cl,bE.cl],[],[]⟩ 177 f177 func177 call177 [500000] (nX (gR bz.1 bG.1 bE.1 k)) []
def BW(k:Nat):Cl bD:=mY ⟨[fA,gP,gy,dC,l6,ey,kK,bz.cl],[],[(5,110)]⟩ 184 f184 func184 call184 [500000] (mN (bO bz.1 bG.1 bE.1 k)) []
end
theorem lc:∀ k,lZ prog gt 166 (wN (aj k))∧lZ prog gt 177 (vC (fo k))∧lZ prog gt 184 (tK (fO k))
 |0=>⟨dg (fun _ _=>rfl),dg (fun _ _=>rfl),dg (fun _ _=>rfl)⟩
 |k + 1=>have ih:=lc k;⟨(Fi ⟨_,ih.1⟩ ⟨_,ih.2.1⟩ ⟨_,ih.2.2⟩ k).ok,(DY ⟨_,ih.1⟩ ⟨_,ih.2.1⟩ ⟨_,ih.2.2⟩ k).ok,(BW ⟨_,ih.1⟩ ⟨_,ih.2.1⟩ ⟨_,ih.2.2⟩ k).ok⟩
def mu(k:Nat):Cl bD:=⟨_,_,(lc k).1⟩
def Sm(k:Nat):Cl bD:=⟨_,_,(lc k).2.1⟩
def P5(k:Nat):Cl bD:=⟨_,_,(lc k).2.2⟩
def cT(q:Nat):Nat→XT→Int→XI→Int→Int→XN→Option (((XI×Int×Int×XN×Unit)⊕(Int×Int×Unit)))
 |0,_,_,_,_,_,_=>none
 |k + 1,cJ,fH,ZI,sr,od,bV=>
  (aG cJ sr ([44]:ao)).bind fun sy=>
  bif sy.1 then
   (aj q cJ fH sy.2.1 od bV 1).bind fun r=>match r with
   |.inl xJ=>
    (lM ZI ([xJ.1])).bind fun l2=>
    cT q k cJ fH l2 xJ.2.1 xJ.2.2.1 xJ.2.2.2.1
   |.inr Aq=>
    some (.inr (Aq.1,Aq.2.1,()))
  else
   some (.inl (ZI,sy.2.1,od,bV,()))
def dX(k:Nat)(ak:XT)(aE jf depth:Int)(aA:XN):Option (((Int×XI×Int×Int×XN×Unit)⊕(Int×Int×Unit))):=
 (aG ak jf ([38]:ao)).bind fun r1=>
 bif r1.1 then
  (eP ak aE r1.2.1 aA 23).bind fun r=>match r with
  |.inl r2=>
   (a7 ak aE r2.2.1 ([91]:ao)).bind fun r=>match r with
   |.inl r4=>
    (aj k ak aE r4.1 depth r2.2.2.1 1).bind fun r=>match r with
    |.inl r6=>
     (a7 ak aE r6.2.1 ([93]:ao)).bind fun r=>match r with
     |.inl r8=>
      some (.inl (12,[r2.1,r6.1],r8.1,r6.2.2.1,r6.2.2.2.1,()))
     |.inr r9=>
      some (.inr (r9.1,r9.2.1,()))
    |.inr r7=>
     some (.inr (r7.1,r7.2.1,()))
   |.inr r5=>
    some (.inr (r5.1,r5.2.1,()))
  |.inr r3=>
   some (.inr (r3.1,r3.2.1,()))
 else
  (ig ak r1.2.1 1).bind fun mU=>
  aa (fun(v:Bool)=>
   bif v then
    (eP ak aE r1.2.1 aA 23).bind fun r=>match r with
    |.inl qP=>
     (a7 ak aE qP.2.1 ([40]:ao)).bind fun r=>match r with
     |.inl sx=>
      (aG ak sx.1 ([41]:ao)).bind fun tz=>
      bif tz.1 then
       some (.inl (22,[qP.1],tz.2.1,depth,qP.2.2.1,()))
      else
       (aj k ak aE tz.2.1 depth qP.2.2.1 1).bind fun r=>match r with
       |.inl wi=>
        (lM ([qP.1]) ([wi.1])).bind fun l=>
        (cT k k ak aE l wi.2.1 wi.2.2.1 wi.2.2.2.1).bind fun r=>match r with
        |.inl o=>
         (a7 ak aE o.2.1 ([41]:ao)).bind fun r=>match r with
         |.inl sy=>
          some (.inl (22,o.1,sy.1,o.2.2.1,o.2.2.2.1,()))
         |.inr xJ=>
          some (.inr (xJ.1,xJ.2.1,()))
        |.inr o2=>
         some (.inr (o2.1,o2.2.1,()))
       |.inr so=>
        some (.inr (so.1,so.2.1,()))
     |.inr rN=>
      some (.inr (rN.1,rN.2.1,()))
    |.inr sm=>
     some (.inr (sm.1,sm.2.1,()))
   else
    (eJ ak r1.2.1 0 ([110,117,108,108]:ao)).bind fun Aq=>
    bif Aq.1 then
     (db ak aE r1.2.1).bind fun M2=>
     (bA aA (29,M2.1,0,([]:ao),[])).bind fun Mn=>
     some (.inl (9,[Mn.1],(dP (r1.2.1 + 1)),depth,Mn.2.1,()))
    else
     (aj k ak aE r1.2.1 depth aA 1).bind fun r=>match r with
     |.inl Hv=>
      some (.inl (9,[Hv.1],Hv.2.1,Hv.2.2.1,Hv.2.2.2.1,()))
     |.inr r25=>
      some (.inr (r25.1,r25.2.1,()))) fun cL=>
  bif mU.1 then
   (eJ ak r1.2.1 1 ([40]:ao)).bind fun pK=>
   cL pK.1
  else
   cL false
def sZ(k:Nat):m9:=⟨⟨101,[(47,5),(126,5)],[lI 47 0,lI 47 1,lI 47 2,lD 47 3 .str,lD 126 0 sT,lI 126 1,rP 0 126,rP 1 47],[lF 47 4 I,lI 126 2,lI 126 3,lF 126 4 tN],[]⟩,[.ex (.exit 1) [lF 47 4 I,lI 126 2,lI 126 3,lF 126 4 tN],.zh 128 [I,I]],fun q c v=>cT k q c.2.2.2.2.1 c.2.2.2.2.2.1 v.1 v.2.1 v.2.2.1 v.2.2.2.1⟩
def vz(k:Nat):Ev bD:=⟨[fA,gy,dC,qM,mt,l6,ey,mu k],[lp 1 (sZ k) k],[]⟩
def Ar(k q:Nat):Cd bD:=oz (vz k) f176 1 (sZ k) q []
def DT(k:Nat):Cl bD:=mY (vz k) 176 f176 func176 call176 [] ⟨⟨101,[(126,5),(47,5)],[lD 126 0 sT,lI 126 1,lI 47 1,lI 47 2,lD 47 3 .str],[rP 0 126,rP 1 47,lI 126 2,lI 126 3,lF 126 4 tN,lI 47 0,lF 47 4 I],[]⟩,[.ret [lI 47 0,lF 47 4 I,lI 126 2,lI 126 3,lF 126 4 tN] [],.zh 128 [I,I]],fun c v=>dX k c.1 c.2.1 v.2.2.1 v.2.2.2.1 v.2.2.2.2.1⟩ [Ar k k]
def cj(k:Nat)(ak:XT)(aE jf depth:Int)(aA:XN):Option (((Int×Int×Int×XN×Unit)⊕(Int×Int×Unit))):=
 (dd ak aE jf 1).bind fun r=>match r with
 |.inl r1=>
  aa (fun(jv:Int×Int×XN×Int×XI)=>
   (a7 ak aE (jv.1) ([59]:ao)).bind fun r=>match r with
   |.inl sy=>
    (bA (jv.2.2.1) ((jv.2.2.2.1),r1.1.2.1,0,r1.1.2.2.1,(jv.2.2.2.2))).bind fun Aq=>
    some (.inl (Aq.1,sy.1,(jv.2.1),Aq.2.1,()))
   |.inr xJ=>
    some (.inr (xJ.1,xJ.2.1,()))) fun cL=>
  (aG ak r1.2.1 ([61]:ao)).bind fun r3=>
  bif r3.1 then
   (dX k ak aE r3.2.1 depth aA).bind fun r=>match r with
   |.inl r4=>
    cL (r4.2.2.1,r4.2.2.2.1,r4.2.2.2.2.1,r4.1,r4.2.1)
   |.inr r5=>
    some (.inr (r5.1,r5.2.1,()))
  else
   (aG ak r3.2.1 ([43,61]:ao)).bind fun r6=>
   bif r6.1 then
    (aj k ak aE r6.2.1 depth aA 1).bind fun r=>match r with
    |.inl r7=>
     cL (r7.2.1,r7.2.2.1,r7.2.2.2.1,13,[r7.1])
    |.inr r8=>
     some (.inr (r8.1,r8.2.1,()))
   else
    (aG ak r6.2.1 ([91]:ao)).bind fun r9=>
    bif r9.1 then
     (aj k ak aE r9.2.1 depth aA 1).bind fun r=>match r with
     |.inl mU=>
      (a7 ak aE mU.2.1 ([93]:ao)).bind fun r=>match r with
      |.inl qP=>
       (a7 ak aE qP.1 ([61]:ao)).bind fun r=>match r with
       |.inl sx=>
        (aj k ak aE sx.1 mU.2.2.1 mU.2.2.2.1 1).bind fun r=>match r with
        |.inl tz=>
         cL (tz.2.1,tz.2.2.1,tz.2.2.2.1,10,[mU.1,tz.1])
        |.inr wi=>
         some (.inr (wi.1,wi.2.1,()))
       |.inr rN=>
        some (.inr (rN.1,rN.2.1,()))
      |.inr sm=>
       some (.inr (sm.1,sm.2.1,()))
     |.inr pK=>
      some (.inr (pK.1,pK.2.1,()))
    else
     (gK ak aE r9.2.1 6).bind fun so=>
     some (.inr (so.1,so.2.1,()))
 |.inr r2=>
  some (.inr (r2.1,r2.2.1,()))
def BT(k:Nat):Cl bD:=mY ⟨[fA,gP,gy,dC,jg,mu k,DT k],[],[(3,110),(4,47)]⟩ 165 f165 func165 call165 [500000] ⟨⟨48,[(126,5)],[lD 126 0 sT,lI 126 1],[rP 0 126,lI 126 2,lI 126 3,lF 126 4 tN],[]⟩,[.ret [rI 500000,lI 126 2,lI 126 3,lF 126 4 tN] [],.zh 128 [I,I]],fun c v=>cj k c.1 c.2.1 v.2.1 v.2.2.1 v.2.2.2.1⟩ []
def kE(q:Nat):Nat→ao→XS→Int→Option (((Unit)⊕(Int×Unit)))
 |0,_,_,_=>none
 |k + 1,R2,t51,t61=>
  bif decide (t61 < 7) then
   (bK t51 t61).bind fun b=>
   aa (fun(v:Bool)=>
    bif v then
     some (.inr (t61,()))
    else
     kE q k R2 t51 (dP (t61 + 1))) fun cL=>
   bif decide (t61 > 0) then
    cL (b == R2)
   else
    cL false
  else
   some (.inl ())
def AN(k:Nat)(wl:ao):Option (Int×Unit):=
 (kE k k wl P6 0).bind fun r=>match r with
 |.inl o=>
  some (0,())
 |.inr o2=>
  some (o2.1,())
def By(k:Nat):m9:=⟨⟨19,[],[rD 0 .str,rD 5 (.arr 7 .str)],[rI 6],[]⟩,[.ex (.exit 0) [],.ex .ret [rI 2]],fun q c v=>kE k q c.1 c.2.1 v.1⟩
def F3(k:Nat):Ev bD:=⟨[],[lp 0 (By k) k],[]⟩
def I9(k q:Nat):Cd bD:=oz (F3 k) f189 0 (By k) q []
def Ox(k:Nat):Cl bD:=zd (F3 k) 189 f189 func189 call189 [.str] [I] (fun d=>AN k d.1) [I9 k k]
end
end Go.Fx.R5
namespace Go.Fx.R5
open Go Go.Fx Go.Proofs Go.Proofs.Tryz
noncomputable section
abbrev gu:=XT→Int→Int→Int→XN→Option (((Int×Int×Int×XN×Unit)⊕(Int×Int×Unit)))
def oH(f:gu):De:=⟨⟨27,[(126,5)],[lD 126 0 sT,lI 126 1],[rP 0 126,lI 126 2,lI 126 3,lF 126 4 tN],[]⟩,[.ret [rI 500000,lI 126 2,lI 126 3,lF 126 4 tN] [],.zh 128 [I,I]],fun c v=>f c.1 c.2.1 v.2.1 v.2.2.1 v.2.2.2.1⟩
def wL(f:gu):iT:=mF (oH f).L (oH f).F (Ao [500000] (oH f).V)
abbrev gq:=XT→Int→Int→Int→XN→Option (((Int×Int×Int×XN×Unit)⊕(Int×Int×Unit)))
def oG(f:gq):De:=⟨⟨27,[(126,5)],[lD 126 0 sT,lI 126 1],[rP 0 126,lI 126 2,lI 126 3,lF 126 4 tN],[]⟩,[.ret [rI 500000,lI 126 2,lI 126 3,lF 126 4 tN] [],.zh 128 [I,I]],fun c v=>f c.1 c.2.1 v.2.1 v.2.2.1 v.2.2.2.1⟩
def wK(f:gq):iT:=mF (oG f).L (oG f).F (Ao [500000] (oG f).V)
abbrev gw:=XT→Int→Int→Int→XN→Option (((Int×Int×Int×XN×Unit)⊕(Int×Int×Unit)))
def oI(f:gw):De:=⟨⟨103,[(126,5)],[lD 126 0 sT,lI 126 1],[rP 0 126,lI 126 2,lI 126 3,lF 126 4 tN],[]⟩,[.ret [rI 500000,lI 126 2,lI 126 3,lF 126 4 tN] [],.zh 128 [I,I]],fun c v=>f c.1 c.2.1 v.2.1 v.2.2.1 v.2.2.2.1⟩
def wM(f:gw):iT:=mF (oI f).L (oI f).F (Ao [500000] (oI f).V)
def eZ(aU:gu)(aO:gq)(aJ:gw)(q:Nat):Nat→XT→Int→Int→Int→XN→Int→Option (((Int×Int×XN×Int×Unit)⊕(Int×Int×Unit)))
 |0,_,_,_,_,_,_=>none
 |k + 1,cJ,fH,sr,od,bV,left=>
  (eJ cJ sr 0 ([111,114]:ao)).bind fun r3=>
  bif r3.1 then
   (db cJ fH sr).bind fun r4=>
   (aO cJ fH (dP (sr + 1)) od bV).bind fun r=>match r with
   |.inl r5=>
    (bA r5.2.2.2.1 (32,r4.1,0,([]:ao),[left,r5.1])).bind fun r7=>
    eZ aU aO aJ q k cJ fH r5.2.1 r5.2.2.1 r7.2.1 r7.1
   |.inr r6=>
    some (.inr (r6.1,r6.2.1,()))
  else
   some (.inl (sr,od,bV,left,()))
def kr(aU:gu)(aO:gq)(aJ:gw)(k:Nat)(ak:XT)(aE jf depth:Int)(aA:XN):Option (((Int×Int×Int×XN×Unit)⊕(Int×Int×Unit))):=
 (aO ak aE jf depth aA).bind fun r=>match r with
 |.inl r1=>
  (eZ aU aO aJ k k ak aE r1.2.1 r1.2.2.1 r1.2.2.2.1 r1.1).bind fun r=>match r with
  |.inl o=>
   some (.inl (o.2.2.2.1,o.1,o.2.1,o.2.2.1,()))
  |.inr o2=>
   some (.inr (o2.1,o2.2.1,()))
 |.inr r2=>
  some (.inr (r2.1,r2.2.1,()))
def eY(aU:gu)(aO:gq)(aJ:gw)(q:Nat):Nat→XT→Int→Int→Int→XN→Int→Option (((Int×Int×XN×Int×Unit)⊕(Int×Int×Unit)))
 |0,_,_,_,_,_,_=>none
 |k + 1,cJ,fH,sr,od,bV,left=>
  (eJ cJ sr 0 ([97,110,100]:ao)).bind fun r3=>
  bif r3.1 then
   (db cJ fH sr).bind fun r4=>
   (aJ cJ fH (dP (sr + 1)) od bV).bind fun r=>match r with
   |.inl r5=>
    (bA r5.2.2.2.1 (31,r4.1,0,([]:ao),[left,r5.1])).bind fun r7=>
    eY aU aO aJ q k cJ fH r5.2.1 r5.2.2.1 r7.2.1 r7.1
   |.inr r6=>
    some (.inr (r6.1,r6.2.1,()))
  else
   some (.inl (sr,od,bV,left,()))
def kq(aU:gu)(aO:gq)(aJ:gw)(k:Nat)(ak:XT)(aE jf depth:Int)(aA:XN):Option (((Int×Int×Int×XN×Unit)⊕(Int×Int×Unit))):=
 (aJ ak aE jf depth aA).bind fun r=>match r with
 |.inl r1=>
  (eY aU aO aJ k k ak aE r1.2.1 r1.2.2.1 r1.2.2.2.1 r1.1).bind fun r=>match r with
  |.inl o=>
   some (.inl (o.2.2.2.1,o.1,o.2.1,o.2.2.1,()))
  |.inr o2=>
   some (.inr (o2.1,o2.2.1,()))
 |.inr r2=>
  some (.inr (r2.1,r2.2.1,()))
def cu(aU:gu)(aO:gq)(aJ:gw)(k:Nat)(ak:XT)(aE jf depth:Int)(aA:XN):Option (((Int×Int×Int×XN×Unit)⊕(Int×Int×Unit))):=
 (db ak aE jf).bind fun r1=>
 (aG ak jf ([110,111,116]:ao)).bind fun r2=>
 bif r2.1 then
  (fD ak aE r2.2.1 depth).bind fun r=>match r with
  |.inl r3=>
   (aJ ak aE r2.2.1 r3.1 aA).bind fun r=>match r with
   |.inl r5=>
    (bA r5.2.2.2.1 (33,r1.1,0,([]:ao),[r5.1])).bind fun r7=>
    some (.inl (r7.1,r5.2.1,(dP (r5.2.2.1 - 1)),r7.2.1,()))
   |.inr r6=>
    some (.inr (r6.1,r6.2.1,()))
  |.inr r4=>
   some (.inr (r4.1,r4.2.1,()))
 else
  (aG ak r2.2.1 ([91]:ao)).bind fun r8=>
  bif r8.1 then
   (fD ak aE r8.2.1 depth).bind fun r=>match r with
   |.inl r9=>
    (aU ak aE r8.2.1 r9.1 aA).bind fun r=>match r with
    |.inl pK=>
     (a7 ak aE pK.2.1 ([93]:ao)).bind fun r=>match r with
     |.inl sm=>
      some (.inl (pK.1,sm.1,(dP (pK.2.2.1 - 1)),pK.2.2.2.1,()))
     |.inr sx=>
      some (.inr (sx.1,sx.2.1,()))
    |.inr qP=>
     some (.inr (qP.1,qP.2.1,()))
   |.inr mU=>
    some (.inr (mU.1,mU.2.1,()))
  else
   (aG ak r8.2.1 ([110,117,108,108]:ao)).bind fun rN=>
   bif rN.1 then
    (dd ak aE rN.2.1 1).bind fun r=>match r with
    |.inl tz=>
     (bA aA (34,r1.1,0,tz.1.2.2.1,[])).bind fun so=>
     some (.inl (so.1,tz.2.1,depth,so.2.1,()))
    |.inr wi=>
     some (.inr (wi.1,wi.2.1,()))
   else
    (aj k ak aE rN.2.1 depth aA 1).bind fun r=>match r with
    |.inl sy=>
     (db ak aE sy.2.1).bind fun Aq=>
     aa (fun(cmp:Int)=>
      bif cmp == 0 then
       (gK ak aE sy.2.1 6).bind fun Mn=>
       some (.inr (Mn.1,Mn.2.1,()))
      else
       (aj k ak aE (dP (sy.2.1 + 1)) sy.2.2.1 sy.2.2.2.1 1).bind fun r=>match r with
       |.inl Hv=>
        (bA Hv.2.2.2.1 (30,Aq.1,cmp,([]:ao),[sy.1,Hv.1])).bind fun r26=>
        some (.inl (r26.1,Hv.2.1,Hv.2.2.1,r26.2.1,()))
       |.inr r25=>
        some (.inr (r25.1,r25.2.1,()))) fun cL=>
     bif decide (sy.2.1 < (ak.length:Int)) then
      (bK ak sy.2.1).bind fun x1=>
      (AN k x1.2.2.1).bind fun M2=>
      cL M2.1
     else
      cL 0
    |.inr xJ=>
     some (.inr (xJ.1,xJ.2.1,()))
def dn:Nat→gu×gq×gw
 |0=>(fun _ _ _ _ _=>none,fun _ _ _ _ _=>none,fun _ _ _ _ _=>none)
 |k + 1=>(kr (dn k).1 (dn k).2.1 (dn k).2.2 k,kq (dn k).1 (dn k).2.1 (dn k).2.2 k,cu (dn k).1 (dn k).2.1 (dn k).2.2 k)
def dH(k:Nat):gu:=(dn k).1
def eI(k:Nat):gq:=(dn k).2.1
def dI(k:Nat):gw:=(dn k).2.2
section
variable (aU:Gd bD 167 wL) (aO:Gd bD 180 wK) (aJ:Gd bD 185 wM)
def tU(k:Nat):m9:=⟨⟨27,[(126,5)],[lD 126 0 sT,lI 126 1,rP 0 126],[lI 126 2,lI 126 3,lF 126 4 tN,rI 3],[]⟩,[.ex (.exit 0) [lI 126 2,lI 126 3,lF 126 4 tN,rI 3],.zh 128 [I,I]],fun q c v=>eZ aU.1 aO.1 aJ.1 k q c.1 c.2.1 v.1 v.2.1 v.2.2.1 v.2.2.2.1⟩
def wD(k:Nat):Ev bD:=⟨[dC,mt,ey,aO.cl],[lp 0 (tU aU aO aJ k) k],[]⟩
def BM(k q:Nat):Cd bD:=oz (wD aU aO aJ k) f167 0 (tU aU aO aJ k) q []
def Fg(k:Nat):Cl bD:=mY (wD aU aO aJ k) 167 f167 func167 call167 [500000] (oH (kr aU.1 aO.1 aJ.1 k)) [BM aU aO aJ k k]
def tS(k:Nat):m9:=⟨⟨27,[(126,5)],[lD 126 0 sT,lI 126 1,rP 0 126],[lI 126 2,lI 126 3,lF 126 4 tN,rI 3],[]⟩,[.ex (.exit 0) [lI 126 2,lI 126 3,lF 126 4 tN,rI 3],.zh 128 [I,I]],fun q c v=>eY aU.1 aO.1 aJ.1 k q c.1 c.2.1 v.1 v.2.1 v.2.2.1 v.2.2.2.1⟩
def wC(k:Nat):Ev bD:=⟨[dC,mt,ey,aJ.cl],[lp 0 (tS aU aO aJ k) k],[]⟩
def BL(k q:Nat):Cd bD:=oz (wC aU aO aJ k) f180 0 (tS aU aO aJ k) q []
def Ff(k:Nat):Cl bD:=mY (wC aU aO aJ k) 180 f180 func180 call180 [500000] (oG (kq aU.1 aO.1 aJ.1 k)) [BL aU aO aJ k k]
def Fh(k:Nat):Cl bD:=mY ⟨[fA,gP,gy,dC,jg,ey,kK,mu k,aU.cl,aJ.cl,Ox k],[],[]⟩ 185 f185 func185 call185 [500000] (oI (cu aU.1 aO.1 aJ.1 k)) []
end
theorem lb:∀ k,lZ prog gt 167 (wL (dH k))∧lZ prog gt 180 (wK (eI k))∧lZ prog gt 185 (wM (dI k))
 |0=>⟨dg (fun _ _=>rfl),dg (fun _ _=>rfl),dg (fun _ _=>rfl)⟩
 |k + 1=>have ih:=lb k;⟨(Fg ⟨_,ih.1⟩ ⟨_,ih.2.1⟩ ⟨_,ih.2.2⟩ k).ok,(Ff ⟨_,ih.1⟩ ⟨_,ih.2.1⟩ ⟨_,ih.2.2⟩ k).ok,(Fh ⟨_,ih.1⟩ ⟨_,ih.2.1⟩ ⟨_,ih.2.2⟩ k).ok⟩
def E6(k:Nat):Cl bD:=⟨_,_,(lb k).1⟩
def Sv(k:Nat):Cl bD:=⟨_,_,(lb k).2.1⟩
def Sw(k:Nat):Cl bD:=⟨_,_,(lb k).2.2⟩
abbrev dM:=XT→Int→Int→Int→XN→Int→Option (((Int×Int×Int×XN×Unit)⊕(Int×Int×Unit)))
def kC(f:dM):De:=⟨⟨26,[(126,5)],[lD 126 0 sT,lI 126 1],[rP 0 126,rI 1,lI 126 2,lI 126 3,lF 126 4 tN],[]⟩,[.ret [rI 500000,lI 126 2,lI 126 3,lF 126 4 tN] [],.zh 128 [I,I]],fun c v=>f c.1 c.2.1 v.2.2.1 v.2.2.2.1 v.2.2.2.2.1 v.2.1⟩
def qV(f:dM):iT:=mF (kC f).L (kC f).F (Ao [500000] (kC f).V)
abbrev dW:=XT→Int→Int→Int→XN→Option (((Int×Int×Int×XN×Unit)⊕(Int×Int×Unit)))
def kY(f:dW):De:=⟨⟨128,[(126,5)],[lD 126 0 sT,lI 126 1],[rP 0 126,lI 126 2,lI 126 3,lF 126 4 tN],[]⟩,[.ret [rI 500000,lI 126 2,lI 126 3,lF 126 4 tN] [],.zh 128 [I,I]],fun c v=>f c.1 c.2.1 v.2.1 v.2.2.1 v.2.2.2.1⟩
def rZ(f:dW):iT:=mF (kY f).L (kY f).F (Ao [500000] (kY f).V)
abbrev fM:=XT→Int→Int→Int→XN→Option (((Int×Int×Int×XN×Unit)⊕(Int×Int×Unit)))
def nW(f:fM):De:=⟨⟨13,[(126,5)],[lD 126 0 sT,lI 126 1],[rP 0 126,lI 126 2,lI 126 3,lF 126 4 tN],[]⟩,[.ret [rI 500000,lI 126 2,lI 126 3,lF 126 4 tN] [],.zh 128 [I,I]],fun c v=>f c.1 c.2.1 v.2.1 v.2.2.1 v.2.2.2.1⟩
def vB(f:fM):iT:=mF (nW f).L (nW f).F (Ao [500000] (nW f).V)
abbrev eA:=XT→Int→Int→Int→XN→Option (((Int×Int×Int×XN×Unit)⊕(Int×Int×Unit)))
def lX(f:eA):De:=⟨⟨30,[(126,5)],[lD 126 0 sT,lI 126 1],[rP 0 126,lI 126 2,lI 126 3,lF 126 4 tN],[]⟩,[.ret [rI 500000,lI 126 2,lI 126 3,lF 126 4 tN] [],.zh 128 [I,I]],fun c v=>f c.1 c.2.1 v.2.1 v.2.2.1 v.2.2.2.1⟩
def sM(f:eA):iT:=mF (lX f).L (lX f).F (Ao [500000] (lX f).V)
def bQ(aS:dM)(aY:dW)(a6:fM)(be:eA)(q:Nat):Nat→XT→Int→Int→Int→XN→XI→Option (((Int×Int×XN×XI×Unit)⊕(Int×Int×Unit)))
 |0,_,_,_,_,_,_=>none
 |k + 1,cJ,fH,at3,od,bV,cA=>
  (aG cJ at3 ([125]:ao)).bind fun r1=>
  bif !r1.1 then
   (aY cJ fH r1.2.1 od bV).bind fun r=>match r with
   |.inl r2=>
    (lM cA ([r2.1])).bind fun l=>
    bQ aS aY a6 be q k cJ fH r2.2.1 r2.2.2.1 r2.2.2.2.1 l
   |.inr r3=>
    some (.inr (r3.1,r3.2.1,()))
  else
   some (.inl (r1.2.1,od,bV,cA,()))
def fE(aS:dM)(aY:dW)(a6:fM)(be:eA)(k:Nat)(ak:XT)(aE jf depth:Int)(aA:XN)(sr:Int):Option (((Int×Int×Int×XN×Unit)⊕(Int×Int×Unit))):=
 (bQ aS aY a6 be k k ak aE jf depth aA []).bind fun r=>match r with
 |.inl o=>
  (bA o.2.2.1 (8,sr,0,([]:ao),o.2.2.2.1)).bind fun r1=>
  some (.inl (r1.1,o.1,(dP (o.2.1 - 1)),r1.2.1,()))
 |.inr o2=>
  some (.inr (o2.1,o2.2.1,()))
def bo(aS:dM)(aY:dW)(a6:fM)(be:eA)(k:Nat)(ak:XT)(aE jf depth:Int)(aA:XN):Option (((Int×Int×Int×XN×Unit)⊕(Int×Int×Unit))):=
 (ig ak jf 1).bind fun r1=>
 bif r1.1 then
  (cj k ak aE jf depth aA).bind fun r=>match r with
  |.inl r2=>
   some (.inl (r2.1,r2.2.1,r2.2.2.1,r2.2.2.2.1,()))
  |.inr r3=>
   some (.inr (r3.1,r3.2.1,()))
 else
  (db ak aE jf).bind fun r4=>
  aa (fun(jv:Int×Int×Int×XN×Int×ao×XI)=>
   (a7 ak aE (jv.2.1) ([59]:ao)).bind fun r=>match r with
   |.inl r44=>
    (bA (jv.2.2.2.1) ((jv.2.2.2.2.1),(jv.1),0,(jv.2.2.2.2.2.1),(jv.2.2.2.2.2.2))).bind fun r46=>
    some (.inl (r46.1,r44.1,(jv.2.2.1),r46.2.1,()))
   |.inr r45=>
    some (.inr (r45.1,r45.2.1,()))) fun jX=>
  (aG ak jf ([42]:ao)).bind fun r5=>
  bif r5.1 then
   (dd ak aE r5.2.1 1).bind fun r=>match r with
   |.inl r6=>
    (a7 ak aE r6.2.1 ([61]:ao)).bind fun r=>match r with
    |.inl r8=>
     (aj k ak aE r8.1 depth aA 1).bind fun r=>match r with
     |.inl mU=>
      jX (r4.1,mU.2.1,mU.2.2.1,mU.2.2.2.1,11,r6.1.2.2.1,[mU.1])
     |.inr pK=>
      some (.inr (pK.1,pK.2.1,()))
    |.inr r9=>
     some (.inr (r9.1,r9.2.1,()))
   |.inr r7=>
    some (.inr (r7.1,r7.2.1,()))
  else
   (aG ak r5.2.1 ([105,102]:ao)).bind fun qP=>
   bif qP.1 then
    (dH k ak aE qP.2.1 depth aA).bind fun r=>match r with
    |.inl sm=>
     (a6 ak aE sm.2.1 sm.2.2.1 sm.2.2.2.1).bind fun r=>match r with
     |.inl rN=>
      (lM ([sm.1]) ([rN.1])).bind fun l=>
      aa (fun(jv:Int×Int×XN×XI)=>
       (bA (jv.2.2.1) (14,r4.1,0,([]:ao),(jv.2.2.2))).bind fun xJ=>
       some (.inl (xJ.1,(jv.1),(jv.2.1),xJ.2.1,()))) fun cL=>
      (aG ak rN.2.1 ([101,108,115,101]:ao)).bind fun wi=>
      bif wi.1 then
       (a6 ak aE wi.2.1 rN.2.2.1 rN.2.2.2.1).bind fun r=>match r with
       |.inl so=>
        (lM l ([so.1])).bind fun l2=>
        cL (so.2.1,so.2.2.1,so.2.2.2.1,l2)
       |.inr sy=>
        some (.inr (sy.1,sy.2.1,()))
      else
       cL (wi.2.1,rN.2.2.1,rN.2.2.2.1,l)
     |.inr tz=>
      some (.inr (tz.1,tz.2.1,()))
    |.inr sx=>
     some (.inr (sx.1,sx.2.1,()))
   else
    (aG ak qP.2.1 ([119,104,105,108,101]:ao)).bind fun Aq=>
    bif Aq.1 then
     (dH k ak aE Aq.2.1 depth aA).bind fun r=>match r with
     |.inl M2=>
      (a6 ak aE M2.2.1 M2.2.2.1 M2.2.2.2.1).bind fun r=>match r with
      |.inl Hv=>
       (lM ([M2.1]) ([Hv.1])).bind fun l3=>
       (bA Hv.2.2.2.1 (15,r4.1,0,([]:ao),l3)).bind fun r26=>
       some (.inl (r26.1,Hv.2.1,Hv.2.2.1,r26.2.1,()))
      |.inr r25=>
       some (.inr (r25.1,r25.2.1,()))
     |.inr Mn=>
      some (.inr (Mn.1,Mn.2.1,()))
    else
     (aG ak Aq.2.1 ([102,111,114]:ao)).bind fun r27=>
     bif r27.1 then
      (be ak aE r27.2.1 depth aA).bind fun r=>match r with
      |.inl r28=>
       some (.inl (r28.1,r28.2.1,r28.2.2.1,r28.2.2.2.1,()))
      |.inr r29=>
       some (.inr (r29.1,r29.2.1,()))
     else
      (aG ak r27.2.1 ([114,101,97,100]:ao)).bind fun r30=>
      bif r30.1 then
       (dd ak aE r30.2.1 1).bind fun r=>match r with
       |.inl r31=>
        (bK ak (dP (r31.2.1 - 1))).bind fun x1=>
        jX (x1.2.1,r31.2.1,depth,aA,17,r31.1.2.2.1,[])
       |.inr r32=>
        some (.inr (r32.1,r32.2.1,()))
      else
       (aG ak r30.2.1 ([112,114,105,110,116]:ao)).bind fun r33=>
       bif r33.1 then
        (aj k ak aE r33.2.1 depth aA 1).bind fun r=>match r with
        |.inl r34=>
         jX (r4.1,r34.2.1,r34.2.2.1,r34.2.2.2.1,18,([]:ao),[r34.1])
        |.inr r35=>
         some (.inr (r35.1,r35.2.1,()))
       else
        (aG ak r33.2.1 ([97,115,115,101,114,116]:ao)).bind fun r36=>
        bif r36.1 then
         (dH k ak aE r36.2.1 depth aA).bind fun r=>match r with
         |.inl r37=>
          jX (r4.1,r37.2.1,r37.2.2.1,r37.2.2.2.1,19,([]:ao),[r37.1])
         |.inr r38=>
          some (.inr (r38.1,r38.2.1,()))
        else
         (aG ak r36.2.1 ([115,116,111,112]:ao)).bind fun r39=>
         bif r39.1 then
          jX (r4.1,r39.2.1,depth,aA,20,([]:ao),[])
         else
          (aG ak r39.2.1 ([114,101,116,117,114,110]:ao)).bind fun r40=>
          bif r40.1 then
           (aj k ak aE r40.2.1 depth aA 1).bind fun r=>match r with
           |.inl r41=>
            jX (r4.1,r41.2.1,r41.2.2.1,r41.2.2.2.1,21,([]:ao),[r41.1])
           |.inr r42=>
            some (.inr (r42.1,r42.2.1,()))
          else
           (gK ak aE r40.2.1 6).bind fun r43=>
           some (.inr (r43.1,r43.2.1,()))
def iC(aS:dM)(aY:dW)(a6:fM)(be:eA)(k:Nat)(ak:XT)(aE jf depth:Int)(aA:XN):Option (((Int×Int×Int×XN×Unit)⊕(Int×Int×Unit))):=
 (db ak aE jf).bind fun r1=>
 (a7 ak aE jf ([123]:ao)).bind fun r=>match r with
 |.inl r2=>
  (fD ak aE r2.1 depth).bind fun r=>match r with
  |.inl r4=>
   (aS ak aE r2.1 r4.1 aA r1.1).bind fun r=>match r with
   |.inl r6=>
    some (.inl (r6.1,r6.2.1,r6.2.2.1,r6.2.2.2.1,()))
   |.inr r7=>
    some (.inr (r7.1,r7.2.1,()))
  |.inr r5=>
   some (.inr (r5.1,r5.2.1,()))
 |.inr r3=>
  some (.inr (r3.1,r3.2.1,()))
def jN(aS:dM)(aY:dW)(a6:fM)(be:eA)(k:Nat)(ak:XT)(aE jf depth:Int)(aA:XN):Option (((Int×Int×Int×XN×Unit)⊕(Int×Int×Unit))):=
 (dd ak aE jf 1).bind fun r=>match r with
 |.inl r1=>
  (a7 ak aE r1.2.1 ([61]:ao)).bind fun r=>match r with
  |.inl r3=>
   (aj k ak aE r3.1 depth aA 1).bind fun r=>match r with
   |.inl r5=>
    (a7 ak aE r5.2.1 ([46,46]:ao)).bind fun r=>match r with
    |.inl r7=>
     (aj k ak aE r7.1 r5.2.2.1 r5.2.2.2.1 1).bind fun r=>match r with
     |.inl r9=>
      (a6 ak aE r9.2.1 r9.2.2.1 r9.2.2.2.1).bind fun r=>match r with
      |.inl pK=>
       (bA pK.2.2.2.1 (16,r1.1.2.1,0,r1.1.2.2.1,[r5.1,r9.1,pK.1])).bind fun sm=>
       some (.inl (sm.1,pK.2.1,pK.2.2.1,sm.2.1,()))
      |.inr qP=>
       some (.inr (qP.1,qP.2.1,()))
     |.inr mU=>
      some (.inr (mU.1,mU.2.1,()))
    |.inr r8=>
     some (.inr (r8.1,r8.2.1,()))
   |.inr r6=>
    some (.inr (r6.1,r6.2.1,()))
  |.inr r4=>
   some (.inr (r4.1,r4.2.1,()))
 |.inr r2=>
  some (.inr (r2.1,r2.2.1,()))
def aF:Nat→dM×dW×fM×eA
 |0=>(fun _ _ _ _ _ _=>none,fun _ _ _ _ _=>none,fun _ _ _ _ _=>none,fun _ _ _ _ _=>none)
 |k + 1=>(fE (aF k).1 (aF k).2.1 (aF k).2.2.1 (aF k).2.2.2 k,bo (aF k).1 (aF k).2.1 (aF k).2.2.1 (aF k).2.2.2 k,iC (aF k).1 (aF k).2.1 (aF k).2.2.1 (aF k).2.2.2 k,jN (aF k).1 (aF k).2.1 (aF k).2.2.1 (aF k).2.2.2 k)
def dc(k:Nat):dM:=(aF k).1
def cW(k:Nat):dW:=(aF k).2.1
def gZ(k:Nat):fM:=(aF k).2.2.1
def gl(k:Nat):eA:=(aF k).2.2.2
section
variable (aS:Gd bD 133 qV) (aY:Gd bD 158 rZ) (a6:Gd bD 168 vB) (be:Gd bD 169 sM)
def pJ(k:Nat):m9:=⟨⟨26,[(126,5)],[lD 126 0 sT,lI 126 1,rP 0 126,rI 1],[lI 126 2,lI 126 3,lF 126 4 tN,(.r 5,.h .ez I)],[]⟩,[.ex (.exit 0) [lI 126 2,lI 126 3,lF 126 4 tN,(.r 5,.h .ez I)],.zh 128 [I,I]],fun q c v=>bQ aS.1 aY.1 a6.1 be.1 k q c.1 c.2.1 v.1 v.2.1 v.2.2.1 v.2.2.2.1⟩
def qS(k:Nat):Ev bD:=⟨[fA,dC,aY.cl],[lp 0 (pJ aS aY a6 be k) k],[]⟩
def vU(k q:Nat):Cd bD:=oz (qS aS aY a6 be k) f133 0 (pJ aS aY a6 be k) q []
def yY(k:Nat):Cl bD:=mY (qS aS aY a6 be k) 133 f133 func133 call133 [500000] (kC (fE aS.1 aY.1 a6.1 be.1 k)) [vU aS aY a6 be k k]
def zI(k:Nat):Cl bD:=mY ⟨[fA,gP,gy,dC,jg,l6,ey,BT k,mu k,E6 k,a6.cl,be.cl],[],[(4,47)]⟩ 158 f158 func158 call158 [500000] (kY (bo aS.1 aY.1 a6.1 be.1 k)) []
def DX(k:Nat):Cl bD:=mY ⟨[gy,ey,kK,aS.cl],[],[]⟩ 168 f168 func168 call168 [500000] (nW (iC aS.1 aY.1 a6.1 be.1 k)) []
def AH(k:Nat):Cl bD:=mY ⟨[gP,gy,dC,mu k,a6.cl],[],[(3,110)]⟩ 169 f169 func169 call169 [500000] (lX (jN aS.1 aY.1 a6.1 be.1 k)) []
end
theorem gj:∀ k,lZ prog gt 133 (qV (dc k))∧lZ prog gt 158 (rZ (cW k))∧lZ prog gt 168 (vB (gZ k))∧lZ prog gt 169 (sM (gl k))
 |0=>⟨dg (fun _ _=>rfl),dg (fun _ _=>rfl),dg (fun _ _=>rfl),dg (fun _ _=>rfl)⟩
 |k + 1=>have ih:=gj k;⟨(yY ⟨_,ih.1⟩ ⟨_,ih.2.1⟩ ⟨_,ih.2.2.1⟩ ⟨_,ih.2.2.2⟩ k).ok,(zI ⟨_,ih.1⟩ ⟨_,ih.2.1⟩ ⟨_,ih.2.2.1⟩ ⟨_,ih.2.2.2⟩ k).ok,(DX ⟨_,ih.1⟩ ⟨_,ih.2.1⟩ ⟨_,ih.2.2.1⟩ ⟨_,ih.2.2.2⟩ k).ok,(AH ⟨_,ih.1⟩ ⟨_,ih.2.1⟩ ⟨_,ih.2.2.1⟩ ⟨_,ih.2.2.2⟩ k).ok⟩
def yV(k:Nat):Cl bD:=⟨_,_,(gj k).1⟩
def Nb(k:Nat):Cl bD:=⟨_,_,(gj k).2.1⟩
def Sl(k:Nat):Cl bD:=⟨_,_,(gj k).2.2.1⟩
def Oz(k:Nat):Cl bD:=⟨_,_,(gj k).2.2.2⟩
end
end Go.Fx.R5
namespace Go.Fx.R5
open Go Go.Fx Go.Proofs Go.Proofs.Tryz
noncomputable section
def bW(q:Nat):Nat→XT→Int→Int→XN→XI→Option (((Int×XN×XI×Unit)⊕(Int×Int×Unit)))
 |0,_,_,_,_,_=>none
 |k + 1,cJ,fH,sr,bV,cA=>
  (aG cJ sr ([44]:ao)).bind fun r8=>
  bif r8.1 then
   (eP cJ fH r8.2.1 bV 5).bind fun r=>match r with
   |.inl r9=>
    (lM cA ([r9.1])).bind fun l2=>
    bW q k cJ fH r9.2.1 r9.2.2.1 l2
   |.inr mU=>
    some (.inr (mU.1,mU.2.1,()))
  else
   some (.inl (r8.2.1,bV,cA,()))
def cE(q:Nat):Nat→XT→Int→Int→Int→XN→XI→Option (((Int×XN×XI×Unit)⊕(Int×Int×Unit)))
 |0,_,_,_,_,_,_=>none
 |k + 1,PW,U1,aaa,at5,Xp,Z9=>
  (aG PW at5 ([44]:ao)).bind fun xJ=>
  bif xJ.1 then
   (eP PW U1 xJ.2.1 Xp aaa).bind fun r=>match r with
   |.inl Aq=>
    (lM Z9 ([Aq.1])).bind fun l3=>
    cE q k PW U1 aaa Aq.2.1 Aq.2.2.1 l3
   |.inr M2=>
    some (.inr (M2.1,M2.2.1,()))
  else
   some (.inl (xJ.2.1,Xp,Z9,()))
def cq(q:Nat):Nat→XT→Int→Int→XN→XI→Option (((Int×XN×XI×Unit)⊕(Int×Int×Unit)))
 |0,_,_,_,_,_=>none
 |k + 1,cJ,fH,at3,CS,NF=>
  (eJ cJ at3 0 ([118,97,114]:ao)).bind fun rN=>
  aa (fun(v:Bool)=>
   bif v then
    aa (fun(CH:Int)=>
     (eP cJ fH (dP (at3 + 1)) CS CH).bind fun r=>match r with
     |.inl so=>
      (lM NF ([so.1])).bind fun l2=>
      (cE q q cJ fH CH so.2.1 so.2.2.1 l2).bind fun r=>match r with
      |.inl o3=>
       (a7 cJ fH o3.1 ([59]:ao)).bind fun r=>match r with
       |.inl xJ=>
        cq q k cJ fH xJ.1 o3.2.1 o3.2.2.1
       |.inr Aq=>
        some (.inr (Aq.1,Aq.2.1,()))
      |.inr o4=>
       some (.inr (o4.1,o4.2.1,()))
     |.inr sy=>
      some (.inr (sy.1,sy.2.1,()))) fun jX=>
    (eJ cJ at3 0 ([114,101,102]:ao)).bind fun wi=>
    bif wi.1 then
     jX 7
    else
     jX 6
   else
    some (.inl (at3,CS,NF,()))) fun cL=>
  bif rN.1 then
   cL true
  else
   (eJ cJ at3 0 ([114,101,102]:ao)).bind fun tz=>
   cL tz.1
def cS(k:Nat)(ak:XT)(aE jf depth:Int)(aA:XN):Option (((Int×Int×Int×XN×Unit)⊕(Int×Int×Unit))):=
 (dd ak aE jf 1).bind fun r=>match r with
 |.inl r1=>
  (a7 ak aE r1.2.1 ([40]:ao)).bind fun r=>match r with
  |.inl r3=>
   aa (fun(jv:XI×Int×XN)=>
    (db ak aE (jv.2.1)).bind fun mU=>
    (a7 ak aE (jv.2.1) ([123]:ao)).bind fun r=>match r with
    |.inl pK=>
     (fD ak aE pK.1 depth).bind fun r=>match r with
     |.inl sm=>
      (cq k k ak aE pK.1 (jv.2.2) (jv.1)).bind fun r=>match r with
      |.inl o3=>
       (dc k ak aE o3.1 sm.1 o3.2.1 mU.1).bind fun r=>match r with
       |.inl rN=>
        (lM o3.2.2.1 ([rN.1])).bind fun l2=>
        (bA rN.2.2.2.1 (4,r1.1.2.1,0,r1.1.2.2.1,l2)).bind fun wi=>
        some (.inl (wi.1,rN.2.1,rN.2.2.1,wi.2.1,()))
       |.inr tz=>
        some (.inr (tz.1,tz.2.1,()))
      |.inr o4=>
       some (.inr (o4.1,o4.2.1,()))
     |.inr sx=>
      some (.inr (sx.1,sx.2.1,()))
    |.inr qP=>
     some (.inr (qP.1,qP.2.1,()))) fun cL=>
   (aG ak r3.1 ([41]:ao)).bind fun r5=>
   bif !r5.1 then
    (eP ak aE r5.2.1 aA 5).bind fun r=>match r with
    |.inl r6=>
     (lM ([]:XI) ([r6.1])).bind fun l=>
     (bW k k ak aE r6.2.1 r6.2.2.1 l).bind fun r=>match r with
     |.inl o=>
      (a7 ak aE o.1 ([41]:ao)).bind fun r=>match r with
      |.inl r8=>
       cL (o.2.2.1,r8.1,o.2.1)
      |.inr r9=>
       some (.inr (r9.1,r9.2.1,()))
     |.inr o2=>
      some (.inr (o2.1,o2.2.1,()))
    |.inr r7=>
     some (.inr (r7.1,r7.2.1,()))
   else
    cL ([],r5.2.1,aA)
  |.inr r4=>
   some (.inr (r4.1,r4.2.1,()))
 |.inr r2=>
  some (.inr (r2.1,r2.2.1,()))
def qF(k:Nat):m9:=⟨⟨79,[(110,4),(126,5)],[lI 110 0,lI 110 1,lD 110 2 .str,lI 110 3,lD 126 0 sT,lI 126 1,lI 126 3,rP 0 126,rP 3 110],[lI 126 2,lF 126 4 tN,(.r 4,.h .ez I)],[]⟩,[.ex (.exit 0) [lI 126 2,lF 126 4 tN,(.r 4,.h .ez I)],.zh 128 [I,I]],fun q c v=>bW k q c.2.2.2.2.1 c.2.2.2.2.2.1 v.1 v.2.1 v.2.2.1⟩
def qH(k:Nat):m9:=⟨⟨79,[(110,4),(126,5)],[lI 110 0,lI 110 1,lD 110 2 .str,lI 110 3,lD 126 0 sT,lI 126 1,lI 126 3,rP 0 126,rP 3 110,rI 5,rI 6],[lI 126 2,lF 126 4 tN,(.r 4,.h .ez I)],[]⟩,[.ex (.exit 4) [lI 126 2,lF 126 4 tN,(.r 4,.h .ez I)],.zh 128 [I,I]],fun q c v=>cE k q c.2.2.2.2.1 c.2.2.2.2.2.1 c.2.2.2.2.2.2.2.2.2.2.1 v.1 v.2.1 v.2.2.1⟩
def qG(k:Nat):m9:=⟨⟨79,[(110,4),(126,5)],[lI 110 0,lI 110 1,lD 110 2 .str,lI 110 3,lD 126 0 sT,lI 126 1,lI 126 3,rP 0 126,rP 3 110,rI 5],[lI 126 2,lF 126 4 tN,(.r 4,.h .ez I)],[]⟩,[.ex (.exit 2) [lI 126 2,lF 126 4 tN,(.r 4,.h .ez I)],.zh 128 [I,I]],fun q c v=>cq k q c.2.2.2.2.1 c.2.2.2.2.2.1 v.1 v.2.1 v.2.2.1⟩
def lY(k:Nat):Ev bD:=⟨[fA,gP,gy,dC,qM,mt,ey,kK,yV k],[lp 0 (qF k) k,lp 4 (qH k) k,lp 2 (qG k) k],[(3,110)]⟩
def xT(k q:Nat):Cd bD:=oz (lY k) f111 0 (qF k) q []
def xV(k q:Nat):Cd bD:=oz (lY k) f111 4 (qH k) q []
def xU(k q:Nat):Cd bD:=oz (lY k) f111 2 (qG k) q [xV k k]
def AD(k:Nat):Cl bD:=mY (lY k) 111 f111 func111 call111 [500000] ⟨⟨79,[(126,5)],[lD 126 0 sT,lI 126 1],[rP 0 126,lI 126 2,lI 126 3,lF 126 4 tN],[]⟩,[.ret [rI 500000,lI 126 2,lI 126 3,lF 126 4 tN] [],.zh 128 [I,I]],fun c v=>cS k c.1 c.2.1 v.2.1 v.2.2.1 v.2.2.2.1⟩ [xT k k,xU k k]
def aK(q:Nat):Nat→XT→Int→Int→Int→XN→XI→Option (((Int×Int×XN×XI×Unit)⊕(Int×Int×Unit)))
 |0,_,_,_,_,_,_=>none
 |k + 1,cJ,fH,sr,od,bV,cA=>
  bif decide (sr < (cJ.length:Int)) then
   (aG cJ sr ([97,114,114,97,121]:ao)).bind fun r1=>
   bif r1.1 then
    (dd cJ fH r1.2.1 1).bind fun r=>match r with
    |.inl r2=>
     (a7 cJ fH r2.2.1 ([91]:ao)).bind fun r=>match r with
     |.inl r4=>
      (dd cJ fH r4.1 2).bind fun r=>match r with
      |.inl r6=>
       (a7 cJ fH r6.2.1 ([93]:ao)).bind fun r=>match r with
       |.inl r8=>
        (a7 cJ fH r8.1 ([59]:ao)).bind fun r=>match r with
        |.inl mU=>
         (bA bV (2,r2.1.2.1,r6.1.2.2.2,r2.1.2.2.1,[])).bind fun qP=>
         (lM cA ([qP.1])).bind fun l=>
         aK q k cJ fH mU.1 od qP.2.1 l
        |.inr pK=>
         some (.inr (pK.1,pK.2.1,()))
       |.inr r9=>
        some (.inr (r9.1,r9.2.1,()))
      |.inr r7=>
       some (.inr (r7.1,r7.2.1,()))
     |.inr r5=>
      some (.inr (r5.1,r5.2.1,()))
    |.inr r3=>
     some (.inr (r3.1,r3.2.1,()))
   else
    (aG cJ r1.2.1 ([118,97,114]:ao)).bind fun sm=>
    bif sm.1 then
     (eP cJ fH sm.2.1 bV 3).bind fun r=>match r with
     |.inl sx=>
      (lM cA ([sx.1])).bind fun l2=>
      (a7 cJ fH sx.2.1 ([59]:ao)).bind fun r=>match r with
      |.inl tz=>
       aK q k cJ fH tz.1 od sx.2.2.1 l2
      |.inr wi=>
       some (.inr (wi.1,wi.2.1,()))
     |.inr rN=>
      some (.inr (rN.1,rN.2.1,()))
    else
     (aG cJ sm.2.1 ([102,117,110,99]:ao)).bind fun so=>
     bif so.1 then
      (cS q cJ fH so.2.1 od bV).bind fun r=>match r with
      |.inl sy=>
       (lM cA ([sy.1])).bind fun l3=>
       aK q k cJ fH sy.2.1 sy.2.2.1 sy.2.2.2.1 l3
      |.inr xJ=>
       some (.inr (xJ.1,xJ.2.1,()))
     else
      (gK cJ fH so.2.1 6).bind fun Aq=>
      some (.inr (Aq.1,Aq.2.1,()))
  else
   some (.inl (sr,od,bV,cA,()))
def n8(k:Nat)(ak:XT)(aE jf depth:Int)(aA:XN):Option (((Int×Int×XN×Unit)⊕(Int×Int×Unit))):=
 (aK k k ak aE jf depth aA []).bind fun r=>match r with
 |.inl o=>
  (bA o.2.2.1 (1,0,0,([]:ao),o.2.2.2.1)).bind fun r1=>
  some (.inl (o.1,o.2.1,r1.2.1,()))
 |.inr o2=>
  some (.inr (o2.1,o2.2.1,()))
def qZ(k:Nat):m9:=⟨⟨64,[(126,5)],[lD 126 0 sT,lI 126 1,rP 0 126],[lI 126 2,lI 126 3,lF 126 4 tN,(.r 2,.h .ez I)],[]⟩,[.ex (.exit 0) [lI 126 2,lI 126 3,lF 126 4 tN,(.r 2,.h .ez I)],.zh 128 [I,I]],fun q c v=>aK k q c.1 c.2.1 v.1 v.2.1 v.2.2.1 v.2.2.2.1⟩
def tH(k:Nat):Ev bD:=⟨[fA,gP,gy,dC,qM,AD k,jg],[lp 0 (qZ k) k],[]⟩
def yP(k q:Nat):Cd bD:=oz (tH k) f71 0 (qZ k) q []
def BR(k:Nat):Cl bD:=mY (tH k) 71 f71 func71 call71 [] ⟨⟨64,[(126,5)],[lD 126 0 sT,lI 126 1],[rP 0 126,lI 126 2,lI 126 3,lF 126 4 tN],[]⟩,[.ret [lI 126 2,lI 126 3,lF 126 4 tN] [],.zh 128 [I,I]],fun c v=>n8 k c.1 c.2.1 v.2.1 v.2.2.1 v.2.2.2.1⟩ [yP k k]
def pk(q:Nat):Nat→ao→Int→Option (Int×Unit)
 |0,_,_=>none
 |k + 1,L9,at3=>
  aa (fun(v2:Bool)=>
   bif v2 then
    pk q k L9 (dP (at3 + 1))
   else
    some (at3,())) fun cL=>
  bif decide (at3 < (L9.length:Int)) then
   (bK L9 at3).bind fun b2=>
   cL ((b2.toNat:Int) != 10)
  else
   cL false
def ip(q:Nat):Nat→ao→Int→Option (((Int×Unit)⊕(Int×Unit)))
 |0,_,_=>none
 |k + 1,hY,sr=>
  bif decide (sr < (hY.length:Int)) then
   (bK hY sr).bind fun b=>
   aa (fun(v:Bool)=>
    bif v then
     ip q k hY (dP (sr + 1))
    else
     bif (b.toNat:Int) == 35 then
      (pk q q hY sr).bind fun o=>
      ip q k hY o.1
     else
      some (.inr (sr,()))) fun cL=>
   bif (b.toNat:Int) == 32 then
    cL ((b.toNat:Int) == 32)
   else
    cL ((b.toNat:Int) == 10)
  else
   some (.inl (sr,()))
def ny(k:Nat)(ck:ao)(jf:Int):Option (Int×Unit):=
 (ip k k ck jf).bind fun r=>match r with
 |.inl o=>
  some (o.1,())
 |.inr o2=>
  some (o2.1,())
def yA(k:Nat):m9:=⟨⟨33,[],[rD 0 .str],[rI 1],[]⟩,[.ex (.exit 3) [rI 1]],fun q c v=>pk k q c.1 v.1⟩
def yz(k:Nat):m9:=⟨⟨33,[],[rD 0 .str],[rI 1],[]⟩,[.ex (.exit 0) [rI 1],.ex .ret [rI 4]],fun q c v=>ip k q c.1 v.1⟩
def wB(k:Nat):Ev bD:=⟨[],[lp 3 (yA k) k,lp 0 (yz k) k],[]⟩
def FU(k q:Nat):Cd bD:=oz (wB k) f104 3 (yA k) q []
def FT(k q:Nat):Cd bD:=oz (wB k) f104 0 (yz k) q [FU k k]
def KB(k:Nat):Cl bD:=zd (wB k) 104 f104 func104 call104 [.str,I] [I] (fun d=>ny k d.1 d.2.1) [FT k k]
def sV(b:Int):Option (Bool×Unit):=
 aa (fun(v:Bool)=>
  some (v,())) fun cL=>
 bif decide (b≥97) then
  cL (decide (b≤122))
 else
  cL false
def HM:Cl bD:=zd ⟨[],[],[]⟩ 123 f123 func123 call123 [U] [.bool] (fun d=>sV d.1) []
def qX(b:Int):Option (Bool×Unit):=
 aa (fun(v:Bool)=>
  some (v,())) fun cL=>
 bif decide (b≥48) then
  cL (decide (b≤57))
 else
  cL false
def Ji:Cl bD:=zd ⟨[],[],[]⟩ 124 f124 func124 call124 [U] [.bool] (fun d=>qX d.1) []
def yw(ck:ao):Option (Bool×Unit):=
 aa (fun(v:Bool)=>
  bif v then
   some (true,())
  else
   some (false,())) fun cL=>
 bif ck == ([97,114,114,97,121]:ao) then
  cL (ck == ([97,114,114,97,121]:ao))
 else
  bif ck == ([118,97,114]:ao) then
   cL (ck == ([118,97,114]:ao))
  else
   bif ck == ([114,101,102]:ao) then
    cL (ck == ([114,101,102]:ao))
   else
    bif ck == ([102,117,110,99]:ao) then
     cL (ck == ([102,117,110,99]:ao))
    else
     bif ck == ([105,102]:ao) then
      cL (ck == ([105,102]:ao))
     else
      bif ck == ([101,108,115,101]:ao) then
       cL (ck == ([101,108,115,101]:ao))
      else
       bif ck == ([119,104,105,108,101]:ao) then
        cL (ck == ([119,104,105,108,101]:ao))
       else
        bif ck == ([102,111,114]:ao) then
         cL (ck == ([102,111,114]:ao))
        else
         bif ck == ([114,101,97,100]:ao) then
          cL (ck == ([114,101,97,100]:ao))
         else
          bif ck == ([112,114,105,110,116]:ao) then
           cL (ck == ([112,114,105,110,116]:ao))
          else
           bif ck == ([97,115,115,101,114,116]:ao) then
            cL (ck == ([97,115,115,101,114,116]:ao))
           else
            bif ck == ([115,116,111,112]:ao) then
             cL (ck == ([115,116,111,112]:ao))
            else
             bif ck == ([114,101,116,117,114,110]:ao) then
              cL (ck == ([114,101,116,117,114,110]:ao))
             else
              bif ck == ([97,110,100]:ao) then
               cL (ck == ([97,110,100]:ao))
              else
               bif ck == ([111,114]:ao) then
                cL (ck == ([111,114]:ao))
               else
                bif ck == ([110,111,116]:ao) then
                 cL (ck == ([110,111,116]:ao))
                else
                 cL (ck == ([110,117,108,108]:ao))
def Mt:Cl bD:=zd ⟨[],[],[]⟩ 125 f125 func125 call125 [.str] [.bool] (fun d=>yw d.1) []
def mz(q:Nat):Nat→ao→Int→XS→Int→Option (((Unit)⊕(ao×Unit)))
 |0,_,_,_,_=>none
 |k + 1,hY,sr,JV,PS=>
  bif decide (PS < 30) then
   (bK JV PS).bind fun b=>
   (sub hY sr (hY.length:Int)).bind fun l=>
   (Fk l b).bind fun r1=>
   bif r1.1 then
    some (.inr (b,()))
   else
    mz q k hY sr JV (dP (PS + 1))
  else
   some (.inl ())
def yv(k:Nat)(ck:ao)(jf:Int):Option (ao×Unit):=
 aa (fun(v:Bool)=>
  bif v then
   some (([]:ao),())
  else
   (mz k k ck jf wq 0).bind fun r=>match r with
   |.inl o=>
    some (([]:ao),())
   |.inr o2=>
    some (o2.1,())) fun cL=>
 bif decide (jf < 0) then
  cL true
 else
  cL (decide (jf≥(ck.length:Int)))
def zU(k:Nat):m9:=⟨⟨26,[],[rD 0 .str,rI 1,rD 15 (.arr 30 .str)],[rI 16],[]⟩,[.ex (.exit 0) [],.ex .ret [rD 4 .str]],fun q c v=>mz k q c.1 c.2.1 c.2.2.1 v.1⟩
def Ea(k:Nat):Ev bD:=⟨[Qr],[lp 0 (zU k) k],[]⟩
def Hw(k q:Nat):Cd bD:=oz (Ea k) f128 0 (zU k) q []
def Ms(k:Nat):Cl bD:=zd (Ea k) 128 f128 func128 call128 [.str,I] [.str] (fun d=>yv k d.1 d.2.1) [Hw k k]
def oj(q:Nat):Nat→ao→Int→Option (Int×Unit)
 |0,_,_=>none
 |k + 1,hY,aE=>
  aa (fun(v2:Bool)=>
   bif v2 then
    oj q k hY (dP (aE + 1))
   else
    some (aE,())) fun jX=>
  bif decide (aE < (hY.length:Int)) then
   (bK hY aE).bind fun b2=>
   (sV (b2.toNat:Int)).bind fun r2=>
   aa (fun(v:Bool)=>
    jX v) fun cL=>
   bif r2.1 then
    cL true
   else
    (bK hY aE).bind fun b3=>
    (qX (b3.toNat:Int)).bind fun r3=>
    cL r3.1
  else
   jX false
def ol(q:Nat):Nat→ao→Int→Option (Int×Unit)
 |0,_,_=>none
 |k + 1,hY,aE=>
  aa (fun(v:Bool)=>
   bif v then
    ol q k hY (dP (aE + 1))
   else
    some (aE,())) fun cL=>
  bif decide (aE < (hY.length:Int)) then
   (bK hY aE).bind fun b3=>
   (qX (b3.toNat:Int)).bind fun r5=>
   cL r5.1
  else
   cL false
def jE(k:Nat)(ck:ao)(jf:Int):Option ((Int×Int×ao×Int)×Int×Unit):=
 (bK ck jf).bind fun b=>
 (sV (b.toNat:Int)).bind fun r1=>
 bif r1.1 then
  (oj k k ck jf).bind fun o=>
  bif decide ((dP (o.1 - jf)) > 8) then
   some ((0,0,([]:ao),0),3,())
  else
   aa (fun(CH:Int)=>
    (sub ck jf o.1).bind fun l2=>
    (AE l2).bind fun r3=>
    some ((CH,jf,r3.1,0),0,())) fun cL=>
   (sub ck jf o.1).bind fun l=>
   (yw l).bind fun r2=>
   bif r2.1 then
    cL 3
   else
    cL 1
 else
  (bK ck jf).bind fun b2=>
  (qX (b2.toNat:Int)).bind fun r4=>
  bif r4.1 then
   (ol k k ck jf).bind fun o2=>
   (sub ck jf o2.1).bind fun l3=>
   (oV l3).bind fun r5=>
   bif !r5.2.1 then
    some ((0,0,([]:ao),0),4,())
   else
    (sub ck jf o2.1).bind fun l4=>
    (AE l4).bind fun r6=>
    some ((2,jf,r6.1,r5.1),0,())
  else
   (yv k ck jf).bind fun r7=>
   bif r7.1 == ([]:ao) then
    some ((0,0,([]:ao),0),2,())
   else
    some ((4,jf,r7.1,0),0,())
def xo(k:Nat):m9:=⟨⟨98,[(110,4)],[lI 110 0,lI 110 1,lD 110 2 .str,lI 110 3,rD 0 .str,rI 1,rP 4 110],[rI 6],[]⟩,[.ex (.exit 1) [rI 6]],fun q c v=>oj k q c.2.2.2.2.1 v.1⟩
def xp(k:Nat):m9:=⟨⟨98,[(110,4)],[lI 110 0,lI 110 1,lD 110 2 .str,lI 110 3,rD 0 .str,rI 1,rP 4 110],[rI 6],[]⟩,[.ex (.exit 3) [rI 6]],fun q c v=>ol k q c.2.2.2.2.1 v.1⟩
def u9(k:Nat):Ev bD:=⟨[HM,Ji,Mt,YA,Qu,Ms k],[lp 1 (xo k) k,lp 3 (xp k) k],[(4,110)]⟩
def EI(k q:Nat):Cd bD:=oz (u9 k) f105 1 (xo k) q []
def EJ(k q:Nat):Cd bD:=oz (u9 k) f105 3 (xp k) q []
def Jj(k:Nat):Cl bD:=zd (u9 k) 105 f105 func105 call105 [.str,I] [tT,I] (fun d=>jE k d.1 d.2.1) [EI k k,EJ k k]
def eO(q:Nat):Nat→ao→Int→Int→XT→Int→Option (((Int×Int×XT×Unit)⊕(Int×Int×Unit)))
 |0,_,_,_,_,_=>none
 |k + 1,hY,w,w2,ak,jf=>
  bif decide (jf < (hY.length:Int)) then
   (jE q hY jf).bind fun r2=>
   aa (fun(code:Int)=>
    bif code != 0 then
     some (.inr (code,jf,()))
    else
     (lM ak ([r2.1])).bind fun l=>
     (ny q hY (dP (jf + (r2.1.2.2.1.length:Int)))).bind fun r3=>
     eO q k hY w w2 l r3.1) fun jX=>
   aa (fun(v:Bool)=>
    bif v then
     jX 5
    else
     jX r2.2.1) fun cL=>
   bif r2.2.1 == 0 then
    cL ((ak.length:Int) == 700)
   else
    cL false
  else
   some (.inl (w,w2,ak,()))
def my(k:Nat)(ck:ao):Option (XT×(Int×Int)×Unit):=
 bif decide ((ck.length:Int) > 3000) then
  some ([],(1,0),())
 else
  (ny k ck 0).bind fun r1=>
  (eO k k ck 0 0 [] r1.1).bind fun r=>match r with
  |.inl o=>
   some (o.2.2.1,(0,0),())
  |.inr o2=>
   some ([],(o2.1,o2.2.1),())
def vG(k:Nat):m9:=⟨⟨50,[(37,2)],[rD 0 .str,rP 3 37],[lI 37 0,lI 37 1,(.r 4,.h .ez tT),rI 5],[]⟩,[.ex (.exit 0) [lI 37 0,lI 37 1,(.r 4,.h .ez tT)],.ex .ret [lI 37 0,lI 37 1,(.r 2,.lit .nil)]],fun q c v=>eO k q c.1 v.1 v.2.1 v.2.2.1 v.2.2.2.1⟩
def zj(k:Nat):Ev bD:=⟨[KB k,Jj k],[lp 0 (vG k) k],[(3,37)]⟩
def DG(k q:Nat):Cd bD:=oz (zj k) f69 0 (vG k) q []
def HL(k:Nat):Cl bD:=zd (zj k) 69 f69 func69 call69 [.str] [sT,tP] (fun d=>my k d.1) [DG k k]
def jS(q:Nat):Nat→ao→Int→Option (Int×Unit)
 |0,_,_=>none
 |k + 1,L9,at3=>
  aa (fun(v2:Bool)=>
   bif v2 then
    jS q k L9 (dP (at3 + 1))
   else
    some (at3,())) fun cL=>
  bif decide (at3 < (L9.length:Int)) then
   (bK L9 at3).bind fun b4=>
   cL ((b4.toNat:Int) != 10)
  else
   cL false
def iN(q:Nat):Nat→ao→Int→Option (((Int×Unit)⊕(Int×Unit)))
 |0,_,_=>none
 |k + 1,hY,sr=>
  bif decide (sr < (hY.length:Int)) then
   (bK hY sr).bind fun b=>
   aa (fun(v:Bool)=>
    bif v then
     iN q k hY (dP (sr + 1))
    else
     (bK hY sr).bind fun b3=>
     bif (b3.toNat:Int) != 35 then
      some (.inr (sr,()))
     else
      (jS q q hY sr).bind fun o=>
      iN q k hY o.1) fun cL=>
   bif (b.toNat:Int) == 32 then
    cL true
   else
    (bK hY sr).bind fun b2=>
    cL ((b2.toNat:Int) == 10)
  else
   some (.inl (sr,()))
def oD(k:Nat)(ck:ao)(jf:Int):Option (Int×Unit):=
 (iN k k ck jf).bind fun r=>match r with
 |.inl o=>
  some (o.1,())
 |.inr o2=>
  some (o2.1,())
def zY(k:Nat):m9:=⟨⟨39,[],[rD 0 .str],[rI 1],[]⟩,[.ex (.exit 2) [rI 1]],fun q c v=>jS k q c.1 v.1⟩
def zX(k:Nat):m9:=⟨⟨39,[],[rD 0 .str],[rI 1],[]⟩,[.ex (.exit 0) [rI 1],.ex .ret [rI 4]],fun q c v=>iN k q c.1 v.1⟩
def yR(k:Nat):Ev bD:=⟨[],[lp 2 (zY k) k,lp 0 (zX k) k],[]⟩
def HB(k q:Nat):Cd bD:=oz (yR k) f58 2 (zY k) q []
def Hz(k q:Nat):Cd bD:=oz (yR k) f58 0 (zX k) q [HB k k]
def My(k:Nat):Cl bD:=zd (yR k) 58 f58 func58 call58 [.str,I] [I] (fun d=>oD k d.1 d.2.1) [Hz k k]
def ru(c:Int):Option (Bool×Unit):=
 aa (fun(v:Bool)=>
  some (v,())) fun cL=>
 bif decide (c≥97) then
  cL (decide (c≤122))
 else
  cL false
def Br:Cl bD:=zd ⟨[],[],[]⟩ 88 f88 func88 call88 [U] [.bool] (fun d=>ru d.1) []
def qC(c:Int):Option (Bool×Unit):=
 aa (fun(v:Bool)=>
  some (v,())) fun cL=>
 bif decide (c≥48) then
  cL (decide (c≤57))
 else
  cL false
def wS:Cl bD:=zd ⟨[],[],[]⟩ 91 f91 func91 call91 [U] [.bool] (fun d=>qC d.1) []
def kG(q:Nat):Nat→ao→Int→Option (Int×Unit)
 |0,_,_=>none
 |k + 1,hY,sr=>
  aa (fun(v2:Bool)=>
   bif v2 then
    kG q k hY (dP (sr + 1))
   else
    some (sr,())) fun jX=>
  bif decide (sr < (hY.length:Int)) then
   (bK hY sr).bind fun b=>
   (ru (b.toNat:Int)).bind fun r1=>
   aa (fun(v:Bool)=>
    jX v) fun cL=>
   bif r1.1 then
    cL true
   else
    (bK hY sr).bind fun b2=>
    (qC (b2.toNat:Int)).bind fun r2=>
    cL r2.1
  else
   jX false
def AZ(k:Nat)(ck:ao)(jf:Int):Option (Int×Unit):=
 (kG k k ck jf).bind fun o=>
 some (o.1,())
def Bz(k:Nat):m9:=⟨⟨24,[],[rD 0 .str],[rI 1],[]⟩,[.ex (.exit 0) [rI 1]],fun q c v=>kG k q c.1 v.1⟩
def F4(k:Nat):Ev bD:=⟨[Br,wS],[lp 0 (Bz k) k],[]⟩
def Ja(k q:Nat):Cd bD:=oz (F4 k) f89 0 (Bz k) q []
def OB(k:Nat):Cl bD:=zd (F4 k) 89 f89 func89 call89 [.str,I] [I] (fun d=>AZ k d.1 d.2.1) [Ja k k]
def yN(ck:ao):Option (Bool×Unit):=
 aa (fun(v:Bool)=>
  aa (fun(v2:Bool)=>
   aa (fun(v3:Bool)=>
    aa (fun(v4:Bool)=>
     aa (fun(v5:Bool)=>
      aa (fun(v6:Bool)=>
       aa (fun(v7:Bool)=>
        aa (fun(v8:Bool)=>
         aa (fun(v9:Bool)=>
          aa (fun(v10:Bool)=>
           aa (fun(v11:Bool)=>
            aa (fun(v12:Bool)=>
             aa (fun(v13:Bool)=>
              aa (fun(v14:Bool)=>
               aa (fun(v15:Bool)=>
                aa (fun(v16:Bool)=>
                 some (v16,())) fun acU=>
                bif v15 then
                 acU true
                else
                 acU (ck == ([110,117,108,108]:ao))) fun acT=>
               bif v14 then
                acT true
               else
                acT (ck == ([110,111,116]:ao))) fun acS=>
              bif v13 then
               acS true
              else
               acS (ck == ([111,114]:ao))) fun W3=>
             bif v12 then
              W3 true
             else
              W3 (ck == ([97,110,100]:ao))) fun W2=>
            bif v11 then
             W2 true
            else
             W2 (ck == ([114,101,116,117,114,110]:ao))) fun W1=>
           bif v10 then
            W1 true
           else
            W1 (ck == ([115,116,111,112]:ao))) fun Rb=>
          bif v9 then
           Rb true
          else
           Rb (ck == ([97,115,115,101,114,116]:ao))) fun jx9=>
         bif v8 then
          jx9 true
         else
          jx9 (ck == ([112,114,105,110,116]:ao))) fun jx8=>
        bif v7 then
         jx8 true
        else
         jx8 (ck == ([114,101,97,100]:ao))) fun jx7=>
       bif v6 then
        jx7 true
       else
        jx7 (ck == ([102,111,114]:ao))) fun jx6=>
      bif v5 then
       jx6 true
      else
       jx6 (ck == ([119,104,105,108,101]:ao))) fun jx5=>
     bif v4 then
      jx5 true
     else
      jx5 (ck == ([101,108,115,101]:ao))) fun jx4=>
    bif v3 then
     jx4 true
    else
     jx4 (ck == ([105,102]:ao))) fun yx=>
   bif v2 then
    yx true
   else
    yx (ck == ([102,117,110,99]:ao))) fun jX=>
  bif v then
   jX true
  else
   jX (ck == ([114,101,102]:ao))) fun cL=>
 bif ck == ([97,114,114,97,121]:ao) then
  cL true
 else
  cL (ck == ([118,97,114]:ao))
def Mx:Cl bD:=zd ⟨[],[],[]⟩ 90 f90 func90 call90 [.str] [.bool] (fun d=>yN d.1) []
end
end Go.Fx.R5
namespace Go.Fx.R5
open Go Go.Fx Go.Proofs Go.Proofs.Tryz
noncomputable section
def PN:Code→Code | .seq a _=>a | c=>c
def sqB:Code→Code | .seq _ b=>b | c=>c
noncomputable def q0:Code:=qK f41
noncomputable def q1:Code:=sqB q0
noncomputable def q2:Code:=sqB q1
noncomputable def q3:Code:=sqB q2
noncomputable def q4:Code:=sqB q3
noncomputable def q5:Code:=sqB q4
def B9(k:Nat):Ev bD:=⟨[HL k,BR k],[],[(2,9002),(3,9003),(19,126)]⟩
abbrev ptR:List Ty:=[.slice (.cX I (.cX I (.cX I (.cX .str (.slice I))))),.cX I I]
def T2(o:Nat):Option ae→Bool
 |some (.one (.mT p z))=>Nat.beq p o && Nat.beq z 0
 |_=>false
def QS(n:Nat):Option (List af)→Bool
 |some l=>Nat.beq l.length n
 |none=>false
def Us(st:St):Bool:=(st.ib 20).isNone && Nat.beq st.n 28 && T2 9002 (st.ib 2) && T2 9003 (st.ib 3) && QS 1 (st.dJ 9002) && QS 2 (st.dJ 9003)
def ptP(av:ae)(st:St):Option (DL ptR):=
 match av with
 |.y5 T ls=>bif Nat.beq T 128 && QS 1 (st.dJ 9002) && QS 2 (st.dJ 9003) then(Nt [I,I] ls).map fun d=>([],(d.1,d.2.1),()) else none
 |_=>none
noncomputable def Vv(k:Nat)(e:Exit)(st:St):Option (DL ptR):=match e with
 |.normal=>rW (B9 k).e (sqB q5) st (kD (B9 k).e f41.results.toList ptR) (fun _ _=>none)
 |_=>none
noncomputable def aep(k:Nat)(e:Exit)(st:St):Option (DL ptR):=match e with
 |.normal=>bif Us st then rW (B9 k).e (PN q5) st (Vv k) ptP else none
 |_=>none
noncomputable def aeo(k:Nat)(e:Exit)(st:St):Option (DL ptR):=match e with
 |.normal=>rW (B9 k).e (PN q3) st (aep k) (fun _ _=>none)
 |.ret=>M3 (B9 k).e f41.results.toList ptR st
 |_=>none
noncomputable def aen(k:Nat)(e:Exit)(st:St):Option (DL ptR):=match e with
 |.normal=>rW (B9 k).e (PN q2) st (aeo k) (fun _ _=>none)
 |_=>none
noncomputable def aem(k:Nat)(e:Exit)(st:St):Option (DL ptR):=match e with
 |.normal=>rW (B9 k).e (PN q1) st (aen k) (fun _ _=>none)
 |_=>none
def oX(k:Nat)(s:ao):Option (List (Int×Int×Int×ao×List Int)×(Int×Int)×Unit):=
 (my k s).bind fun r=>bif r.2.1.1 != 0 then some ([],r.2.1,()) else
 (n8 k r.1 (s.length:Int) 0 0 []).bind fun r=>match r with
 |.inl o=>some (o.2.2.1,(0,0),())
 |.inr p=>some ([],(p.1,p.2.1),())
def I3(k:Nat):iT:=Ah [.str] ptR (fun d=>oX k d.1) id
theorem ab7(k:Nat)(d:DL [.str]):oX k d.1=rW (B9 k).e (PN q0) (stD 28 [.str] d) (aem k) (fun _ _=>none):=by kernel_rfl
def abj:Oper:={dst:=some 20,op:=.makeFunc (.func 70) #[] #[.tmp 2,.tmp 3],type:=1,pos:= "l3_parse.go:79",after:=#[],guard:=none}
def aaJ:Oper:={dst:=none,op:=.defer {callee:=.value (.tmp 20),args:=#[],argTypes:=#[]},type:=0,pos:= "l3_parse.go:79",after:=#[{on:=0,ground:=.data}],guard:=none}
def Rm:Oper:={dst:=some 21,op:=.move (.tmp 5),type:=124,pos:= "l3_parse.go:84",after:=#[],guard:=none}
def QA:Oper:={dst:=some 22,op:=.call {callee:=.value (.func 71),args:=#[.tmp 21],argTypes:=#[124]},type:=0,pos:= "l3_parse.go:84",after:=#[{on:=0,ground:=.data}],guard:=none}
theorem Zf:f41.body=some (.seq (PN q0) (.seq (PN q1) (.seq (PN q2) (.seq (PN q3) (.seq (.region 5 #[abj,aaJ] false) (.seq (PN q5) (sqB q5))))))):=by kernel_rfl
theorem Zg:PN q5 = .region 6 #[Rm,QA] false:=by kernel_rfl
theorem Ra{o:Nat}{x:Option ae}(h:T2 o x=true):x=some (.one (.mT o 0)):=by
 unfold T2 at h;split at h
 ·simp only [Bool.and_eq_true] at h
  rw [Nat.eq_of_beq_eq_true h.1,Nat.eq_of_beq_eq_true h.2]
 ·cases h
theorem J3{n:Nat}{x:Option (List af)}(h:QS n x=true):∃ l,x=some l∧l.length=n:=by
 unfold QS at h;split at h
 ·exact⟨_,rfl,Nat.eq_of_beq_eq_true h⟩
 ·cases h
theorem Wg{Q:Exit→Act→World→Prop}{act:Act}{w:World}(hn:act.tmps.size=28)(h:Q .normal {tmps:=act.tmps.setIfInBounds 20 (.func (.func 70) #[] #[act.tmps.getD 2 undef,act.tmps.getD 3 undef]),defers:=⟨.fn (.func 70) #[act.tmps.getD 2 undef,act.tmps.getD 3 undef],#[]⟩ :: act.defers} w):
  (Code.region 5 #[abj,aaJ] false).wp prog Q act w:=by
 refine wp_region_list ?_;have hmf:∀(fn:Fn) (first cap:Array Value) (w:World),(Instr.makeFunc fn first cap).run prog w = .ok (.func fn first cap) w:=fun _ _ _ _=>rfl
 simp [wpList,abj,aaJ,go_sem,hmf,hn];refine .inl (.inl ?_);simpa [hn] using h
def Kt(b2 o2 b3 o3:Nat)(act:Act):Prop:=
 act.tmps.size=28∧act.tmps.getD 2 undef = .pointer (some ⟨b2,o2,none⟩)∧act.tmps.getD 3 undef = .pointer (some ⟨b3,o3,none⟩)∧act.defers = [⟨.fn (.func 70) #[.pointer (some ⟨b2,o2,none⟩),.pointer (some ⟨b3,o3,none⟩)],#[]⟩]
theorem Kt.put{b2 o2 b3 o3:Nat}{act:Act}(h:Kt b2 o2 b3 o3 act){d:Tmp}(hd:¬ d=2∧¬ d=3)(v:Value):Kt b2 o2 b3 o3 (act.put (some d) v):=by
 obtain⟨h1,h2,h3,h4⟩:=h;refine⟨by simp [Act.put,h1],?_,?_,h4⟩
 ·rw [←h2];simp only [Act.put,Array.getD_eq_getD_getElem?];rw [Array.getElem?_setIfInBounds_ne hd.1]
 ·rw [←h3];simp only [Act.put,Array.getD_eq_getD_getElem?];rw [Array.getElem?_setIfInBounds_ne hd.2]
theorem KL{w:World}{b o:Nat}{arr:Array Value}{elem:TypeId}(h:w.heap[b]? = some (.cells arr elem (0,0)))(hl:o < arr.size):(∃ x,w.cell? ⟨b,o,none⟩=some x)∧w.frozen? ⟨b,o,none⟩=false:=by
 refine⟨⟨arr[o],?_⟩,?_⟩
 ·simp [World.cell?,h,hl]
 ·simp [World.frozen?,h]
theorem Zh(k:Nat){b2 o2 b3 o3:Nat}{X:mo}(hg:mX gt X.S0){st:St}{G:Gh}{w:World}{act:Act}{y:DL ptR}{Q:Exit→Act→World→Prop}(h:rW (B9 k).e (PN q5) st (Vv k) ptP=some y)(hm:aB X st G w)(hr:bI G st act)(ha:Kt b2 o2 b3 o3 act)
  (hK:∀ st G w act,aB X st G w→bI G st act→Kt b2 o2 b3 o3 act→Vv k .normal st=some y→Q .normal act w)
  (hP:∀ av v st G w act,aB X st G w→Kt b2 o2 b3 o3 act→aT G av v→ptP av st=some y→Q (.panic [{v,recovered:=false}]) act w):(PN q5).wp prog Q act w:=by
 have hE:=(B9 k).ok;rw [Zg] at h ⊢;refine wp_region_list ?_;have h:lP (B9 k).e Rm st (fun v st'=>oA Rm.dst v st' fun s=>lP (B9 k).e QA s (fun v st'=>oA QA.dst v st' fun s=>Vv k .normal s) ptP) ptP=some y:=h;have w1:Region.wanted Rm (yielded #[Rm,QA] act.tmps)=true:=rfl;show(if Region.wanted Rm (yielded #[Rm,QA] act.tmps)=true then _ else _)
 rw [if_pos w1];refine .inl (Gs hE.ir hE.Ag h hg hm hr (fun av v st' G' w' m' r' v' k'=>?_) (fun av v st' G' w' m' v' k'=>hP av v st' G' w' act m' ha v' k'));obtain⟨s,m2,r2,k2⟩:=Ki k' m' r' v';have ha1:=ha.put (d:=21) (by decide) v
 show(if Region.wanted QA (yielded #[Rm,QA] (act.put (some 21) v).tmps)=true then _ else _)
 rw [if_pos (show Region.wanted QA _=true from rfl)]
 refine .inl (Gs hE.ir hE.Ag k2 hg m2 r2 (fun av v2 st' G' w' m' r' v' k'=>?_) (fun av v2 st' G' w' m' v' k'=>hP av v2 st' G' w' _ m' ha1 v' k'));obtain⟨s,m3,r3,k3⟩:=Ki k' m' r' v';exact hK _ _ _ _ m3 r3 (ha1.put (d:=22) (by decide) v2) k3
open Go.RowKit (Below)
def XJ(b2 b3:Nat)(M0 po2 Eu po3:List Value)(o:Nat):Option (Nat×List Value×List Value):=
 if o=9002 then some (b2,M0,po2) else if o=9003 then some (b3,Eu,po3) else none
theorem Zd{b2 b3:Nat}{M0 po2 Eu po3:List Value}(o:Nat)(q:Nat×List Value×List Value)(h:XJ b2 b3 M0 po2 Eu po3 o=some q):o < 10000:=by
 unfold XJ at h;split at h
 ·omega
 ·split at h
  ·omega
  ·cases h
theorem sco{w:World}{a b:Addr}{v:Value}(h:a.block≠b.block∨a.off≠b.off):(w.setCell a v).cell? b=w.cell? b:=World.cell?_setCell_other _ _ _ _ (fun e=>by subst e;simp at h)
theorem Zi{X:mo}{b2 b3:Nat}{M0 po2 Eu po3:List Value}(Vd:∀ o q,XJ b2 b3 M0 po2 Eu po3 o=some q→X.pin o=some q){st:St}{G:Gh}{w:World}{act:Act}{av:ae}{v:Value}{y:DL ptR}(jo:∀ b,¬ X.Vq b)(hm:aB X st G w)(ha:Kt b2 M0.length b3 Eu.length act)(hv:aT G av v)(hk:ptP av st=some y)
  {R:Ending→World→Prop} (hR:∀ c a w',y=([],(c,a),())→Below X.w0.heap.size w w'→R (.returned (.tuple #[.slice none 0 0,.agg #[.int .i64 c,.int .i64 a]])) w'):Leaves prog f41 act.tmps R act.defers (.panicking [{v,recovered:=false}]) w:=by
 obtain⟨h1,h2,h3,h4⟩:=ha;have p2:=hm.pin 9002 _ (Vd 9002 _ rfl);have p3:=hm.pin 9003 _ (Vd 9003 _ rfl);obtain⟨⟨l2,e2⟩,e2'⟩:=p2;obtain⟨⟨l3,e3⟩,e3'⟩:=p3;simp only [Prod.mk.injEq] at e2' e3';unfold ptP at hk;split at hk
 ·rename_i T ls
  cases hc:(Nat.beq T 128 && QS 1 (st.dJ 9002) && QS 2 (st.dJ 9003)) with
  |false=>rw [hc] at hk;cases hk
  |true=>
   rw [hc] at hk;simp only [Bool.and_eq_true] at hc;obtain⟨⟨c1,c2⟩,c3⟩:=hc;obtain rfl:=Nat.eq_of_beq_eq_true c1;obtain⟨l2',c2,n2⟩:=J3 c2;obtain⟨l3',c3,n3⟩:=J3 c3;obtain⟨d,hd,rfl⟩:=Option.map_eq_some_iff.1 hk;obtain⟨g1,g2⟩:=Gy hd;obtain⟨c,a,u⟩:=d;subst g2;obtain⟨u,cs,rfl,hu,Fm⟩:=hv;have YV:u = .agg #[.int .i64 c,.int .i64 a]:=by
    match cs,Fm,hu with
    |[x,z],⟨hx,hz,_⟩,hu=>
     have hx:=(Aj (t:=I) rfl).1 hx;have hz:=(Aj (t:=I) rfl).1 hz;subst hx hz;cases u with
     |agg A=>exact congrArg Value.agg (Array.toList_inj.1 hu)
     |_=>exact absurd (congrArg List.length hu) (by simp [Value.cells])
   subst YV;obtain⟨V3,el2,m2,o1,o2,o3⟩:=hm.ob 9002 _ c2;obtain⟨ab0,el3,m3,q1,q2,q3⟩:=hm.ob 9003 _ c3;have lm2:m2.length=1:=by have:=All2.length o3;rw [iF] at this;omega
   have lm3:m3.length=2:=by have:=All2.length q3;rw [iF] at this;omega
   have B2:b2=G.φ 9002:=e2'.1;have B3:b3=G.φ 9003:=e3'.1;have P2:M0=G.pre 9002:=e2'.2.1;have P3:Eu=G.pre 9003:=e3'.2.1;rw [←B2] at o1;rw [←B3] at q1;rw [←P2] at o2;rw [←P3] at q2;have s2:M0.length + 1≤V3.size:=by have:=congrArg List.length o2;simp only [Array.length_toList,List.length_append] at this;omega
   have s3:Eu.length + 2≤ab0.size:=by have:=congrArg List.length q2;simp only [Array.length_toList,List.length_append] at this;omega
   obtain⟨⟨x2,f2⟩,z2⟩:=KL (o:=M0.length) o1 (by omega)
   obtain⟨⟨x3,f3⟩,z3⟩:=KL (o:=Eu.length) q1 (by omega)
   obtain⟨⟨x4,f4⟩,z4⟩:=KL (o:=Eu.length + 1) q1 (by omega)
   have ow2:eU G st (false,9002) b2:=⟨⟨_,c2⟩,B2⟩;have ow3:eU G st (false,9003) b3:=⟨⟨_,c3⟩,B3⟩;have hb:b2≠b3:=fun e=>by subst e;have:=hm.pO _ _ _ ow2 ow3;simp at this
   have k2:=(hm.sD _ _ ow2).resolve_left (jo _);have k3:=(hm.sD _ _ ow3).resolve_left (jo _);have lt2:=fT o1;have lt3:=fT q1;rw [h4];refine leaves_cons (f:=70) (args:=#[.pointer (some ⟨b2,M0.length,none⟩),.pointer (some ⟨b3,Eu.length,none⟩)]) (by simp) (by simp [go_sem,invoke,call70]) ?_
   refine(Js b2 M0.length b3 Eu.length c a x2 x3 x4 [] w hb lt2 lt3 f2 z2 f3 z3 f4 z4).mono ?_;rintro e u' w'' ⟨rfl,rfl,rfl⟩;have bel:Below X.w0.heap.size w ((((w.alloc (.cells #[.int .i64 c,.int .i64 a] 128)).setCell ⟨b2,M0.length,none⟩ (.slice none 0 0)).setCell ⟨b3,Eu.length,none⟩ (.int .i64 c)).setCell ⟨b3,Eu.length + 1,none⟩ (.int .i64 a)).drew:=
    (((((Below.refl _ w).alloc hm.sz _).setCell k2 _).setCell k3 _).setCell k3 _).drew
   have hb':b3≠b2:=fun e=>hb e.symm;have g2:((((w.alloc (.cells #[.int .i64 c,.int .i64 a] 128)).setCell ⟨b2,M0.length,none⟩ (.slice none 0 0)).setCell ⟨b3,Eu.length,none⟩ (.int .i64 c)).setCell ⟨b3,Eu.length + 1,none⟩ (.int .i64 a)).drew.cell? ⟨b2,M0.length,none⟩=some (.slice none 0 0):=by show((((w.alloc (.cells #[.int .i64 c,.int .i64 a] 128)).setCell ⟨b2,M0.length,none⟩ (.slice none 0 0)).setCell ⟨b3,Eu.length,none⟩ (.int .i64 c)).setCell ⟨b3,Eu.length + 1,none⟩ (.int .i64 a)).cell? ⟨b2,M0.length,none⟩=_;exact(sco (.inl hb')).trans ((sco (.inl hb')).trans (World.cell?_setCell_same _ _ _ ((World.cell?_alloc_past _ _ _ lt2).trans f2)))
   have g3:((((w.alloc (.cells #[.int .i64 c,.int .i64 a] 128)).setCell ⟨b2,M0.length,none⟩ (.slice none 0 0)).setCell ⟨b3,Eu.length,none⟩ (.int .i64 c)).setCell ⟨b3,Eu.length + 1,none⟩ (.int .i64 a)).drew.cell? ⟨b3,Eu.length,none⟩=some (.int .i64 c):=by show((((w.alloc (.cells #[.int .i64 c,.int .i64 a] 128)).setCell ⟨b2,M0.length,none⟩ (.slice none 0 0)).setCell ⟨b3,Eu.length,none⟩ (.int .i64 c)).setCell ⟨b3,Eu.length + 1,none⟩ (.int .i64 a)).cell? ⟨b3,Eu.length,none⟩=_;exact(sco (.inr (Nat.succ_ne_self _))).trans (World.cell?_setCell_same _ _ _ ((sco (.inl hb)).trans ((World.cell?_alloc_past _ _ _ lt3).trans f3)))
   have g4:((((w.alloc (.cells #[.int .i64 c,.int .i64 a] 128)).setCell ⟨b2,M0.length,none⟩ (.slice none 0 0)).setCell ⟨b3,Eu.length,none⟩ (.int .i64 c)).setCell ⟨b3,Eu.length + 1,none⟩ (.int .i64 a)).drew.cell? ⟨b3,Eu.length + 1,none⟩=some (.int .i64 a):=by show((((w.alloc (.cells #[.int .i64 c,.int .i64 a] 128)).setCell ⟨b2,M0.length,none⟩ (.slice none 0 0)).setCell ⟨b3,Eu.length,none⟩ (.int .i64 c)).setCell ⟨b3,Eu.length + 1,none⟩ (.int .i64 a)).cell? ⟨b3,Eu.length + 1,none⟩=_;exact World.cell?_setCell_same _ _ _ ((sco (.inr (Nat.succ_ne_self _).symm)).trans ((sco (.inl hb)).trans ((World.cell?_alloc_past _ _ _ lt3).trans f4)))
   generalize ((((w.alloc (.cells #[.int .i64 c,.int .i64 a] 128)).setCell ⟨b2,M0.length,none⟩ (.slice none 0 0)).setCell ⟨b3,Eu.length,none⟩ (.int .i64 c)).setCell ⟨b3,Eu.length + 1,none⟩ (.int .i64 a)).drew=W at *;refine⟨_,?_,hR c a W rfl bel⟩;rw [Array.getD_eq_getD_getElem?] at h2 h3;simp [results,results41,go_sem,h2,h3,g2,g3,g4]
 ·cases hk
theorem QP(k:Nat):lZ prog gt 41 (I3 k):=by
 refine⟨?_,Ai _ _ _ _,wy _ _ _ _⟩;have hE:=(B9 k).ok;intro R r X st G w dst args vs K KP hr ye hm _ ha;simp only [I3,Ah] at hr;split at hr
 ·rename_i vw hs
  split at hr
  ·rename_i d hd
   obtain⟨y,hx,hr⟩:=Option.bind_eq_some_iff.1 hr;obtain⟨G1,m1,a1,k1⟩:=xP hs hm;have Ap:mX gt (QD G1.S w).S0:=ye.mono m1.s0;have hdr:=Cy m1 hd (ha.imp fun a v h=>h.sub a1);rw [ab7] at hx;refine⟨call41 _ _,calls_of_wp_defers func41 Zf ?_⟩;have r0:∀{s:St} {G3:Gh} {w3:World} {act:Act},aB (QD G1.S w) s G3 w3→bI G3 s act→M3 (B9 k).e f41.results.toList ptR s=some y→∃ v,(results f41 act.tmps).run prog w3 = .ok v w3∧∃ av st' G',aB X st' G' w3∧(∀ act,bI G st act→bI G' st' act)∧aT G' av v∧K av st' = some r:=
    fun m3 r3 Ic=>RV hE hm m1 a1 k1 hr m3 r3 Ic
   refine wp_seq (yK hE Ap (PN q0) (uK (l:=[]) (by kernel_rfl) trivial) hx (Tj m1.sh _ _ _) (KU hdr (n:=28) (Nat.le_of_ble_eq_true rfl)) (fun e s G2 w2 Qk m2 r2 k2=>?_) (fun av v s G3 w' act m3 r3 hv hk=>by cases hk))
   cases e with
   |normal=>
    refine wp_seq (yK hE Ap (PN q1) (uK (l:=[]) (by kernel_rfl) trivial) k2 m2 r2 (fun e s G2 w2 Qk m2 r2 k2=>?_) (fun av v s G3 w' act m3 r3 hv hk=>by cases hk))
    cases e with
    |normal=>
     refine wp_seq (yK hE Ap (PN q2) (uK (l:=[]) (by kernel_rfl) trivial) k2 m2 r2 (fun e s G2 w2 Qk m2 r2 k2=>?_) (fun av v s G3 w' act m3 r3 hv hk=>by cases hk))
     cases e with
     |ret=>show Leaves _ _ Qk.tmps _ Qk.defers .returning w2;rw [r2.1.trans m2.ds];exact r0 m2 r2 k2
     |normal=>
      refine wp_seq (yK hE Ap (PN q3) (uK (l:=[]) (by kernel_rfl) trivial) k2 m2 r2 (fun e s G2 w2 Qk m2 r2 k2=>?_) (fun av v s G3 w' act m3 r3 hv hk=>by cases hk))
      cases e with
      |normal=>
       have k2:(bif Us s then rW (B9 k).e (PN q5) s (Vv k) ptP else none)=some y:=k2
       cases hc:Us s with
       |false=>rw [hc] at k2;cases k2
       |true=>
        rw [hc] at k2;have k2:rW (B9 k).e (PN q5) s (Vv k) ptP=some y:=k2;simp only [Us,Bool.and_eq_true] at hc;obtain⟨⟨⟨⟨⟨c20,cn⟩,c2⟩,c3⟩,d2⟩,d3⟩:=hc;have cn:=Nat.eq_of_beq_eq_true cn;obtain⟨l2,d2,_⟩:=J3 d2;obtain⟨l3,d3,_⟩:=J3 d3;have p2:Qk.tmps.getD 2 undef = .pointer (some ⟨G2.φ 9002,(G2.pre 9002).length,none⟩):=r2.2.2 2 _ (Ra c2);have p3:Qk.tmps.getD 3 undef = .pointer (some ⟨G2.φ 9003,(G2.pre 9003).length,none⟩):=r2.2.2 3 _ (Ra c3);have mw:Qk.tmps.size=28:=r2.2.1.trans cn;refine wp_seq (Wg mw ?_);rw [p2,p3,r2.1.trans m2.ds];have m4:=m2.X2 [⟨.fn (.func 70) #[.pointer (some ⟨G2.φ 9002,(G2.pre 9002).length,none⟩),.pointer (some ⟨G2.φ 9003,(G2.pre 9003).length,none⟩)],#[]⟩] (XJ (G2.φ 9002) (G2.φ 9003) (G2.pre 9002) (G2.post 9002) (G2.pre 9003) (G2.post 9003)) Zd (fun o q hq=>by
         unfold XJ at hq;split at hq
         ·rename_i e;subst e;cases hq;exact⟨⟨_,d2⟩,rfl⟩
         ·split at hq
          ·rename_i e;subst e;cases hq;exact⟨⟨_,d3⟩,rfl⟩
          ·cases hq)
        have aei:∀ i v,s.ib i=some v→¬ 20=i:=fun i v hv e=>by subst e;rw [hv] at c20;cases c20
        refine wp_seq (Zh k (b2:=G2.φ 9002) (o2:=(G2.pre 9002).length) (b3:=G2.φ 9003) (o3:=(G2.pre 9003).length) (by exact Ap) k2 m4 ⟨rfl,by simpa using r2.2.1,fun i v hv=>?_⟩ ⟨by simpa using mw,?_,?_,rfl⟩ (fun s5 G5 w5 adD m5 r5 pa5 k5=>?_) (fun av v s5 G5 w5 adD m5 pa5 hv k5=>?_))
        ·simp only [Array.getD_eq_getD_getElem?]
         rw [Array.getElem?_setIfInBounds_ne (aei i v hv)];exact Gh.abR (by have:=r2.2.2 i v hv;rwa [Array.getD_eq_getD_getElem?] at this)
        ·rw [←p2];simp only [Array.getD_eq_getD_getElem?];rw [Array.getElem?_setIfInBounds_ne (by decide)]
        ·rw [←p3];simp only [Array.getD_eq_getD_getElem?];rw [Array.getElem?_setIfInBounds_ne (by decide)]
        ·refine yK hE (by exact Ap) (sqB q5) (uK (l:=[]) (by kernel_rfl) trivial) k5 m5 r5 (fun e s7 G7 w7 aaw m7 r7 k7=>?_) (fun av v s G3 w' act m3 r3 hv hk=>by cases hk)
         have done:M3 (B9 k).e f41.results.toList ptR s7=some y→Leaves prog f41 aaw.tmps (fun e w'=>match e with
           |.returned v=>∃ av st' G',aB X st' G' w'∧(∀ act,bI G st act→bI G' st' act)∧aT G' av v∧K av st' = some r
           |.panicked Gm=>∃ v,Gm = [{v,recovered:=false}]∧∃ av st' G',aB X st' G' w'∧aT G' av v∧KP av st' = some r
           |.outgrown=>False) aaw.defers .returning w7:=fun k7=>by
          rw [r7.1.trans m7.ds];refine leaves_cons (f:=70) (args:=#[.pointer (some ⟨G2.φ 9002,(G2.pre 9002).length,none⟩),.pointer (some ⟨G2.φ 9003,(G2.pre 9003).length,none⟩)]) (by simp) (by simp [go_sem,invoke,call70]) ((Sz _ _ w7).mono ?_)
          rintro e u' w' ⟨rfl,rfl,rfl⟩;have bel:=(Below.refl w7.heap.size w7).alloc (Nat.le_refl _) (.cells #[.int .i64 0,.int .i64 0] 128);have m8:=(m7.aaR bel.block bel.size bel.os bel.tape bel.output).X2 [] (fun _=>none) (fun _ _ h=>by cases h) (fun _ _ h=>by cases h)
          exact r0 (act:={aaw with defers:=[]}) m8 ⟨rfl,r7.2.1,fun i v h=>Gh.abR (r7.2.2 i v h)⟩ k7
         cases e with
         |normal=>exact done k7
         |ret=>exact done k7
         |_=>cases k7
        ·refine Zi (po2:=G2.post 9002) (po3:=G2.post 9003) (fun o q h=>h) (fun b h=>h) m5 pa5 hv k5 (fun c a w' hy bel=>?_)
         subst hy;refine⟨RG ptR ([],(c,a),()),vw,G1,m1.aaR (fun b hb=>(bel.block b hb).trans (m5.fr b hb (fun h=>h))) (Nat.le_trans m5.sz bel.size) (bel.os.trans m5.os) (bel.tape.trans m5.tp) (bel.output.trans m5.out),fun act ra=>zS k1 a1 ra,?_,hr⟩;exact Kh (rs:=ptR) (vs:=[.slice none 0 0,.agg #[.int .i64 c,.int .i64 a]]) ⟨⟨_,rfl,rfl,.inl ⟨rfl,none,0,rfl⟩⟩,⟨[.int .i64 c,.int .i64 a],rfl,[.int .i64 c],[.int .i64 a],[],[],rfl,rfl,⟨rfl,rfl⟩,⟨rfl,rfl⟩⟩,trivial⟩
      |_=>cases k2
     |_=>cases k2
    |_=>cases k2
   |_=>cases k2
  ·cases hr
 ·cases hr
def Qv(k:Nat):Cl bD:=⟨_,_,QP k⟩
end
end Go.Fx.R5
namespace Go.Fx.R5
open Go Go.Fx Go.Proofs Go.Proofs.Tryz
noncomputable section
def iv(q:Nat):Nat→ao→Int→Option (Int×Unit)
 |0,_,_=>none
 |k + 1,hY,sr=>
  aa (fun(v:Bool)=>
   bif v then
    iv q k hY (dP (sr + 1))
   else
    some (sr,())) fun cL=>
  bif decide (sr < (hY.length:Int)) then
   (bK hY sr).bind fun b=>
   (qC (b.toNat:Int)).bind fun r1=>
   cL r1.1
  else
   cL false
def uz(k:Nat)(ck:ao)(jf:Int):Option (Int×Unit):=
 (iv k k ck jf).bind fun o=>
 some (o.1,())
def xy(k:Nat):m9:=⟨⟨18,[],[rD 0 .str],[rI 1],[]⟩,[.ex (.exit 0) [rI 1]],fun q c v=>iv k q c.1 v.1⟩
def A9(k:Nat):Ev bD:=⟨[wS],[lp 0 (xy k) k],[]⟩
def ER(k q:Nat):Cd bD:=oz (A9 k) f92 0 (xy k) q []
def Jo(k:Nat):Cl bD:=zd (A9 k) 92 f92 func92 call92 [.str,I] [I] (fun d=>uz k d.1 d.2.1) [ER k k]
def lw(q:Nat):Nat→ao→Int→Int→Option (Int×Unit)
 |0,_,_,_=>none
 |k + 1,s2,v3,i1=>
  bif decide (i1 < (s2.length:Int)) then
   (bK s2 i1).bind fun b2=>
   lw q k s2 (dP ((dP (v3 * 10)) + (dP ((IntKind.u8.wrap ((b2.toNat:Int) - 48)))))) (dP (i1 + 1))
  else
   some (v3,())
def o9(k:Nat)(s:ao):Option (Int×Unit):=
 aa (fun(v2:Bool)=>
  bif v2 then
   some ((-1),())
  else
   (lw k k s 0 0).bind fun o=>
   bif decide (o.1 > 2147483647) then
    some ((-1),())
   else
    some (o.1,())) fun jX=>
 bif decide ((s.length:Int) > 10) then
  jX true
 else
  aa (fun(v:Bool)=>
   jX v) fun cL=>
  bif decide ((s.length:Int) > 1) then
   (bK s 0).bind fun b=>
   cL ((b.toNat:Int) == 48)
  else
   cL false
def yB(k:Nat):m9:=⟨⟨35,[],[rD 0 .str],[rI 3,rI 4],[]⟩,[.ex (.exit 0) [rI 3]],fun q c v=>lw k q c.1 v.1 v.2.1⟩
def Ca(k:Nat):Ev bD:=⟨[],[lp 0 (yB k) k],[]⟩
def FV(k q:Nat):Cd bD:=oz (Ca k) f93 0 (yB k) q []
def KF(k:Nat):Cl bD:=zd (Ca k) 93 f93 func93 call93 [.str] [I] (fun d=>o9 k d.1) [FV k k]
def A0:Option (XS×Unit):=
 some ([([43,37]:ao),([45,37]:ao),([42,37]:ao),([60,60]:ao),([62,62]:ao),([61,61]:ao),([33,61]:ao),([60,61]:ao),([62,61]:ao),([46,46]:ao),([43,61]:ao),([43]:ao),([45]:ao),([42]:ao),([47]:ao),([37]:ao),([38]:ao),([124]:ao),([94]:ao),([60]:ao),([62]:ao),([61]:ao),([40]:ao),([41]:ao),([123]:ao),([125]:ao),([91]:ao),([93]:ao),([44]:ao),([59]:ao)],())
def KE:Cl bD:=zd ⟨[],[],[]⟩ 117 f117 func117 call117 [] [sS] (fun d=>A0) []
def mI(q:Nat):Nat→ao→Int→XS→Int→Option (((Unit)⊕(ao×Unit)))
 |0,_,_,_,_=>none
 |k + 1,hY,sr,l,i1=>
  bif decide (i1 < (l.length:Int)) then
   (bK l i1).bind fun x1=>
   aa (fun(v2:Bool)=>
    bif v2 then
     (bK l i1).bind fun x3=>
     some (.inr (x3,()))
    else
     mI q k hY sr l (dP (i1 + 1))) fun cL=>
   bif decide ((x1.length:Int)≤(dP ((hY.length:Int) - sr))) then
    (sub hY sr (dP (sr + (x1.length:Int)))).bind fun l2=>
    (bK l i1).bind fun x2=>
    cL (l2 == x2)
   else
    cL false
  else
   some (.inl ())
def yM(k:Nat)(ck:ao)(jf:Int):Option (ao×Unit):=
 aa (fun(v:Bool)=>
  bif v then
   some (([]:ao),())
  else
   (A0).bind fun r1=>
   (mI k k ck jf r1.1 0).bind fun r=>match r with
   |.inl o=>
    some (([]:ao),())
   |.inr o2=>
    some (o2.1,())) fun cL=>
 bif decide (jf < 0) then
  cL true
 else
  cL (decide (jf≥(ck.length:Int)))
def zW(k:Nat):m9:=⟨⟨51,[],[rD 0 .str,rI 1,rD 5 sS],[rI 6],[]⟩,[.ex (.exit 0) [],.ex .ret [rD 4 .str]],fun q c v=>mI k q c.1 c.2.1 c.2.2.1 v.1⟩
def Ec(k:Nat):Ev bD:=⟨[KE],[lp 0 (zW k) k],[]⟩
def Hy(k q:Nat):Cd bD:=oz (Ec k) f94 0 (zW k) q []
def Mw(k:Nat):Cl bD:=zd (Ec k) 94 f94 func94 call94 [.str,I] [.str] (fun d=>yM k d.1 d.2.1) [Hy k k]
def nQ(k:Nat)(ck:ao)(jf:Int):Option ((Int×Int×ao×Int)×Int×Int×Unit):=
 (bK ck jf).bind fun b=>
 (ru (b.toNat:Int)).bind fun r1=>
 bif r1.1 then
  (AZ k ck jf).bind fun r2=>
  (sub ck jf r2.1).bind fun l=>
  aa (fun(v:Int)=>
   bif decide ((l.length:Int) > 8) then
    some ((v,jf,l,0),r2.1,3,())
   else
    some ((v,jf,l,0),r2.1,0,())) fun cL=>
  (yN l).bind fun r3=>
  bif r3.1 then
   cL 3
  else
   cL 1
 else
  (bK ck jf).bind fun b2=>
  (qC (b2.toNat:Int)).bind fun r4=>
  bif r4.1 then
   (uz k ck jf).bind fun r5=>
   (sub ck jf r5.1).bind fun l2=>
   (o9 k l2).bind fun r6=>
   bif decide (r6.1 < 0) then
    some ((2,jf,l2,r6.1),r5.1,4,())
   else
    some ((2,jf,l2,r6.1),r5.1,0,())
  else
   (yM k ck jf).bind fun r7=>
   bif r7.1 == ([]:ao) then
    some ((4,jf,r7.1,0),jf,2,())
   else
    some ((4,jf,r7.1,0),(dP (jf + (r7.1.length:Int))),0,())
def OA(k:Nat):Cl bD:=zd ⟨[Br,OB k,Mx,wS,Jo k,KF k,Mw k],[],[(4,110)]⟩ 59 f59 func59 call59 [.str,I] [tT,I,I] (fun d=>nQ k d.1 d.2.1) []
def eQ(q:Nat):Nat→ao→Int→Int→XT→XT→Int→Option (((Int×Int×XT×Unit)⊕(Int×Int×XT×Unit)))
 |0,_,_,_,_,_,_=>none
 |k + 1,hY,w,w2,Xq,out,jf=>
  bif decide (jf < (hY.length:Int)) then
   (nQ q hY jf).bind fun r2=>
   bif r2.2.2.1 != 0 then
    some (.inr (r2.2.2.1,jf,Xq,()))
   else
    bif decide ((out.length:Int)≥700) then
     some (.inr (5,jf,Xq,()))
    else
     (lM out ([r2.1])).bind fun l=>
     (oD q hY r2.2.1).bind fun r3=>
     eQ q k hY w w2 Xq l r3.1
  else
   some (.inl (w,w2,out,()))
def mH(k:Nat)(ck:ao):Option (XT×(Int×Int)×Unit):=
 bif decide ((ck.length:Int) > 3000) then
  some ([],(1,0),())
 else
  (oD k ck 0).bind fun r1=>
  (eQ k k ck 0 0 [] [] r1.1).bind fun r=>match r with
  |.inl o=>
   some (o.2.2.1,(0,0),())
  |.inr o2=>
   some (o2.2.2.1,(o2.1,o2.2.1),())
def vK(k:Nat):m9:=⟨⟨51,[(37,2)],[rD 0 .str,rP 3 37],[lI 37 0,lI 37 1,(.r 4,.h .ez tT),(.r 5,.h .ez tT),rI 6],[]⟩,[.ex (.exit 0) [lI 37 0,lI 37 1,(.r 5,.h .ez tT)],.ex .ret [lI 37 0,lI 37 1,(.r 2,.h .ez tT)]],fun q c v=>eQ k q c.1 v.1 v.2.1 v.2.2.1 v.2.2.2.1 v.2.2.2.2.1⟩
def zm(k:Nat):Ev bD:=⟨[My k,OA k],[lp 0 (vK k) k],[(3,37)]⟩
def DK(k q:Nat):Cd bD:=oz (zm k) f35 0 (vK k) q []
def HO(k:Nat):Cl bD:=zd (zm k) 35 f35 func35 call35 [.str] [sT,tP] (fun d=>mH k d.1) [DK k k]
def fq(t:XT)(p Code:Int)(ck:ao):Option (Bool×Unit):=
 aa (fun(v:Bool)=>
  aa (fun(v2:Bool)=>
   aa (fun(v3:Bool)=>
    some (v3,())) fun yx=>
   bif v2 then
    (bK t p).bind fun x2=>
    yx (decide (x2.1≥3))
   else
    yx false) fun jX=>
  bif v then
   (bK t p).bind fun x1=>
   jX (x1.2.2.1 == ck)
  else
   jX false) fun cL=>
 bif Code == 0 then
  cL (decide (p < (t.length:Int)))
 else
  cL false
def ma:Cl bD:=mY ⟨[],[],[]⟩ 95 f95 func95 call95 [500000] ⟨⟨52,[(77,7)],[lD 77 0 sT,lI 77 1,lI 77 2,lF 77 3 tN,lI 77 4,lI 77 5,lI 77 6],[rP 0 77,rD 1 .str],[]⟩,[.ret [rD 500000 .bool] []],fun c v=>fq c.1 c.2.1 c.2.2.2.2.2.1 v.2.1⟩ []
def bU(t:XT)(p Code:Int)(ck:ao):Option (Bool×Int×Unit):=
 (fq t p Code ck).bind fun r1=>
 bif r1.1 then
  some (true,(dP (p + 1)),())
 else
  some (false,p,())
def jb:Cl bD:=mY ⟨[ma],[],[]⟩ 60 f60 func60 call60 [500000] ⟨⟨16,[(77,7)],[lD 77 0 sT,lI 77 2,lF 77 3 tN,lI 77 4,lI 77 5,lI 77 6],[rP 0 77,rD 1 .str,lI 77 1],[]⟩,[.ret [rD 500000 .bool,lI 77 1] []],fun c v=>bU c.1 v.2.2.1 c.2.2.2.2.1 v.2.1⟩ []
def cZ(t:XT)(p aE:Int):Option (Int×Unit):=
 bif decide (p < (t.length:Int)) then
  (bK t p).bind fun x1=>
  some (x1.2.1,())
 else
  some (aE,())
def fB:Cl bD:=mY ⟨[],[],[]⟩ 61 f61 func61 call61 [500000] ⟨⟨28,[(77,7)],[lD 77 0 sT,lI 77 1,lI 77 2,lF 77 3 tN,lI 77 4,lI 77 5,lI 77 6],[rP 0 77],[]⟩,[.ret [rI 500000] []],fun c v=>cZ c.1 c.2.1 c.2.2.1⟩ []
def iQ(t:XT)(p Code k1:Int):Option (Bool×Unit):=
 aa (fun(v:Bool)=>
  aa (fun(v2:Bool)=>
   some (v2,())) fun jX=>
  bif v then
   (bK t p).bind fun x1=>
   jX (x1.1 == k1)
  else
   jX false) fun cL=>
 bif Code == 0 then
  cL (decide (p < (t.length:Int)))
 else
  cL false
def nh:Cl bD:=mY ⟨[],[],[]⟩ 96 f96 func96 call96 [500000] ⟨⟨38,[(77,7)],[lD 77 0 sT,lI 77 1,lI 77 2,lF 77 3 tN,lI 77 4,lI 77 5,lI 77 6],[rP 0 77,rI 1],[]⟩,[.ret [rD 500000 .bool] []],fun c v=>iQ c.1 c.2.1 c.2.2.2.2.2.1 v.2.1⟩ []
def iP(t:XT)(p aE Code At code:Int):Option (Int×Int×Unit):=
 bif Code == 0 then
  (cZ t p aE).bind fun r1=>
  some (code,r1.1,())
 else
  some (Code,At,())
def ng:Cl bD:=mY ⟨[fB],[],[]⟩ 97 f97 func97 call97 [] ⟨⟨17,[(77,7)],[lD 77 0 sT,lI 77 1,lI 77 2,lF 77 3 tN,lI 77 4],[rP 0 77,rI 1,lI 77 5,lI 77 6],[]⟩,[.ret [lI 77 5,lI 77 6] []],fun c v=>iP c.1 c.2.1 c.2.2.1 v.2.2.1 v.2.2.2.1 v.2.1⟩ []
def dz(t:XT)(p aE Code At:Int):Option (ao×Int×Int×Int×Unit):=
 (iQ t p Code 1).bind fun r1=>
 bif !r1.1 then
  (iP t p aE Code At 6).bind fun r2=>
  some (([]:ao),p,r2.1,r2.2.1,())
 else
  (bK t (dP ((dP (p + 1)) - 1))).bind fun x1=>
  some (x1.2.2.1,(dP (p + 1)),Code,At,())
def ja:Cl bD:=mY ⟨[nh,ng],[],[]⟩ 62 f62 func62 call62 [500000] ⟨⟨28,[(77,7)],[lD 77 0 sT,lI 77 2,lF 77 3 tN,lI 77 4],[rP 0 77,lI 77 1,lI 77 5,lI 77 6],[]⟩,[.ret [rD 500000 .str,lI 77 1,lI 77 5,lI 77 6] []],fun c v=>dz c.1 v.2.1 c.2.1 v.2.2.1 v.2.2.2.1⟩ []
def aN(t:XT)(p aE Code At:Int)(ck:ao):Option (Int×Int×Int×Unit):=
 (bU t p Code ck).bind fun r1=>
 bif !r1.1 then
  (iP t r1.2.1 aE Code At 6).bind fun r2=>
  some (r1.2.1,r2.1,r2.2.1,())
 else
  some (r1.2.1,Code,At,())
def iZ:Cl bD:=mY ⟨[jb,ng],[],[]⟩ 63 f63 func63 call63 [] ⟨⟨10,[(77,7)],[lD 77 0 sT,lI 77 2,lF 77 3 tN,lI 77 4],[rP 0 77,rD 1 .str,lI 77 1,lI 77 5,lI 77 6],[]⟩,[.ret [lI 77 1,lI 77 5,lI 77 6] []],fun c v=>aN c.1 v.2.2.1 c.2.1 v.2.2.2.1 v.2.2.2.2.1 v.2.1⟩ []
def lC(t:XT)(p aE Code At:Int):Option (Int×Int×Int×Int×Unit):=
 (iQ t p Code 2).bind fun r1=>
 bif !r1.1 then
  (iP t p aE Code At 6).bind fun r2=>
  some (0,p,r2.1,r2.2.1,())
 else
  (bK t (dP ((dP (p + 1)) - 1))).bind fun x1=>
  some (x1.2.2.2,(dP (p + 1)),Code,At,())
def yq:Cl bD:=mY ⟨[nh,ng],[],[]⟩ 64 f64 func64 call64 [500000] ⟨⟨28,[(77,7)],[lD 77 0 sT,lI 77 2,lF 77 3 tN,lI 77 4],[rP 0 77,lI 77 1,lI 77 5,lI 77 6],[]⟩,[.ret [rI 500000,lI 77 1,lI 77 5,lI 77 6] []],fun c v=>lC c.1 v.2.1 c.2.1 v.2.2.1 v.2.2.2.1⟩ []
def aV(aA:XN)(Code:Int)(n:Int×Int×Int×ao×XI):Option (Int×XN×Unit):=
 bif Code != 0 then
  some (0,aA,())
 else
  (lM aA ([n])).bind fun l=>
  some ((dP ((l.length:Int) - 1)),l,())
def eL:Cl bD:=mY ⟨[],[],[(3,47)]⟩ 65 f65 func65 call65 [500000] ⟨⟨27,[(77,7)],[lD 77 0 sT,lI 77 1,lI 77 2,lI 77 4,lI 77 5,lI 77 6],[rP 0 77,rD 1 tN,lF 77 3 tN],[]⟩,[.ret [rI 500000,lF 77 3 tN] []],fun c v=>aV v.2.2.1 c.2.2.2.2.1 v.2.1⟩ []
def iq(t:XT)(p aE bP Code At:Int):Option (Bool×Int×Int×Int×Unit):=
 aa (fun(jv:Int×Int)=>
  some ((jv.1) == 0,(dP (bP + 1)),(jv.1),(jv.2),())) fun cL=>
 bif decide ((dP (bP + 1)) > 10) then
  (iP t p aE Code At 7).bind fun r1=>
  cL (r1.1,r1.2.1)
 else
  cL (Code,At)
def pg:Cl bD:=mY ⟨[ng],[],[]⟩ 98 f98 func98 call98 [500000] ⟨⟨24,[(77,7)],[lD 77 0 sT,lI 77 1,lI 77 2,lF 77 3 tN],[rP 0 77,lI 77 4,lI 77 5,lI 77 6],[]⟩,[.ret [rD 500000 .bool,lI 77 4,lI 77 5,lI 77 6] []],fun c v=>iq c.1 c.2.1 c.2.2.1 v.2.1 v.2.2.1 v.2.2.2.1⟩ []
def cQ(q:Nat):Nat→XT→Int→Int→Int→XN→Int→Int→XI→Option (Int×XN×Int×Int×XI×Unit)
 |0,_,_,_,_,_,_,_,_=>none
 |k + 1,t3,U1,k2,p3,CS,F1,At3,uh=>
  (bU t3 p3 F1 ([44]:ao)).bind fun r7=>
  bif r7.1 then
   (cZ t3 r7.2.1 U1).bind fun r8=>
   (dz t3 r7.2.1 U1 F1 At3).bind fun r9=>
   (aV CS r9.2.2.1 (k2,r8.1,0,r9.1,[])).bind fun mU=>
   (lM uh ([mU.1])).bind fun l2=>
   cQ q k t3 U1 k2 r9.2.1 mU.2.1 r9.2.2.1 r9.2.2.2.1 l2
  else
   some (r7.2.1,CS,F1,At3,uh,())
def cP(q:Nat):Nat→XT→Int→Int→XN→Int→Int→XI→Option (Int×XN×Int×Int×XI×Unit)
 |0,_,_,_,_,_,_,_=>none
 |k + 1,t2,fH,p2,bV,gV,FP,out=>
  (fq t2 p2 gV ([118,97,114]:ao)).bind fun r1=>
  aa (fun(v:Bool)=>
   bif v then
    aa (fun(k1:Int)=>
     (cZ t2 (dP (p2 + 1)) fH).bind fun r4=>
     (dz t2 (dP (p2 + 1)) fH gV FP).bind fun r5=>
     (aV bV r5.2.2.1 (k1,r4.1,0,r5.1,[])).bind fun r6=>
     (lM out ([r6.1])).bind fun l=>
     (cQ q q t2 fH k1 r5.2.1 r6.2.1 r5.2.2.1 r5.2.2.2.1 l).bind fun o=>
     (aN t2 o.1 fH o.2.2.1 o.2.2.2.1 ([59]:ao)).bind fun r7=>
     cP q k t2 fH r7.1 o.2.1 r7.2.1 r7.2.2.1 o.2.2.2.2.1) fun jX=>
    (fq t2 p2 gV ([114,101,102]:ao)).bind fun r3=>
    bif r3.1 then
     jX 7
    else
     jX 6
   else
    some (p2,bV,gV,FP,out,())) fun cL=>
  bif r1.1 then
   cL true
  else
   (fq t2 p2 gV ([114,101,102]:ao)).bind fun r2=>
   cL r2.1
def pq(k:Nat)(t:XT)(p aE:Int)(aA:XN)(Code At:Int):Option (XI×Int×XN×Int×Int×Unit):=
 (cP k k t aE p aA Code At []).bind fun o=>
 some (o.2.2.2.2.1,o.1,o.2.1,o.2.2.1,o.2.2.2.1,())
def uS(k:Nat):m9:=⟨⟨55,[(77,7)],[lD 77 0 sT,lI 77 2,lI 77 4,rP 0 77,rI 4],[lI 77 1,lF 77 3 tN,lI 77 5,lI 77 6,(.r 3,.h .ez I)],[]⟩,[.ex (.exit 2) [lI 77 1,lF 77 3 tN,lI 77 5,lI 77 6,(.r 3,.h .ez I)]],fun q c v=>cQ k q c.1 c.2.1 c.2.2.2.2.1 v.1 v.2.1 v.2.2.1 v.2.2.2.1 v.2.2.2.2.1⟩
def uR(k:Nat):m9:=⟨⟨55,[(77,7)],[lD 77 0 sT,lI 77 2,lI 77 4,rP 0 77],[lI 77 1,lF 77 3 tN,lI 77 5,lI 77 6,(.r 3,.h .ez I)],[]⟩,[.ex (.exit 0) [lI 77 1,lF 77 3 tN,lI 77 5,lI 77 6,(.r 3,.h .ez I)]],fun q c v=>cP k q c.1 c.2.1 v.1 v.2.1 v.2.2.1 v.2.2.2.1 v.2.2.2.2.1⟩
def sJ(k:Nat):Ev bD:=⟨[jb,fB,ja,iZ,eL,ma],[lp 2 (uS k) k,lp 0 (uR k) k],[]⟩
def B8(k q:Nat):Cd bD:=oz (sJ k) f99 2 (uS k) q []
def B7(k q:Nat):Cd bD:=oz (sJ k) f99 0 (uR k) q [B8 k k]
def Gl(k:Nat):Cl bD:=mY (sJ k) 99 f99 func99 call99 [500000] ⟨⟨55,[(77,7)],[lD 77 0 sT,lI 77 2,lI 77 4],[rP 0 77,lI 77 1,lF 77 3 tN,lI 77 5,lI 77 6],[]⟩,[.ret [(.r 500000,.h .ez I),lI 77 1,lF 77 3 tN,lI 77 5,lI 77 6] []],fun c v=>pq k c.1 v.2.1 c.2.1 v.2.2.1 v.2.2.2.1 v.2.2.2.2.1⟩ [B7 k k]
def uo(wl:ao)(uV:Int):Option (Int×Unit):=
 aa (fun(v:Bool)=>
  bif v then
   some (7,())
  else
   aa (fun(v2:Bool)=>
    bif v2 then
     some (8,())
    else
     aa (fun(v3:Bool)=>
      bif v3 then
       some (6,())
      else
       aa (fun(v4:Bool)=>
        bif v4 then
         some (9,())
        else
         aa (fun(v5:Bool)=>
          bif v5 then
           some (10,())
          else
           aa (fun(v6:Bool)=>
            bif v6 then
             some (1,())
            else
             aa (fun(v7:Bool)=>
              bif v7 then
               some (2,())
              else
               aa (fun(v8:Bool)=>
                bif v8 then
                 some (11,())
                else
                 aa (fun(v9:Bool)=>
                  bif v9 then
                   some (12,())
                  else
                   aa (fun(v10:Bool)=>
                    bif v10 then
                     some (3,())
                    else
                     aa (fun(v11:Bool)=>
                      bif v11 then
                       some (4,())
                      else
                       aa (fun(v12:Bool)=>
                        bif v12 then
                         some (5,())
                        else
                         aa (fun(v13:Bool)=>
                          bif v13 then
                           some (13,())
                          else
                           some (0,())) fun W3=>
                         bif uV == 6 then
                          W3 (wl == ([42,37]:ao))
                         else
                          W3 false) fun W2=>
                       bif uV == 6 then
                        W2 (wl == ([37]:ao))
                       else
                        W2 false) fun W1=>
                     bif uV == 6 then
                      W1 (wl == ([47]:ao))
                     else
                      W1 false) fun Rb=>
                   bif uV == 6 then
                    Rb (wl == ([42]:ao))
                   else
                    Rb false) fun jx9=>
                 bif uV == 5 then
                  jx9 (wl == ([45,37]:ao))
                 else
                  jx9 false) fun jx8=>
               bif uV == 5 then
                jx8 (wl == ([43,37]:ao))
               else
                jx8 false) fun jx7=>
             bif uV == 5 then
              jx7 (wl == ([45]:ao))
             else
              jx7 false) fun jx6=>
           bif uV == 5 then
            jx6 (wl == ([43]:ao))
           else
            jx6 false) fun jx5=>
         bif uV == 4 then
          jx5 (wl == ([62,62]:ao))
         else
          jx5 false) fun jx4=>
       bif uV == 4 then
        jx4 (wl == ([60,60]:ao))
       else
        jx4 false) fun yx=>
     bif uV == 3 then
      yx (wl == ([38]:ao))
     else
      yx false) fun jX=>
   bif uV == 2 then
    jX (wl == ([94]:ao))
   else
    jX false) fun cL=>
 bif uV == 1 then
  cL (wl == ([124]:ao))
 else
  cL false
theorem lvl{P:Int→Prop}(h0:P 0)(h1:P 1)(h2:P 2)(h3:P 3)(h4:P 4)(h5:P 5)(h6:P 6)(hn:∀ n:Nat,P (.ofNat (n + 7)))(hm:∀ n:Nat,P (.negSucc n)):∀ l,P l
 |.ofNat 0=>h0 | .ofNat 1=>h1 | .ofNat 2=>h2 | .ofNat 3=>h3 | .ofNat 4=>h4 | .ofNat 5=>h5 | .ofNat 6=>h6 | .ofNat (n + 7)=>hn n | .negSucc n=>hm n
def Sn:Ev bD:=⟨[],[],[]⟩
def Qx:Cl bD:=zd Sn 150 f150 func150 call150 [.str,I] [I] (fun d=>uo d.1 d.2.1) [] (h:=fun d=>lvl (P:=fun l=>∀ s,uo s l=rW Sn.e (qK f150) (stD f150.ntmps [.str,I] (s,l,())) (kD Sn.e f150.results.toList [I]) (fun _ _=>none)) (fun s=>by kernel_rfl) (fun s=>by kernel_rfl) (fun s=>by kernel_rfl) (fun s=>by kernel_rfl) (fun s=>by kernel_rfl) (fun s=>by kernel_rfl) (fun s=>by kernel_rfl) (fun n s=>by kernel_rfl) (fun n s=>by kernel_rfl) d.2.1 d.1)
def mh(t:XT)(p Code:Int):Option (ao×Unit):=
 (iQ t p Code 4).bind fun r1=>
 bif r1.1 then
  (bK t p).bind fun x1=>
  some (x1.2.2.1,())
 else
  some (([]:ao),())
def Bu:Cl bD:=mY ⟨[nh],[],[]⟩ 151 f151 func151 call151 [500000] ⟨⟨16,[(77,7)],[lD 77 0 sT,lI 77 1,lI 77 2,lF 77 3 tN,lI 77 4,lI 77 5,lI 77 6],[rP 0 77],[]⟩,[.ret [rD 500000 .str] []],fun c v=>mh c.1 c.2.1 c.2.2.2.2.2.1⟩ []
end
end Go.Fx.R5
namespace Go.Fx.R5
open Go Go.Fx Go.Proofs Go.Proofs.Tryz
noncomputable section
abbrev jj:=XT→Int→Int→XN→Int→Int→Int→Int→Option (Int×Int×XN×Int×Int×Int×Unit)
def qj(f:jj):De:=⟨⟨57,[(77,7)],[lD 77 0 sT,lI 77 2],[rP 0 77,rI 1,lI 77 1,lF 77 3 tN,lI 77 4,lI 77 5,lI 77 6],[]⟩,[.ret [rI 500000,lI 77 1,lF 77 3 tN,lI 77 4,lI 77 5,lI 77 6] []],fun c v=>f c.1 v.2.2.1 c.2.1 v.2.2.2.1 v.2.2.2.2.1 v.2.2.2.2.2.1 v.2.2.2.2.2.2.1 v.2.1⟩
def zv(f:jj):iT:=mF (qj f).L (qj f).F (Ao [500000] (qj f).V)
abbrev jk:=XT→Int→Int→XN→Int→Int→Int→Option (Int×Int×XN×Int×Int×Int×Unit)
def qk(f:jk):De:=⟨⟨36,[(77,7)],[lD 77 0 sT,lI 77 2],[rP 0 77,lI 77 1,lF 77 3 tN,lI 77 4,lI 77 5,lI 77 6],[]⟩,[.ret [rI 500000,lI 77 1,lF 77 3 tN,lI 77 4,lI 77 5,lI 77 6] []],fun c v=>f c.1 v.2.1 c.2.1 v.2.2.1 v.2.2.2.1 v.2.2.2.2.1 v.2.2.2.2.2.1⟩
def zw(f:jk):iT:=mF (qk f).L (qk f).F (Ao [500000] (qk f).V)
abbrev ie:=XT→Int→Int→XN→Int→Int→Int→Option (Int×Int×XN×Int×Int×Int×Unit)
def oK(f:ie):De:=⟨⟨78,[(77,7)],[lD 77 0 sT,lI 77 2],[rP 0 77,lI 77 1,lF 77 3 tN,lI 77 4,lI 77 5,lI 77 6],[]⟩,[.ret [rI 500000,lI 77 1,lF 77 3 tN,lI 77 4,lI 77 5,lI 77 6] []],fun c v=>f c.1 v.2.1 c.2.1 v.2.2.1 v.2.2.2.1 v.2.2.2.2.1 v.2.2.2.2.2.1⟩
def wO(f:ie):iT:=mF (oK f).L (oK f).F (Ao [500000] (oK f).V)
def fv(ce:jj)(cB:jk)(cv:ie)(q:Nat):Nat→XT→Int→Int→Int→XN→Int→Int→Int→Int→Option (Int×XN×Int×Int×Int×Int×Unit)
 |0,_,_,_,_,_,_,_,_,_=>none
 |k + 1,t2,fH,n2,p2,bV,mv,gV,FP,x1=>
  aa (fun(v:Bool)=>
   bif v then
    (cZ t2 p2 fH).bind fun r5=>
    (mh t2 p2 gV).bind fun r6=>
    (uo r6.1 n2).bind fun r7=>
    (ce t2 (dP (p2 + 1)) fH bV mv gV FP (dP (n2 + 1))).bind fun r8=>
    (aV r8.2.2.1 r8.2.2.2.2.1 (28,r5.1,r7.1,([]:ao),[x1,r8.1])).bind fun r9=>
    fv ce cB cv q k t2 fH n2 r8.2.1 r9.2.1 r8.2.2.2.1 r8.2.2.2.2.1 r8.2.2.2.2.2.1 r9.1
   else
    some (p2,bV,mv,gV,FP,x1,())) fun cL=>
  bif gV == 0 then
   (mh t2 p2 gV).bind fun r3=>
   (uo r3.1 n2).bind fun r4=>
   cL (r4.1 != 0)
  else
   cL false
def gL(ce:jj)(cB:jk)(cv:ie)(k:Nat)(t:XT)(p aE:Int)(aA:XN)(bP Code At n:Int):Option (Int×Int×XN×Int×Int×Int×Unit):=
 bif decide (n > 6) then
  (cB t p aE aA bP Code At).bind fun r1=>
  some (r1.1,r1.2.1,r1.2.2.1,r1.2.2.2.1,r1.2.2.2.2.1,r1.2.2.2.2.2.1,())
 else
  (ce t p aE aA bP Code At (dP (n + 1))).bind fun r2=>
  (fv ce cB cv k k t aE n r2.2.1 r2.2.2.1 r2.2.2.2.1 r2.2.2.2.2.1 r2.2.2.2.2.2.1 r2.1).bind fun o=>
  some (o.2.2.2.2.2.1,o.1,o.2.1,o.2.2.1,o.2.2.2.1,o.2.2.2.2.1,())
def iw(ce:jj)(cB:jk)(cv:ie)(k:Nat)(t:XT)(p aE:Int)(aA:XN)(bP Code At:Int):Option (Int×Int×XN×Int×Int×Int×Unit):=
 (cZ t p aE).bind fun r1=>
 (bU t p Code ([45]:ao)).bind fun r2=>
 bif r2.1 then
  (iq t r2.2.1 aE bP Code At).bind fun r3=>
  bif !r3.1 then
   some (0,r2.2.1,aA,r3.2.1,r3.2.2.1,r3.2.2.2.1,())
  else
   (aV aA r3.2.2.1 (24,r1.1,0,([]:ao),[])).bind fun r4=>
   (cB t r2.2.1 aE r4.2.1 r3.2.1 r3.2.2.1 r3.2.2.2.1).bind fun r5=>
   (aV r5.2.2.1 r5.2.2.2.2.1 (28,r1.1,2,([]:ao),[r4.1,r5.1])).bind fun r6=>
   some (r6.1,r5.2.1,r6.2.1,(dP (r5.2.2.2.1 - 1)),r5.2.2.2.2.1,r5.2.2.2.2.2.1,())
 else
  (cv t r2.2.1 aE aA bP Code At).bind fun r7=>
  some (r7.1,r7.2.1,r7.2.2.1,r7.2.2.2.1,r7.2.2.2.2.1,r7.2.2.2.2.2.1,())
def cw(ce:jj)(cB:jk)(cv:ie)(k:Nat)(t:XT)(p aE:Int)(aA:XN)(bP Code At:Int):Option (Int×Int×XN×Int×Int×Int×Unit):=
 (cZ t p aE).bind fun r1=>
 (iQ t p Code 2).bind fun r2=>
 bif r2.1 then
  (lC t p aE Code At).bind fun r3=>
  (aV aA r3.2.2.1 (24,r1.1,r3.1,([]:ao),[])).bind fun r4=>
  some (r4.1,r3.2.1,r4.2.1,bP,r3.2.2.1,r3.2.2.2.1,())
 else
  (bU t p Code ([40]:ao)).bind fun r5=>
  bif r5.1 then
   (iq t r5.2.1 aE bP Code At).bind fun r6=>
   bif !r6.1 then
    some (0,r5.2.1,aA,r6.2.1,r6.2.2.1,r6.2.2.2.1,())
   else
    (ce t r5.2.1 aE aA r6.2.1 r6.2.2.1 r6.2.2.2.1 1).bind fun r7=>
    (aN t r7.2.1 aE r7.2.2.2.2.1 r7.2.2.2.2.2.1 ([41]:ao)).bind fun r8=>
    some (r7.1,r8.1,r7.2.2.1,(dP (r7.2.2.2.1 - 1)),r8.2.1,r8.2.2.1,())
  else
   (bU t r5.2.1 Code ([42]:ao)).bind fun r9=>
   bif r9.1 then
    (dz t r9.2.1 aE Code At).bind fun mU=>
    (aV aA mU.2.2.1 (27,r1.1,0,mU.1,[])).bind fun pK=>
    some (pK.1,mU.2.1,pK.2.1,bP,mU.2.2.1,mU.2.2.2.1,())
   else
    (dz t r9.2.1 aE Code At).bind fun qP=>
    (bU t qP.2.1 qP.2.2.1 ([91]:ao)).bind fun sm=>
    bif sm.1 then
     (iq t sm.2.1 aE bP qP.2.2.1 qP.2.2.2.1).bind fun sx=>
     bif !sx.1 then
      some (0,sm.2.1,aA,sx.2.1,sx.2.2.1,sx.2.2.2.1,())
     else
      (ce t sm.2.1 aE aA sx.2.1 sx.2.2.1 sx.2.2.2.1 1).bind fun rN=>
      (aN t rN.2.1 aE rN.2.2.2.2.1 rN.2.2.2.2.2.1 ([93]:ao)).bind fun tz=>
      (aV rN.2.2.1 tz.2.1 (26,r1.1,0,qP.1,[rN.1])).bind fun wi=>
      some (wi.1,tz.1,wi.2.1,(dP (rN.2.2.2.1 - 1)),tz.2.1,tz.2.2.1,())
    else
     (aV aA qP.2.2.1 (25,r1.1,0,qP.1,[])).bind fun so=>
     some (so.1,sm.2.1,so.2.1,bP,qP.2.2.1,qP.2.2.2.1,())
def eo:Nat→jj×jk×ie
 |0=>(fun _ _ _ _ _ _ _ _=>none,fun _ _ _ _ _ _ _=>none,fun _ _ _ _ _ _ _=>none)
 |k + 1=>(gL (eo k).1 (eo k).2.1 (eo k).2.2 k,iw (eo k).1 (eo k).2.1 (eo k).2.2 k,cw (eo k).1 (eo k).2.1 (eo k).2.2 k)
def an(k:Nat):jj:=(eo k).1
def il(k:Nat):jk:=(eo k).2.1
def gM(k:Nat):ie:=(eo k).2.2
section
variable (ce:Gd bD 120 zv) (cB:Gd bD 149 zw) (cv:Gd bD 160 wO)
def vP(k:Nat):m9:=⟨⟨57,[(77,7)],[lD 77 0 sT,lI 77 2,rP 0 77,rI 1],[lI 77 1,lF 77 3 tN,lI 77 4,lI 77 5,lI 77 6,rI 5],[]⟩,[.ex (.exit 0) [lI 77 1,lF 77 3 tN,lI 77 4,lI 77 5,lI 77 6,rI 5]],fun q c v=>fv ce.1 cB.1 cv.1 k q c.1 c.2.1 c.2.2.2.1 v.1 v.2.1 v.2.2.1 v.2.2.2.1 v.2.2.2.2.1 v.2.2.2.2.2.1⟩
def zo(k:Nat):Ev bD:=⟨[fB,eL,ce.cl,cB.cl,Qx,Bu],[lp 0 (vP ce cB cv k) k],[]⟩
def DQ(k q:Nat):Cd bD:=oz (zo ce cB cv k) f120 0 (vP ce cB cv k) q []
def H5(k:Nat):Cl bD:=mY (zo ce cB cv k) 120 f120 func120 call120 [500000] (qj (gL ce.1 cB.1 cv.1 k)) [DQ ce cB cv k k]
def H6(k:Nat):Cl bD:=mY ⟨[jb,fB,eL,pg,cB.cl,cv.cl],[],[]⟩ 149 f149 func149 call149 [500000] (qk (iw ce.1 cB.1 cv.1 k)) []
def Fj(k:Nat):Cl bD:=mY ⟨[jb,fB,ja,iZ,yq,eL,nh,pg,ce.cl],[],[]⟩ 160 f160 func160 call160 [500000] (oK (cw ce.1 cB.1 cv.1 k)) []
end
theorem mQ:∀ k,lZ prog gt 120 (zv (an k))∧lZ prog gt 149 (zw (il k))∧lZ prog gt 160 (wO (gM k))
 |0=>⟨dg (fun _ _=>rfl),dg (fun _ _=>rfl),dg (fun _ _=>rfl)⟩
 |k + 1=>have ih:=mQ k;⟨(H5 ⟨_,ih.1⟩ ⟨_,ih.2.1⟩ ⟨_,ih.2.2⟩ k).ok,(H6 ⟨_,ih.1⟩ ⟨_,ih.2.1⟩ ⟨_,ih.2.2⟩ k).ok,(Fj ⟨_,ih.1⟩ ⟨_,ih.2.1⟩ ⟨_,ih.2.2⟩ k).ok⟩
def qo(k:Nat):Cl bD:=⟨_,_,(mQ k).1⟩
def UW(k:Nat):Cl bD:=⟨_,_,(mQ k).2.1⟩
def Sx(k:Nat):Cl bD:=⟨_,_,(mQ k).2.2⟩
def nG(t:XT)(p aE:Int)(aA:XN)(Code At:Int):Option (Int×Int×XN×Int×Int×Unit):=
 (cZ t p aE).bind fun r1=>
 (dz t p aE Code At).bind fun r2=>
 (aV aA r2.2.2.1 (23,r1.1,0,r2.1,[])).bind fun r3=>
 some (r3.1,r2.2.1,r3.2.1,r2.2.2.1,r2.2.2.2.1,())
def KG:Cl bD:=mY ⟨[fB,ja,eL],[],[]⟩ 146 f146 func146 call146 [500000] ⟨⟨14,[(77,7)],[lD 77 0 sT,lI 77 2,lI 77 4],[rP 0 77,lI 77 1,lF 77 3 tN,lI 77 5,lI 77 6],[]⟩,[.ret [rI 500000,lI 77 1,lF 77 3 tN,lI 77 5,lI 77 6] []],fun c v=>nG c.1 v.2.1 c.2.1 v.2.2.1 v.2.2.2.1 v.2.2.2.2.1⟩ []
def uA(t:XT)(p:Int)(ck:ao):Option (Bool×Unit):=
 aa (fun(v:Bool)=>
  aa (fun(v2:Bool)=>
   some (v2,())) fun jX=>
  bif v then
   (bK t (dP (p + 1))).bind fun x2=>
   jX (x2.1 == 4)
  else
   jX false) fun cL=>
 bif decide ((dP (p + 1)) < (t.length:Int)) then
  (bK t (dP (p + 1))).bind fun x1=>
  cL (x1.2.2.1 == ck)
 else
  cL false
def Jp:Cl bD:=mY ⟨[],[],[]⟩ 147 f147 func147 call147 [500000] ⟨⟨47,[(77,7)],[lD 77 0 sT,lI 77 1,lI 77 2,lF 77 3 tN,lI 77 4,lI 77 5,lI 77 6],[rP 0 77,rD 1 .str],[]⟩,[.ret [rD 500000 .bool] []],fun c v=>uA c.1 c.2.1 v.2.1⟩ []
def bt(q:Nat):Nat→XT→Int→Int→XN→Int→Int→Int→XI→Option (Int×XN×Int×Int×Int×XI×Unit)
 |0,_,_,_,_,_,_,_,_=>none
 |k + 1,t2,fH,p2,bV,mv,gV,FP,cA=>
  aa (fun(v2:Bool)=>
   bif v2 then
    aa (fun(jv:Int×Int×Int)=>
     (an q t2 (jv.1) fH bV mv (jv.2.1) (jv.2.2) 1).bind fun r28=>
     (lM cA ([r28.1])).bind fun l=>
     bt q k t2 fH r28.2.1 r28.2.2.1 r28.2.2.2.1 r28.2.2.2.2.1 r28.2.2.2.2.2.1 l) fun jX=>
    bif decide ((cA.length:Int) > 1) then
     (aN t2 p2 fH gV FP ([44]:ao)).bind fun r27=>
     jX (r27.1,r27.2.1,r27.2.2.1)
    else
     jX (p2,gV,FP)
   else
    some (p2,bV,mv,gV,FP,cA,())) fun cL=>
  bif gV == 0 then
   (fq t2 p2 gV ([41]:ao)).bind fun r26=>
   cL (!r26.1)
  else
   cL false
def dU(k:Nat)(t:XT)(p aE:Int)(aA:XN)(bP Code At:Int):Option (Int×Int×XN×Int×Int×Int×Unit):=
 (cZ t p aE).bind fun r1=>
 (dz t p aE Code At).bind fun r2=>
 (bU t r2.2.1 r2.2.2.1 ([91]:ao)).bind fun r3=>
 bif r3.1 then
  (an k t r3.2.1 aE aA bP r2.2.2.1 r2.2.2.2.1 1).bind fun r4=>
  (aN t r4.2.1 aE r4.2.2.2.2.1 r4.2.2.2.2.2.1 ([93]:ao)).bind fun r5=>
  (aN t r5.1 aE r5.2.1 r5.2.2.1 ([61]:ao)).bind fun r6=>
  (an k t r6.1 aE r4.2.2.1 r4.2.2.2.1 r6.2.1 r6.2.2.1 1).bind fun r7=>
  (aN t r7.2.1 aE r7.2.2.2.2.1 r7.2.2.2.2.2.1 ([59]:ao)).bind fun r8=>
  (aV r7.2.2.1 r8.2.1 (10,r1.1,0,r2.1,[r4.1,r7.1])).bind fun r9=>
  some (r9.1,r8.1,r9.2.1,r7.2.2.2.1,r8.2.1,r8.2.2.1,())
 else
  (bU t r3.2.1 r2.2.2.1 ([43,61]:ao)).bind fun mU=>
  bif mU.1 then
   (an k t mU.2.1 aE aA bP r2.2.2.1 r2.2.2.2.1 1).bind fun pK=>
   (aN t pK.2.1 aE pK.2.2.2.2.1 pK.2.2.2.2.2.1 ([59]:ao)).bind fun qP=>
   (aV pK.2.2.1 qP.2.1 (13,r1.1,0,r2.1,[pK.1])).bind fun sm=>
   some (sm.1,qP.1,sm.2.1,pK.2.2.2.1,qP.2.1,qP.2.2.1,())
  else
   (aN t mU.2.1 aE r2.2.2.1 r2.2.2.2.1 ([61]:ao)).bind fun sx=>
   (bU t sx.1 sx.2.1 ([38]:ao)).bind fun rN=>
   bif rN.1 then
    (nG t rN.2.1 aE aA sx.2.1 sx.2.2.1).bind fun tz=>
    (aN t tz.2.1 aE tz.2.2.2.1 tz.2.2.2.2.1 ([91]:ao)).bind fun wi=>
    (an k t wi.1 aE tz.2.2.1 bP wi.2.1 wi.2.2.1 1).bind fun so=>
    (aN t so.2.1 aE so.2.2.2.2.1 so.2.2.2.2.2.1 ([93]:ao)).bind fun sy=>
    (aN t sy.1 aE sy.2.1 sy.2.2.1 ([59]:ao)).bind fun xJ=>
    (aV so.2.2.1 xJ.2.1 (12,r1.1,0,r2.1,[tz.1,so.1])).bind fun Aq=>
    some (Aq.1,xJ.1,Aq.2.1,so.2.2.2.1,xJ.2.1,xJ.2.2.1,())
   else
    (iQ t rN.2.1 sx.2.1 1).bind fun M2=>
    aa (fun(v:Bool)=>
     bif v then
      (nG t rN.2.1 aE aA sx.2.1 sx.2.2.1).bind fun Hv=>
      (aN t Hv.2.1 aE Hv.2.2.2.1 Hv.2.2.2.2.1 ([40]:ao)).bind fun r25=>
      (bt k k t aE r25.1 Hv.2.2.1 bP r25.2.1 r25.2.2.1 ([Hv.1])).bind fun o=>
      (aN t o.1 aE o.2.2.2.1 o.2.2.2.2.1 ([41]:ao)).bind fun r26=>
      (aN t r26.1 aE r26.2.1 r26.2.2.1 ([59]:ao)).bind fun r27=>
      (aV o.2.1 r27.2.1 (22,r1.1,0,r2.1,o.2.2.2.2.2.1)).bind fun r28=>
      some (r28.1,r27.1,r28.2.1,o.2.2.1,r27.2.1,r27.2.2.1,())
     else
      aa (fun(jv:Int×Int×XN×Int×Int×Int)=>
       (aN t (jv.2.1) aE (jv.2.2.2.2.1) (jv.2.2.2.2.2) ([59]:ao)).bind fun r33=>
       (aV (jv.2.2.1) r33.2.1 (9,r1.1,0,r2.1,[(jv.1)])).bind fun r34=>
       some (r34.1,r33.1,r34.2.1,(jv.2.2.2.1),r33.2.1,r33.2.2.1,())) fun jX=>
      (fq t rN.2.1 sx.2.1 ([110,117,108,108]:ao)).bind fun r29=>
      bif r29.1 then
       (cZ t rN.2.1 aE).bind fun r30=>
       (aV aA sx.2.1 (29,r30.1,0,([]:ao),[])).bind fun r31=>
       jX (r31.1,(dP (rN.2.1 + 1)),r31.2.1,bP,sx.2.1,sx.2.2.1)
      else
       (an k t rN.2.1 aE aA bP sx.2.1 sx.2.2.1 1).bind fun r32=>
       jX (r32.1,r32.2.1,r32.2.2.1,r32.2.2.2.1,r32.2.2.2.2.1,r32.2.2.2.2.2.1)) fun cL=>
    bif M2.1 then
     (uA t rN.2.1 ([40]:ao)).bind fun Mn=>
     cL Mn.1
    else
     cL false
def vQ(k:Nat):m9:=⟨⟨139,[(77,7)],[lD 77 0 sT,lI 77 2,rP 0 77,rI 3,rD 4 .str],[lI 77 1,lF 77 3 tN,lI 77 4,lI 77 5,lI 77 6,(.r 10,.h .ez I)],[]⟩,[.ex (.exit 0) [lI 77 1,lF 77 3 tN,lI 77 4,lI 77 5,lI 77 6,(.r 10,.h .ez I)]],fun q c v=>bt k q c.1 c.2.1 v.1 v.2.1 v.2.2.1 v.2.2.2.1 v.2.2.2.2.1 v.2.2.2.2.2.1⟩
def zp(k:Nat):Ev bD:=⟨[jb,fB,ja,iZ,eL,ma,nh,qo k,KG,Jp],[lp 0 (vQ k) k],[]⟩
def DR(k q:Nat):Cd bD:=oz (zp k) f118 0 (vQ k) q []
def HQ(k:Nat):Cl bD:=mY (zp k) 118 f118 func118 call118 [500000] ⟨⟨139,[(77,7)],[lD 77 0 sT,lI 77 2],[rP 0 77,lI 77 1,lF 77 3 tN,lI 77 4,lI 77 5,lI 77 6],[]⟩,[.ret [rI 500000,lI 77 1,lF 77 3 tN,lI 77 4,lI 77 5,lI 77 6] []],fun c v=>dU k c.1 v.2.1 c.2.1 v.2.2.1 v.2.2.2.1 v.2.2.2.2.1 v.2.2.2.2.2.1⟩ [DR k k]
def A3(wl:ao):Option (Int×Unit):=
 bif wl == ([61,61]:ao) then
  some (1,())
 else
  bif wl == ([33,61]:ao) then
   some (2,())
  else
   bif wl == ([60]:ao) then
    some (3,())
   else
    bif wl == ([60,61]:ao) then
     some (4,())
    else
     bif wl == ([62]:ao) then
      some (5,())
     else
      bif wl == ([62,61]:ao) then
       some (6,())
      else
       some (0,())
def OC:Cl bD:=zd ⟨[],[],[]⟩ 170 f170 func170 call170 [.str] [I] (fun d=>A3 d.1) []
abbrev iV:=XT→Int→Int→XN→Int→Int→Int→Option (Int×Int×XN×Int×Int×Int×Unit)
def ry(f:iV):De:=⟨⟨30,[(77,7)],[lD 77 0 sT,lI 77 2],[rP 0 77,lI 77 1,lF 77 3 tN,lI 77 4,lI 77 5,lI 77 6],[]⟩,[.ret [rI 500000,lI 77 1,lF 77 3 tN,lI 77 4,lI 77 5,lI 77 6] []],fun c v=>f c.1 v.2.1 c.2.1 v.2.2.1 v.2.2.2.1 v.2.2.2.2.1 v.2.2.2.2.2.1⟩
def Bh(f:iV):iT:=mF (ry f).L (ry f).F (Ao [500000] (ry f).V)
abbrev iU:=XT→Int→Int→XN→Int→Int→Int→Option (Int×Int×XN×Int×Int×Int×Unit)
def rx(f:iU):De:=⟨⟨30,[(77,7)],[lD 77 0 sT,lI 77 2],[rP 0 77,lI 77 1,lF 77 3 tN,lI 77 4,lI 77 5,lI 77 6],[]⟩,[.ret [rI 500000,lI 77 1,lF 77 3 tN,lI 77 4,lI 77 5,lI 77 6] []],fun c v=>f c.1 v.2.1 c.2.1 v.2.2.1 v.2.2.2.1 v.2.2.2.2.1 v.2.2.2.2.2.1⟩
def Bg(f:iU):iT:=mF (rx f).L (rx f).F (Ao [500000] (rx f).V)
abbrev iW:=XT→Int→Int→XN→Int→Int→Int→Option (Int×Int×XN×Int×Int×Int×Unit)
def rz(f:iW):De:=⟨⟨89,[(77,7)],[lD 77 0 sT,lI 77 2],[rP 0 77,lI 77 1,lF 77 3 tN,lI 77 4,lI 77 5,lI 77 6],[]⟩,[.ret [rI 500000,lI 77 1,lF 77 3 tN,lI 77 4,lI 77 5,lI 77 6] []],fun c v=>f c.1 v.2.1 c.2.1 v.2.2.1 v.2.2.2.1 v.2.2.2.2.1 v.2.2.2.2.2.1⟩
def Bi(f:iW):iT:=mF (rz f).L (rz f).F (Ao [500000] (rz f).V)
def fV(bB:iV)(bx:iU)(bf:iW)(q:Nat):Nat→XT→Int→Int→XN→Int→Int→Int→Int→Option (Int×XN×Int×Int×Int×Int×Unit)
 |0,_,_,_,_,_,_,_,_=>none
 |k + 1,t2,fH,p2,bV,mv,gV,FP,x1=>
  (fq t2 p2 gV ([111,114]:ao)).bind fun r2=>
  bif r2.1 then
   (cZ t2 p2 fH).bind fun r3=>
   (bx t2 (dP (p2 + 1)) fH bV mv gV FP).bind fun r4=>
   (aV r4.2.2.1 r4.2.2.2.2.1 (32,r3.1,0,([]:ao),[x1,r4.1])).bind fun r5=>
   fV bB bx bf q k t2 fH r4.2.1 r5.2.1 r4.2.2.2.1 r4.2.2.2.2.1 r4.2.2.2.2.2.1 r5.1
  else
   some (p2,bV,mv,gV,FP,x1,())
def lB(bB:iV)(bx:iU)(bf:iW)(k:Nat)(t:XT)(p aE:Int)(aA:XN)(bP Code At:Int):Option (Int×Int×XN×Int×Int×Int×Unit):=
 (bx t p aE aA bP Code At).bind fun r1=>
 (fV bB bx bf k k t aE r1.2.1 r1.2.2.1 r1.2.2.2.1 r1.2.2.2.2.1 r1.2.2.2.2.2.1 r1.1).bind fun o=>
 some (o.2.2.2.2.2.1,o.1,o.2.1,o.2.2.1,o.2.2.2.1,o.2.2.2.2.1,())
def fU(bB:iV)(bx:iU)(bf:iW)(q:Nat):Nat→XT→Int→Int→XN→Int→Int→Int→Int→Option (Int×XN×Int×Int×Int×Int×Unit)
 |0,_,_,_,_,_,_,_,_=>none
 |k + 1,t2,fH,p2,bV,mv,gV,FP,x1=>
  (fq t2 p2 gV ([97,110,100]:ao)).bind fun r2=>
  bif r2.1 then
   (cZ t2 p2 fH).bind fun r3=>
   (bf t2 (dP (p2 + 1)) fH bV mv gV FP).bind fun r4=>
   (aV r4.2.2.1 r4.2.2.2.2.1 (31,r3.1,0,([]:ao),[x1,r4.1])).bind fun r5=>
   fU bB bx bf q k t2 fH r4.2.1 r5.2.1 r4.2.2.2.1 r4.2.2.2.2.1 r4.2.2.2.2.2.1 r5.1
  else
   some (p2,bV,mv,gV,FP,x1,())
def lz(bB:iV)(bx:iU)(bf:iW)(k:Nat)(t:XT)(p aE:Int)(aA:XN)(bP Code At:Int):Option (Int×Int×XN×Int×Int×Int×Unit):=
 (bf t p aE aA bP Code At).bind fun r1=>
 (fU bB bx bf k k t aE r1.2.1 r1.2.2.1 r1.2.2.2.1 r1.2.2.2.2.1 r1.2.2.2.2.2.1 r1.1).bind fun o=>
 some (o.2.2.2.2.2.1,o.1,o.2.1,o.2.2.1,o.2.2.2.1,o.2.2.2.2.1,())
def dw(bB:iV)(bx:iU)(bf:iW)(k:Nat)(t:XT)(p aE:Int)(aA:XN)(bP Code At:Int):Option (Int×Int×XN×Int×Int×Int×Unit):=
 (cZ t p aE).bind fun r1=>
 (bU t p Code ([110,111,116]:ao)).bind fun r2=>
 bif r2.1 then
  (iq t r2.2.1 aE bP Code At).bind fun r3=>
  bif !r3.1 then
   some (0,r2.2.1,aA,r3.2.1,r3.2.2.1,r3.2.2.2.1,())
  else
   (bf t r2.2.1 aE aA r3.2.1 r3.2.2.1 r3.2.2.2.1).bind fun r4=>
   (aV r4.2.2.1 r4.2.2.2.2.1 (33,r1.1,0,([]:ao),[r4.1])).bind fun r5=>
   some (r5.1,r4.2.1,r5.2.1,(dP (r4.2.2.2.1 - 1)),r4.2.2.2.2.1,r4.2.2.2.2.2.1,())
 else
  (bU t r2.2.1 Code ([91]:ao)).bind fun r6=>
  bif r6.1 then
   (iq t r6.2.1 aE bP Code At).bind fun r7=>
   bif !r7.1 then
    some (0,r6.2.1,aA,r7.2.1,r7.2.2.1,r7.2.2.2.1,())
   else
    (bB t r6.2.1 aE aA r7.2.1 r7.2.2.1 r7.2.2.2.1).bind fun r8=>
    (aN t r8.2.1 aE r8.2.2.2.2.1 r8.2.2.2.2.2.1 ([93]:ao)).bind fun r9=>
    some (r8.1,r9.1,r8.2.2.1,(dP (r8.2.2.2.1 - 1)),r9.2.1,r9.2.2.1,())
  else
   (bU t r6.2.1 Code ([110,117,108,108]:ao)).bind fun mU=>
   bif mU.1 then
    (dz t mU.2.1 aE Code At).bind fun pK=>
    (aV aA pK.2.2.1 (34,r1.1,0,pK.1,[])).bind fun qP=>
    some (qP.1,pK.2.1,qP.2.1,bP,pK.2.2.1,pK.2.2.2.1,())
   else
    (an k t mU.2.1 aE aA bP Code At 1).bind fun sm=>
    (cZ t sm.2.1 aE).bind fun sx=>
    (mh t sm.2.1 sm.2.2.2.2.1).bind fun rN=>
    (A3 rN.1).bind fun tz=>
    bif tz.1 == 0 then
     (iP t sm.2.1 aE sm.2.2.2.2.1 sm.2.2.2.2.2.1 6).bind fun wi=>
     some (0,sm.2.1,sm.2.2.1,sm.2.2.2.1,wi.1,wi.2.1,())
    else
     (an k t (dP (sm.2.1 + 1)) aE sm.2.2.1 sm.2.2.2.1 sm.2.2.2.2.1 sm.2.2.2.2.2.1 1).bind fun so=>
     (aV so.2.2.1 so.2.2.2.2.1 (30,sx.1,tz.1,([]:ao),[sm.1,so.1])).bind fun sy=>
     some (sy.1,so.2.1,sy.2.1,so.2.2.2.1,so.2.2.2.2.1,so.2.2.2.2.2.1,())
def eM:Nat→iV×iU×iW
 |0=>(fun _ _ _ _ _ _ _=>none,fun _ _ _ _ _ _ _=>none,fun _ _ _ _ _ _ _=>none)
 |k + 1=>(lB (eM k).1 (eM k).2.1 (eM k).2.2 k,lz (eM k).1 (eM k).2.1 (eM k).2.2 k,dw (eM k).1 (eM k).2.1 (eM k).2.2 k)
def dO(k:Nat):iV:=(eM k).1
def gf(k:Nat):iU:=(eM k).2.1
def fd(k:Nat):iW:=(eM k).2.2
section
variable (bB:Gd bD 121 Bh) (bx:Gd bD 152 Bg) (bf:Gd bD 161 Bi)
def xA(k:Nat):m9:=⟨⟨30,[(77,7)],[lD 77 0 sT,lI 77 2,rP 0 77],[lI 77 1,lF 77 3 tN,lI 77 4,lI 77 5,lI 77 6,rI 3],[]⟩,[.ex (.exit 0) [lI 77 1,lF 77 3 tN,lI 77 4,lI 77 5,lI 77 6,rI 3]],fun q c v=>fV bB.1 bx.1 bf.1 k q c.1 c.2.1 v.1 v.2.1 v.2.2.1 v.2.2.2.1 v.2.2.2.2.1 v.2.2.2.2.2.1⟩
def Bb(k:Nat):Ev bD:=⟨[fB,eL,ma,bx.cl],[lp 0 (xA bB bx bf k) k],[]⟩
def EU(k q:Nat):Cd bD:=oz (Bb bB bx bf k) f121 0 (xA bB bx bf k) q []
def Jw(k:Nat):Cl bD:=mY (Bb bB bx bf k) 121 f121 func121 call121 [500000] (ry (lB bB.1 bx.1 bf.1 k)) [EU bB bx bf k k]
def xz(k:Nat):m9:=⟨⟨30,[(77,7)],[lD 77 0 sT,lI 77 2,rP 0 77],[lI 77 1,lF 77 3 tN,lI 77 4,lI 77 5,lI 77 6,rI 3],[]⟩,[.ex (.exit 0) [lI 77 1,lF 77 3 tN,lI 77 4,lI 77 5,lI 77 6,rI 3]],fun q c v=>fU bB.1 bx.1 bf.1 k q c.1 c.2.1 v.1 v.2.1 v.2.2.1 v.2.2.2.1 v.2.2.2.2.1 v.2.2.2.2.2.1⟩
def Ba(k:Nat):Ev bD:=⟨[fB,eL,ma,bf.cl],[lp 0 (xz bB bx bf k) k],[]⟩
def ET(k q:Nat):Cd bD:=oz (Ba bB bx bf k) f152 0 (xz bB bx bf k) q []
def Jv(k:Nat):Cl bD:=mY (Ba bB bx bf k) 152 f152 func152 call152 [500000] (rx (lz bB.1 bx.1 bf.1 k)) [ET bB bx bf k k]
def Jx(k:Nat):Cl bD:=mY ⟨[jb,fB,ja,iZ,eL,ng,pg,qo k,bB.cl,Bu,bf.cl,OC],[],[]⟩ 161 f161 func161 call161 [500000] (rz (dw bB.1 bx.1 bf.1 k)) []
end
theorem nt:∀ k,lZ prog gt 121 (Bh (dO k))∧lZ prog gt 152 (Bg (gf k))∧lZ prog gt 161 (Bi (fd k))
 |0=>⟨dg (fun _ _=>rfl),dg (fun _ _=>rfl),dg (fun _ _=>rfl)⟩
 |k + 1=>have ih:=nt k;⟨(Jw ⟨_,ih.1⟩ ⟨_,ih.2.1⟩ ⟨_,ih.2.2⟩ k).ok,(Jv ⟨_,ih.1⟩ ⟨_,ih.2.1⟩ ⟨_,ih.2.2⟩ k).ok,(Jx ⟨_,ih.1⟩ ⟨_,ih.2.1⟩ ⟨_,ih.2.2⟩ k).ok⟩
def Bs(k:Nat):Cl bD:=⟨_,_,(nt k).1⟩
def VG(k:Nat):Cl bD:=⟨_,_,(nt k).2.1⟩
def VH(k:Nat):Cl bD:=⟨_,_,(nt k).2.2⟩
end
end Go.Fx.R5
namespace Go.Fx.R5
open Go Go.Fx Go.Proofs Go.Proofs.Tryz
noncomputable section
abbrev gh:=XT→Int→Int→XN→Int→Int→Int→Option (Int×Int×XN×Int×Int×Int×Unit)
def nr(f:gh):De:=⟨⟨77,[(77,7)],[lD 77 0 sT,lI 77 2],[rP 0 77,lI 77 1,lF 77 3 tN,lI 77 4,lI 77 5,lI 77 6],[]⟩,[.ret [rI 500000,lI 77 1,lF 77 3 tN,lI 77 4,lI 77 5,lI 77 6] []],fun c v=>f c.1 v.2.1 c.2.1 v.2.2.1 v.2.2.2.1 v.2.2.2.2.1 v.2.2.2.2.2.1⟩
def uF(f:gh):iT:=mF (nr f).L (nr f).F (Ao [500000] (nr f).V)
abbrev iD:=XT→Int→Int→XN→Int→Int→Int→Option (Int×Int×XN×Int×Int×Int×Unit)
def pA(f:iD):De:=⟨⟨73,[(77,7)],[lD 77 0 sT,lI 77 2],[rP 0 77,lI 77 1,lF 77 3 tN,lI 77 4,lI 77 5,lI 77 6],[]⟩,[.ret [rI 500000,lI 77 1,lF 77 3 tN,lI 77 4,lI 77 5,lI 77 6] []],fun c v=>f c.1 v.2.1 c.2.1 v.2.2.1 v.2.2.2.1 v.2.2.2.2.1 v.2.2.2.2.2.1⟩
def yl(f:iD):iT:=mF (pA f).L (pA f).F (Ao [500000] (pA f).V)
abbrev ji:=XT→Int→Int→XN→Int→Int→Int→Option (Int×Int×XN×Int×Int×Int×Unit)
def qi(f:ji):De:=⟨⟨44,[(77,7)],[lD 77 0 sT,lI 77 2],[rP 0 77,lI 77 1,lF 77 3 tN,lI 77 4,lI 77 5,lI 77 6],[]⟩,[.ret [rI 500000,lI 77 1,lF 77 3 tN,lI 77 4,lI 77 5,lI 77 6] []],fun c v=>f c.1 v.2.1 c.2.1 v.2.2.1 v.2.2.2.1 v.2.2.2.2.1 v.2.2.2.2.2.1⟩
def zu(f:ji):iT:=mF (qi f).L (qi f).F (Ao [500000] (qi f).V)
def bN(bM:gh)(cH:iD)(ct:ji)(k:Nat)(t:XT)(p aE:Int)(aA:XN)(bP Code At:Int):Option (Int×Int×XN×Int×Int×Int×Unit):=
 (cZ t p aE).bind fun r1=>
 (iQ t p Code 1).bind fun r2=>
 bif r2.1 then
  (dU k t p aE aA bP Code At).bind fun r3=>
  some (r3.1,r3.2.1,r3.2.2.1,r3.2.2.2.1,r3.2.2.2.2.1,r3.2.2.2.2.2.1,())
 else
  (fq t p Code ([105,102]:ao)).bind fun r4=>
  aa (fun(v:Bool)=>
   aa (fun(v2:Bool)=>
    bif v2 then
     (cH t p aE aA bP Code At).bind fun r7=>
     some (r7.1,r7.2.1,r7.2.2.1,r7.2.2.2.1,r7.2.2.2.2.1,r7.2.2.2.2.2.1,())
    else
     aa (fun(jv:Int×XN×Int×Int×Int×Int×Int×ao×XI)=>
      (aN t (jv.1) aE (jv.2.2.2.1) (jv.2.2.2.2.1) ([59]:ao)).bind fun Mn=>
      (aV (jv.2.1) Mn.2.1 ((jv.2.2.2.2.2.1),(jv.2.2.2.2.2.2.1),0,(jv.2.2.2.2.2.2.2.1),(jv.2.2.2.2.2.2.2.2))).bind fun Hv=>
      some (Hv.1,Mn.1,Hv.2.1,(jv.2.2.1),Mn.2.1,Mn.2.2.1,())) fun yx=>
     (bU t p Code ([42]:ao)).bind fun r8=>
     bif r8.1 then
      (dz t r8.2.1 aE Code At).bind fun r9=>
      (aN t r9.2.1 aE r9.2.2.1 r9.2.2.2.1 ([61]:ao)).bind fun mU=>
      (an k t mU.1 aE aA bP mU.2.1 mU.2.2.1 1).bind fun pK=>
      yx (pK.2.1,pK.2.2.1,pK.2.2.2.1,pK.2.2.2.2.1,pK.2.2.2.2.2.1,11,r1.1,r9.1,[pK.1])
     else
      (bU t r8.2.1 Code ([114,101,97,100]:ao)).bind fun qP=>
      bif qP.1 then
       (cZ t qP.2.1 aE).bind fun sm=>
       (dz t qP.2.1 aE Code At).bind fun sx=>
       yx (sx.2.1,aA,bP,sx.2.2.1,sx.2.2.2.1,17,sm.1,sx.1,[])
      else
       (bU t qP.2.1 Code ([112,114,105,110,116]:ao)).bind fun rN=>
       bif rN.1 then
        (an k t rN.2.1 aE aA bP Code At 1).bind fun tz=>
        yx (tz.2.1,tz.2.2.1,tz.2.2.2.1,tz.2.2.2.2.1,tz.2.2.2.2.2.1,18,r1.1,([]:ao),[tz.1])
       else
        (bU t rN.2.1 Code ([97,115,115,101,114,116]:ao)).bind fun wi=>
        bif wi.1 then
         (dO k t wi.2.1 aE aA bP Code At).bind fun so=>
         yx (so.2.1,so.2.2.1,so.2.2.2.1,so.2.2.2.2.1,so.2.2.2.2.2.1,19,r1.1,([]:ao),[so.1])
        else
         (bU t wi.2.1 Code ([115,116,111,112]:ao)).bind fun sy=>
         bif sy.1 then
          yx (sy.2.1,aA,bP,Code,At,20,r1.1,([]:ao),[])
         else
          (bU t sy.2.1 Code ([114,101,116,117,114,110]:ao)).bind fun xJ=>
          bif xJ.1 then
           (an k t xJ.2.1 aE aA bP Code At 1).bind fun Aq=>
           yx (Aq.2.1,Aq.2.2.1,Aq.2.2.2.1,Aq.2.2.2.2.1,Aq.2.2.2.2.2.1,21,r1.1,([]:ao),[Aq.1])
          else
           (iP t xJ.2.1 aE Code At 6).bind fun M2=>
           yx (xJ.2.1,aA,bP,M2.1,M2.2.1,0,r1.1,([]:ao),[])) fun jX=>
   bif v then
    jX true
   else
    (fq t p Code ([102,111,114]:ao)).bind fun r6=>
    jX r6.1) fun cL=>
  bif r4.1 then
   cL true
  else
   (fq t p Code ([119,104,105,108,101]:ao)).bind fun r5=>
   cL r5.1
def jT(bM:gh)(cH:iD)(ct:ji)(k:Nat)(t:XT)(p aE:Int)(aA:XN)(bP Code At:Int):Option (Int×Int×XN×Int×Int×Int×Unit):=
 (cZ t p aE).bind fun r1=>
 (bU t p Code ([105,102]:ao)).bind fun r2=>
 bif r2.1 then
  (dO k t r2.2.1 aE aA bP Code At).bind fun r3=>
  (ct t r3.2.1 aE r3.2.2.1 r3.2.2.2.1 r3.2.2.2.2.1 r3.2.2.2.2.2.1).bind fun r4=>
  (lM ([r3.1]) ([r4.1])).bind fun l=>
  aa (fun(jv:XI×Int×XN×Int×Int×Int)=>
   (aV (jv.2.2.1) (jv.2.2.2.2.1) (14,r1.1,0,([]:ao),(jv.1))).bind fun r7=>
   some (r7.1,(jv.2.1),r7.2.1,(jv.2.2.2.1),(jv.2.2.2.2.1),(jv.2.2.2.2.2),())) fun cL=>
  (bU t r4.2.1 r4.2.2.2.2.1 ([101,108,115,101]:ao)).bind fun r5=>
  bif r5.1 then
   (ct t r5.2.1 aE r4.2.2.1 r4.2.2.2.1 r4.2.2.2.2.1 r4.2.2.2.2.2.1).bind fun r6=>
   (lM l ([r6.1])).bind fun l2=>
   cL (l2,r6.2.1,r6.2.2.1,r6.2.2.2.1,r6.2.2.2.2.1,r6.2.2.2.2.2.1)
  else
   cL (l,r5.2.1,r4.2.2.1,r4.2.2.2.1,r4.2.2.2.2.1,r4.2.2.2.2.2.1)
 else
  (bU t r2.2.1 Code ([119,104,105,108,101]:ao)).bind fun r8=>
  bif r8.1 then
   (dO k t r8.2.1 aE aA bP Code At).bind fun r9=>
   (ct t r9.2.1 aE r9.2.2.1 r9.2.2.2.1 r9.2.2.2.2.1 r9.2.2.2.2.2.1).bind fun mU=>
   (aV mU.2.2.1 mU.2.2.2.2.1 (15,r1.1,0,([]:ao),[r9.1,mU.1])).bind fun pK=>
   some (pK.1,mU.2.1,pK.2.1,mU.2.2.2.1,mU.2.2.2.2.1,mU.2.2.2.2.2.1,())
  else
   (aN t r8.2.1 aE Code At ([102,111,114]:ao)).bind fun qP=>
   (cZ t qP.1 aE).bind fun sm=>
   (dz t qP.1 aE qP.2.1 qP.2.2.1).bind fun sx=>
   (aN t sx.2.1 aE sx.2.2.1 sx.2.2.2.1 ([61]:ao)).bind fun rN=>
   (an k t rN.1 aE aA bP rN.2.1 rN.2.2.1 1).bind fun tz=>
   (aN t tz.2.1 aE tz.2.2.2.2.1 tz.2.2.2.2.2.1 ([46,46]:ao)).bind fun wi=>
   (an k t wi.1 aE tz.2.2.1 tz.2.2.2.1 wi.2.1 wi.2.2.1 1).bind fun so=>
   (ct t so.2.1 aE so.2.2.1 so.2.2.2.1 so.2.2.2.2.1 so.2.2.2.2.2.1).bind fun sy=>
   (aV sy.2.2.1 sy.2.2.2.2.1 (16,sm.1,0,sx.1,[tz.1,so.1,sy.1])).bind fun xJ=>
   some (xJ.1,sy.2.1,xJ.2.1,sy.2.2.2.1,sy.2.2.2.2.1,sy.2.2.2.2.2.1,())
def dY(bM:gh)(cH:iD)(ct:ji)(q:Nat):Nat→XT→Int→Int→XN→Int→Int→Int→XI→Option (Int×XN×Int×Int×Int×XI×Unit)
 |0,_,_,_,_,_,_,_,_=>none
 |k + 1,t2,fH,p2,bV,mv,gV,FP,cA=>
  aa (fun(v:Bool)=>
   bif v then
    (bM t2 p2 fH bV mv gV FP).bind fun r5=>
    (lM cA ([r5.1])).bind fun l=>
    dY bM cH ct q k t2 fH r5.2.1 r5.2.2.1 r5.2.2.2.1 r5.2.2.2.2.1 r5.2.2.2.2.2.1 l
   else
    some (p2,bV,mv,gV,FP,cA,())) fun cL=>
  bif gV == 0 then
   (fq t2 p2 gV ([125]:ao)).bind fun r4=>
   cL (!r4.1)
  else
   cL false
def jw(bM:gh)(cH:iD)(ct:ji)(k:Nat)(t:XT)(p aE:Int)(aA:XN)(bP Code At:Int):Option (Int×Int×XN×Int×Int×Int×Unit):=
 (cZ t p aE).bind fun r1=>
 (aN t p aE Code At ([123]:ao)).bind fun r2=>
 (iq t r2.1 aE bP r2.2.1 r2.2.2.1).bind fun r3=>
 bif !r3.1 then
  some (0,r2.1,aA,r3.2.1,r3.2.2.1,r3.2.2.2.1,())
 else
  (dY bM cH ct k k t aE r2.1 aA r3.2.1 r3.2.2.1 r3.2.2.2.1 []).bind fun o=>
  (aN t o.1 aE o.2.2.2.1 o.2.2.2.2.1 ([125]:ao)).bind fun r4=>
  (aV o.2.1 r4.2.1 (8,r1.1,0,([]:ao),o.2.2.2.2.2.1)).bind fun r5=>
  some (r5.1,r4.1,r5.2.1,(dP (o.2.2.1 - 1)),r4.2.1,r4.2.2.1,())
def cN:Nat→gh×iD×ji
 |0=>(fun _ _ _ _ _ _ _=>none,fun _ _ _ _ _ _ _=>none,fun _ _ _ _ _ _ _=>none)
 |k + 1=>(bN (cN k).1 (cN k).2.1 (cN k).2.2 k,jT (cN k).1 (cN k).2.1 (cN k).2.2 k,jw (cN k).1 (cN k).2.1 (cN k).2.2 k)
def eu(k:Nat):gh:=(cN k).1
def lA(k:Nat):iD:=(cN k).2.1
def iO(k:Nat):ji:=(cN k).2.2
section
variable (bM:Gd bD 100 uF) (cH:Gd bD 119 yl) (ct:Gd bD 148 zu)
def Cx(k:Nat):Cl bD:=mY ⟨[jb,fB,ja,iZ,eL,ma,nh,ng,HQ k,cH.cl,qo k,Bs k],[],[(4,47)]⟩ 100 f100 func100 call100 [500000] (nr (bN bM.1 cH.1 ct.1 k)) []
def Gw(k:Nat):Cl bD:=mY ⟨[jb,fB,ja,iZ,eL,qo k,Bs k,ct.cl],[],[]⟩ 119 f119 func119 call119 [500000] (pA (jT bM.1 cH.1 ct.1 k)) []
def vO(k:Nat):m9:=⟨⟨44,[(77,7)],[lD 77 0 sT,lI 77 2,rP 0 77,rI 3],[lI 77 1,lF 77 3 tN,lI 77 4,lI 77 5,lI 77 6,(.r 4,.h .ez I)],[]⟩,[.ex (.exit 0) [lI 77 1,lF 77 3 tN,lI 77 4,lI 77 5,lI 77 6,(.r 4,.h .ez I)]],fun q c v=>dY bM.1 cH.1 ct.1 k q c.1 c.2.1 v.1 v.2.1 v.2.2.1 v.2.2.2.1 v.2.2.2.2.1 v.2.2.2.2.2.1⟩
def zn(k:Nat):Ev bD:=⟨[fB,iZ,eL,ma,pg,bM.cl],[lp 0 (vO bM cH ct k) k],[]⟩
def DP(k q:Nat):Cd bD:=oz (zn bM cH ct k) f148 0 (vO bM cH ct k) q []
def H4(k:Nat):Cl bD:=mY (zn bM cH ct k) 148 f148 func148 call148 [500000] (qi (jw bM.1 cH.1 ct.1 k)) [DP bM cH ct k k]
end
theorem ka:∀ k,lZ prog gt 100 (uF (eu k))∧lZ prog gt 119 (yl (lA k))∧lZ prog gt 148 (zu (iO k))
 |0=>⟨dg (fun _ _=>rfl),dg (fun _ _=>rfl),dg (fun _ _=>rfl)⟩
 |k + 1=>have ih:=ka k;⟨(Cx ⟨_,ih.1⟩ ⟨_,ih.2.1⟩ ⟨_,ih.2.2⟩ k).ok,(Gw ⟨_,ih.1⟩ ⟨_,ih.2.1⟩ ⟨_,ih.2.2⟩ k).ok,(H4 ⟨_,ih.1⟩ ⟨_,ih.2.1⟩ ⟨_,ih.2.2⟩ k).ok⟩
def Cn(k:Nat):Cl bD:=⟨_,_,(ka k).1⟩
def TL(k:Nat):Cl bD:=⟨_,_,(ka k).2.1⟩
def UV(k:Nat):Cl bD:=⟨_,_,(ka k).2.2⟩
def au(q:Nat):Nat→XT→Int→Int→XN→Int→Int→XI→Option (Int×XN×Int×Int×XI×Unit)
 |0,_,_,_,_,_,_,_=>none
 |k + 1,t2,fH,p2,bV,gV,FP,cA=>
  aa (fun(v:Bool)=>
   bif v then
    aa (fun(jv:Int×Int×Int)=>
     (cZ t2 (jv.1) fH).bind fun r6=>
     (dz t2 (jv.1) fH (jv.2.1) (jv.2.2)).bind fun r7=>
     (aV bV r7.2.2.1 (5,r6.1,0,r7.1,[])).bind fun r8=>
     (lM cA ([r8.1])).bind fun l=>
     au q k t2 fH r7.2.1 r8.2.1 r7.2.2.1 r7.2.2.2.1 l) fun jX=>
    bif decide ((cA.length:Int) > 0) then
     (aN t2 p2 fH gV FP ([44]:ao)).bind fun r5=>
     jX (r5.1,r5.2.1,r5.2.2.1)
    else
     jX (p2,gV,FP)
   else
    some (p2,bV,gV,FP,cA,())) fun cL=>
  bif gV == 0 then
   (fq t2 p2 gV ([41]:ao)).bind fun r4=>
   cL (!r4.1)
  else
   cL false
def eC(q:Nat):Nat→XI→XI→Int→Option (XI×Unit)
 |0,_,_,_=>none
 |k + 1,l,cA,i1=>
  bif decide (i1 < (l.length:Int)) then
   (bK l i1).bind fun x1=>
   (bK l (i1.toNat:Int)).bind fun x2=>
   (lM cA ([x2])).bind fun l2=>
   eC q k l l2 (dP (i1 + 1))
  else
   some (cA,())
def eD(q:Nat):Nat→XT→Int→Int→XN→Int→Int→Int→XI→Option (Int×XN×Int×Int×Int×XI×Unit)
 |0,_,_,_,_,_,_,_,_=>none
 |k + 1,t2,fH,p2,bV,mv,gV,FP,body=>
  aa (fun(v:Bool)=>
   bif v then
    (eu q t2 p2 fH bV mv gV FP).bind fun mU=>
    (lM body ([mU.1])).bind fun l=>
    eD q k t2 fH mU.2.1 mU.2.2.1 mU.2.2.2.1 mU.2.2.2.2.1 mU.2.2.2.2.2.1 l
   else
    some (p2,bV,mv,gV,FP,body,())) fun cL=>
  bif gV == 0 then
   (fq t2 p2 gV ([125]:ao)).bind fun r9=>
   cL (!r9.1)
  else
   cL false
def df(k:Nat)(t:XT)(p aE:Int)(aA:XN)(bP Code At:Int):Option (Int×Int×XN×Int×Int×Int×Unit):=
 (cZ t p aE).bind fun r1=>
 (dz t p aE Code At).bind fun r2=>
 (aN t r2.2.1 aE r2.2.2.1 r2.2.2.2.1 ([40]:ao)).bind fun r3=>
 (au k k t aE r3.1 aA r3.2.1 r3.2.2.1 []).bind fun o=>
 (aN t o.1 aE o.2.2.1 o.2.2.2.1 ([41]:ao)).bind fun r4=>
 (cZ t r4.1 aE).bind fun r5=>
 (aN t r4.1 aE r4.2.1 r4.2.2.1 ([123]:ao)).bind fun r6=>
 (iq t r6.1 aE bP r6.2.1 r6.2.2.1).bind fun r7=>
 bif !r7.1 then
  some (0,r6.1,o.2.1,r7.2.1,r7.2.2.1,r7.2.2.2.1,())
 else
  (pq k t r6.1 aE o.2.1 r7.2.2.1 r7.2.2.2.1).bind fun r8=>
  (eC k k r8.1 o.2.2.2.2.1 0).bind fun o2=>
  (eD k k t aE r8.2.1 r8.2.2.1 r7.2.1 r8.2.2.2.1 r8.2.2.2.2.1 []).bind fun o3=>
  (aN t o3.1 aE o3.2.2.2.1 o3.2.2.2.2.1 ([125]:ao)).bind fun r9=>
  (aV o3.2.1 r9.2.1 (8,r5.1,0,([]:ao),o3.2.2.2.2.2.1)).bind fun mU=>
  (lM o2.1 ([mU.1])).bind fun l=>
  (aV mU.2.1 r9.2.1 (4,r1.1,0,r2.1,l)).bind fun pK=>
  some (pK.1,r9.1,pK.2.1,(dP (o3.2.2.1 - 1)),r9.2.1,r9.2.2.1,())
def s8(k:Nat):m9:=⟨⟨112,[(77,7)],[lD 77 0 sT,lI 77 2,lI 77 4,rP 0 77,rI 3,rD 4 .str],[lI 77 1,lF 77 3 tN,lI 77 5,lI 77 6,(.r 5,.h .ez I)],[]⟩,[.ex (.exit 0) [lI 77 1,lF 77 3 tN,lI 77 5,lI 77 6,(.r 5,.h .ez I)]],fun q c v=>au k q c.1 c.2.1 v.1 v.2.1 v.2.2.1 v.2.2.2.1 v.2.2.2.2.1⟩
def s9(k:Nat):m9:=⟨⟨112,[(77,7)],[lD 77 0 sT,lI 77 1,lI 77 2,lF 77 3 tN,lI 77 4,lI 77 5,lI 77 6,rP 0 77,rI 3,rD 4 .str,rI 8,(.r 9,.h .ez I)],[(.r 5,.h .ez I),rI 10],[]⟩,[.ex (.exit 2) [(.r 5,.h .ez I)]],fun q c v=>eC k q c.2.2.2.2.2.2.2.2.2.2.2.1 v.1 v.2.1⟩
def ta(k:Nat):m9:=⟨⟨112,[(77,7)],[lD 77 0 sT,lI 77 2,rP 0 77,rI 3,rD 4 .str,(.r 5,.h .ez I),rI 8],[lI 77 1,lF 77 3 tN,lI 77 4,lI 77 5,lI 77 6,(.r 11,.h .ez I)],[]⟩,[.ex (.exit 4) [lI 77 1,lF 77 3 tN,lI 77 4,lI 77 5,lI 77 6,(.r 11,.h .ez I)]],fun q c v=>eD k q c.1 c.2.1 v.1 v.2.1 v.2.2.1 v.2.2.2.1 v.2.2.2.2.1 v.2.2.2.2.2.1⟩
def nZ(k:Nat):Ev bD:=⟨[fB,ja,iZ,eL,ma,pg,Gl k,Cn k],[lp 0 (s8 k) k,lp 2 (s9 k) k,lp 4 (ta k) k],[]⟩
def Au(k q:Nat):Cd bD:=oz (nZ k) f66 0 (s8 k) q []
def Av(k q:Nat):Cd bD:=oz (nZ k) f66 2 (s9 k) q []
def Aw(k q:Nat):Cd bD:=oz (nZ k) f66 4 (ta k) q []
def DV(k:Nat):Cl bD:=mY (nZ k) 66 f66 func66 call66 [500000] ⟨⟨112,[(77,7)],[lD 77 0 sT,lI 77 2],[rP 0 77,lI 77 1,lF 77 3 tN,lI 77 4,lI 77 5,lI 77 6],[]⟩,[.ret [rI 500000,lI 77 1,lF 77 3 tN,lI 77 4,lI 77 5,lI 77 6] []],fun c v=>df k c.1 v.2.1 c.2.1 v.2.2.1 v.2.2.2.1 v.2.2.2.2.1 v.2.2.2.2.2.1⟩ [Au k k,Av k k,Aw k k]
def az(q:Nat):Nat→XT→Int→Int→XN→Int→Int→Int→XI→Option (Int×XN×Int×Int×Int×XI×Unit)
 |0,_,_,_,_,_,_,_,_=>none
 |k + 1,t2,fH,p2,bV,mv,gV,FP,cA=>
  aa (fun(v:Bool)=>
   bif v then
    (bU t2 p2 gV ([97,114,114,97,121]:ao)).bind fun r1=>
    bif r1.1 then
     (cZ t2 r1.2.1 fH).bind fun r2=>
     (dz t2 r1.2.1 fH gV FP).bind fun r3=>
     (aN t2 r3.2.1 fH r3.2.2.1 r3.2.2.2.1 ([91]:ao)).bind fun r4=>
     (lC t2 r4.1 fH r4.2.1 r4.2.2.1).bind fun r5=>
     (aN t2 r5.2.1 fH r5.2.2.1 r5.2.2.2.1 ([93]:ao)).bind fun r6=>
     (aN t2 r6.1 fH r6.2.1 r6.2.2.1 ([59]:ao)).bind fun r7=>
     (aV bV r7.2.1 (2,r2.1,r5.1,r3.1,[])).bind fun r8=>
     (lM cA ([r8.1])).bind fun l=>
     az q k t2 fH r7.1 r8.2.1 mv r7.2.1 r7.2.2.1 l
    else
     (bU t2 r1.2.1 gV ([118,97,114]:ao)).bind fun r9=>
     bif r9.1 then
      (cZ t2 r9.2.1 fH).bind fun mU=>
      (dz t2 r9.2.1 fH gV FP).bind fun pK=>
      (aN t2 pK.2.1 fH pK.2.2.1 pK.2.2.2.1 ([59]:ao)).bind fun qP=>
      (aV bV qP.2.1 (3,mU.1,0,pK.1,[])).bind fun sm=>
      (lM cA ([sm.1])).bind fun l2=>
      az q k t2 fH qP.1 sm.2.1 mv qP.2.1 qP.2.2.1 l2
     else
      (aN t2 r9.2.1 fH gV FP ([102,117,110,99]:ao)).bind fun sx=>
      (df q t2 sx.1 fH bV mv sx.2.1 sx.2.2.1).bind fun rN=>
      (lM cA ([rN.1])).bind fun l3=>
      az q k t2 fH rN.2.1 rN.2.2.1 rN.2.2.2.1 rN.2.2.2.2.1 rN.2.2.2.2.2.1 l3
   else
    some (p2,bV,mv,gV,FP,cA,())) fun cL=>
  bif gV == 0 then
   cL (decide (p2 < (t2.length:Int)))
  else
   cL false
def qD(k:Nat)(t:XT)(p aE:Int)(aA:XN)(bP Code At:Int):Option (Int×XN×Int×Int×Int×Unit):=
 (az k k t aE p aA bP Code At []).bind fun o=>
 (aV o.2.1 o.2.2.2.1 (1,0,0,([]:ao),o.2.2.2.2.2.1)).bind fun r1=>
 some (o.1,r1.2.1,o.2.2.1,o.2.2.2.1,o.2.2.2.2.1,())
def tW(k:Nat):m9:=⟨⟨77,[(77,7)],[lD 77 0 sT,lI 77 2,rP 0 77],[lI 77 1,lF 77 3 tN,lI 77 4,lI 77 5,lI 77 6,(.r 2,.h .ez I)],[]⟩,[.ex (.exit 0) [lI 77 1,lF 77 3 tN,lI 77 4,lI 77 5,lI 77 6,(.r 2,.h .ez I)]],fun q c v=>az k q c.1 c.2.1 v.1 v.2.1 v.2.2.1 v.2.2.2.1 v.2.2.2.2.1 v.2.2.2.2.2.1⟩
def wF(k:Nat):Ev bD:=⟨[jb,fB,ja,iZ,yq,eL,DV k],[lp 0 (tW k) k],[]⟩
def BO(k q:Nat):Cd bD:=oz (wF k) f36 0 (tW k) q []
def E8(k:Nat):Cl bD:=mY (wF k) 36 f36 func36 call36 [] ⟨⟨77,[(77,7)],[lD 77 0 sT,lI 77 2],[rP 0 77,lI 77 1,lF 77 3 tN,lI 77 4,lI 77 5,lI 77 6],[]⟩,[.ret [lI 77 1,lF 77 3 tN,lI 77 4,lI 77 5,lI 77 6] []],fun c v=>qD k c.1 v.2.1 c.2.1 v.2.2.1 v.2.2.2.1 v.2.2.2.2.1 v.2.2.2.2.2.1⟩ [BO k k]
def ik(k:Nat)(ck:ao):Option (XN×(Int×Int)×Unit):=
 (mH k ck).bind fun r1=>
 bif r1.2.1.1 != 0 then
  some ([],r1.2.1,())
 else
  (qD k r1.1 0 (ck.length:Int) [] 0 0 0).bind fun r2=>
  bif r2.2.2.2.1 != 0 then
   some ([],(r2.2.2.2.1,r2.2.2.2.2.1),())
  else
   some (r2.2.1,(0,0),())
def zD(k:Nat):Cl bD:=zd ⟨[HO k,E8 k],[],[(3,37),(21,77)]⟩ 18 f18 func18 call18 [.str] [sN,tP] (fun d=>ik k d.1) []
def DB(n low high:Int):Option (Bool×Unit):=
 aa (fun(v:Bool)=>
  some (v,())) fun cL=>
 bif decide (n≥low) then
  cL (decide (n≤high))
 else
  cL false
def Qw:Cl bD:=zd ⟨[],[],[]⟩ 25 f25 func25 call25 [I,I,I] [.bool] (fun d=>DB d.1 d.2.1 d.2.2.1) []
def mJ(q:Nat):Nat→XF→ao→Int→Option (((Unit)⊕(Int×Unit)))
 |0,_,_,_=>none
 |k + 1,w3,tX,i1=>
  bif decide (i1 < (w3.length:Int)) then
   (bK w3 i1).bind fun x1=>
   bif x1.1 == tX then
    some (.inr (i1,()))
   else
    mJ q k w3 tX (dP (i1 + 1))
  else
   some (.inl ())
def jZ(k:Nat)(t:XA×XS×XF)(name:ao):Option (Int×Unit):=
 (mJ k k t.2.2 name 0).bind fun r=>match r with
 |.inl o=>
  some ((-1),())
 |.inr o2=>
  some (o2.1,())
def zZ(k:Nat):m9:=⟨⟨22,[(35,3)],[lD 35 0 sA,lD 35 1 sS,lD 35 2 sF,rD 1 .str,rP 2 35],[rI 5],[]⟩,[.ex (.exit 0) [],.ex .ret [rI 4]],fun q c v=>mJ k q c.2.2.1 c.2.2.2.1 v.1⟩
def Ed(k:Nat):Ev bD:=⟨[],[lp 0 (zZ k) k],[(2,35)]⟩
def HC(k q:Nat):Cd bD:=oz (Ed k) f33 0 (zZ k) q []
def yW(k:Nat):Cl bD:=zd (Ed k) 33 f33 func33 call33 [tM,.str] [I] (fun d=>jZ k d.1 d.2.1) [HC k k]
def lG(q:Nat):Nat→XS→ao→Int→Option (((Unit)⊕(Int×Unit)))
 |0,_,_,_=>none
 |k + 1,l2,s2,i1=>
  bif decide (i1 < (l2.length:Int)) then
   (bK l2 i1).bind fun x1=>
   bif x1 == s2 then
    some (.inr (i1,()))
   else
    lG q k l2 s2 (dP (i1 + 1))
  else
   some (.inl ())
def hG(k:Nat)(l:XS)(s:ao):Option (Int×Unit):=
 (lG k k l s 0).bind fun r=>match r with
 |.inl o=>
  some ((-1),())
 |.inr o2=>
  some (o2.1,())
def yD(k:Nat):m9:=⟨⟨19,[],[rD 0 sS,rD 1 .str],[rI 5],[]⟩,[.ex (.exit 0) [],.ex .ret [rI 4]],fun q c v=>lG k q c.1 c.2.1 v.1⟩
def Cc(k:Nat):Ev bD:=⟨[],[lp 0 (yD k) k],[]⟩
def FX(k q:Nat):Cd bD:=oz (Cc k) f84 0 (yD k) q []
def wT(k:Nat):Cl bD:=zd (Cc k) 84 f84 func84 call84 [sS,.str] [I] (fun d=>hG k d.1 d.2.1) [FX k k]
def lE(q:Nat):Nat→XA→ao→Int→Option (((Unit)⊕(Int×Unit)))
 |0,_,_,_=>none
 |k + 1,w,tX,i1=>
  bif decide (i1 < (w.length:Int)) then
   (bK w i1).bind fun x1=>
   bif x1.1 == tX then
    some (.inr (i1,()))
   else
    lE q k w tX (dP (i1 + 1))
  else
   some (.inl ())
def nH(k:Nat)(t:XA×XS×XF)(name:ao):Option (Int×Unit):=
 (lE k k t.1 name 0).bind fun r=>match r with
 |.inl o=>
  some ((-1),())
 |.inr o2=>
  some (o2.1,())
def yC(k:Nat):m9:=⟨⟨22,[(35,3)],[lD 35 0 sA,lD 35 1 sS,lD 35 2 sF,rD 1 .str,rP 2 35],[rI 5],[]⟩,[.ex (.exit 0) [],.ex .ret [rI 4]],fun q c v=>lE k q c.1 c.2.2.2.1 v.1⟩
def Cb(k:Nat):Ev bD:=⟨[],[lp 0 (yC k) k],[(2,35)]⟩
def FW(k q:Nat):Cd bD:=oz (Cb k) f85 0 (yC k) q []
def KH(k:Nat):Cl bD:=zd (Cb k) 85 f85 func85 call85 [tM,.str] [I] (fun d=>nH k d.1 d.2.1) [FW k k]
def cK(k:Nat)(t:XA×XS×XF)(fn name:ao):Option (Int×Int×Unit):=
 (jZ k t fn).bind fun r1=>
 aa (fun(v:Bool)=>
  bif v then
   (bK t.2.2 r1.1).bind fun x2=>
   (hG k x2.2.2.1 name).bind fun r3=>
   some (3,r3.1,())
  else
   aa (fun(v2:Bool)=>
    bif v2 then
     (bK t.2.2 r1.1).bind fun x4=>
     (hG k x4.2.2.2.1 name).bind fun r5=>
     some (4,r5.1,())
    else
     (nH k t name).bind fun r6=>
     bif decide (r6.1≥0) then
      (nH k t name).bind fun r7=>
      some (1,r7.1,())
     else
      (hG k t.2.1 name).bind fun r8=>
      bif decide (r8.1≥0) then
       (hG k t.2.1 name).bind fun r9=>
       some (2,r9.1,())
      else
       (jZ k t name).bind fun mU=>
       bif decide (mU.1≥0) then
        (jZ k t name).bind fun pK=>
        some (5,pK.1,())
       else
        some (0,0,())) fun jX=>
   bif decide (r1.1≥0) then
    (bK t.2.2 r1.1).bind fun x3=>
    (hG k x3.2.2.2.1 name).bind fun r4=>
    jX (decide (r4.1≥0))
   else
    jX false) fun cL=>
 bif decide (r1.1≥0) then
  (bK t.2.2 r1.1).bind fun x1=>
  (hG k x1.2.2.1 name).bind fun r2=>
  cL (decide (r2.1≥0))
 else
  cL false
def pf(k:Nat):Cl bD:=zd ⟨[yW k,wT k,KH k],[],[(3,35)]⟩ 53 f53 func53 call53 [tM,.str,.str] [I,I] (fun d=>cK k d.1 d.2.1 d.2.2.1) []
def kA(k:Nat)(tt:XA)(qf:XS)(xQ:XF)(n:Int×Int×Int×ao×XI):Option (XA×XS×XF×Int×Unit):=
 (cK k (tt,qf,xQ) ([]:ao) n.2.2.2.1).bind fun r1=>
 bif r1.1 != 0 then
  some (tt,qf,xQ,9,())
 else
  bif n.1 == 2 then
   aa (fun(v:Bool)=>
    bif v then
     some (tt,qf,xQ,8,())
    else
     (lM tt ([(n.2.2.2.1,n.2.2.1)])).bind fun l=>
     some (l,qf,xQ,0,())) fun cL=>
   bif decide ((tt.length:Int)≥4) then
    cL true
   else
    (DB n.2.2.1 1 64).bind fun r2=>
    cL (!r2.1)
  else
   bif n.1 == 3 then
    bif decide ((qf.length:Int)≥4) then
     some (tt,qf,xQ,8,())
    else
     (lM qf ([n.2.2.2.1])).bind fun l2=>
     some (tt,l2,xQ,0,())
   else
    bif decide ((xQ.length:Int)≥6) then
     some (tt,qf,xQ,8,())
    else
     (bK n.2.2.2.2 (dP ((n.2.2.2.2.length:Int) - 1))).bind fun x1=>
     (lM xQ ([(n.2.2.2.1,0,[],[],x1)])).bind fun l3=>
     some (tt,qf,l3,0,())
def OE(k:Nat):Cl bD:=mY ⟨[Qw,pf k],[],[(2,35),(3,47),(77,9999)]⟩ 31 f31 func31 call31 [500000,500001] ⟨⟨81,[],[],[(.q 0 0,.h .ez tA),(.q 0 1,.h .ez .str),(.q 0 2,.h .bP tF),rD 1 tN],[]⟩,[.ret [(.q 500000 0,.h .ez tA),(.q 500000 1,.h .ez .str),(.q 500000 2,.h .bP tF),rI 500001] []],fun c v=>kA k v.1 v.2.1 v.2.2.1 v.2.2.2.1⟩ []
end
end Go.Fx.R5
namespace Go.Fx.R5
open Go Go.Fx Go.Proofs Go.Proofs.Tryz
noncomputable section
def dA(q:Nat):Nat→XI→XN→Int→XA→XS→XF→Int→Int→Int→Option (((XA×XS×XF×Int×Int×Unit)⊕(Int×Int×XA×XS×XF×Unit)))
 |0,_,_,_,_,_,_,_,_,_=>none
 |k + 1,Ks,pM,f2,w,w2,w3,w4,w5,i1=>
  bif decide ((dP (i1 + 1)) < (Ks.length:Int)) then
   (bK Ks i1).bind fun x1=>
   (bK pM x1).bind fun x2=>
   (bK w3 f2).bind fun x3=>
   (bK w3 (f2.toNat:Int)).bind fun x4=>
   (cK q (w,w2,w3) x4.1 x2.2.2.2.1).bind fun r1=>
   bif r1.1 != 0 then
    some (.inr (9,x2.2.1,w,w2,w3,()))
   else
    (bK w3 f2).bind fun x5=>
    (bK w3 (f2.toNat:Int)).bind fun x6=>
    aa (fun(v:Bool)=>
     aa (fun(v3:Bool)=>
      aa (fun(v5:Bool)=>
       bif v5 then
        some (.inr (8,x2.2.1,w,w2,w3,()))
       else
        aa (fun(jv:XS×XS×ao×Int×Int)=>
         aa (fun(v9:Int)=>
          (bK w3 f2).bind fun x9=>
          bif Nat.beq f2.toNat f2.toNat && true then
           dA q k Ks pM f2 w w2 (List.set w3 f2.toNat (x6.1,v9,(jv.1),(jv.2.1),x6.2.2.2.2)) w4 w5 (dP (i1 + 1))
          else
           none) fun jx7=>
         bif x2.1 == 5 then
          jx7 (dP (x6.2.1 + 1))
         else
          jx7 x6.2.1) fun jx6=>
        bif x2.1 == 7 then
         (bK w3 (f2.toNat:Int)).bind fun e=>
         bif (Nat.beq f2.toNat f2.toNat && (Nat.beq f2.toNat f2.toNat && true)) && true then
          (lM e.2.2.2.1 ([x2.2.2.2.1])).bind fun l=>
          jx6 (e.2.2.1,l,e.1,e.2.1,e.2.2.2.2)
         else
          none
        else
         (bK w3 (f2.toNat:Int)).bind fun e2=>
         bif (Nat.beq f2.toNat f2.toNat && (Nat.beq f2.toNat f2.toNat && true)) && true then
          (lM e2.2.2.1 ([x2.2.2.2.1])).bind fun l2=>
          jx6 (l2,e2.2.2.2.1,e2.1,e2.2.1,e2.2.2.2.2)
         else
          none) fun jx5=>
      bif v3 then
       jx5 true
      else
       aa (fun(v4:Bool)=>
        jx5 v4) fun jx4=>
       bif x2.1 == 5 then
        jx4 (decide (x6.2.1≥3))
       else
        jx4 false) fun yx=>
     bif v then
      yx true
     else
      aa (fun(v2:Bool)=>
       yx v2) fun jX=>
      bif x2.1 != 7 then
       (bK w3 (f2.toNat:Int)).bind fun x8=>
       jX (decide ((x8.2.2.1.length:Int)≥8))
      else
       jX false) fun cL=>
    bif x2.1 == 7 then
     (bK w3 (f2.toNat:Int)).bind fun x7=>
     cL (decide ((x7.2.2.2.1.length:Int)≥3))
    else
     cL false
  else
   some (.inl (w,w2,w3,w4,w5,()))
def A4(k:Nat)(tt:XA)(qf:XS)(xQ:XF)(jU:XN)(f:Int)(fn:Int×Int×Int×ao×XI):Option (XA×XS×XF×(Int×Int)×Unit):=
 (dA k k fn.2.2.2.2 jU f tt qf xQ 0 0 0).bind fun r=>match r with
 |.inl o=>
  some (o.1,o.2.1,o.2.2.1,(0,0),())
 |.inr o2=>
  some (o2.2.2.1,o2.2.2.2.1,o2.2.2.2.2.1,(o2.1,o2.2.1),())
def BA(k:Nat):m9:=⟨⟨120,[(35,3),(37,2),(47,5),(10008,3)],[lI 47 0,lI 47 1,lI 47 2,lD 47 3 .str,lD 47 4 sI,rD 1 sN,rI 2,rP 4 35,rP 7 47,rP 8 10008,rP 9 37],[lF 35 0 tA,lF 35 1 .str,lU 35 2 tF,lI 37 0,lI 37 1,lN 10008 0,lN 10008 1,lN 10008 2,rI 10],[]⟩,[.ex (.exit 0) [lF 35 0 tA,lF 35 1 .str,lU 35 2 tF,lI 37 0,lI 37 1,lN 10008 0,lN 10008 1,lN 10008 2],.ex .ret [lI 37 0,lI 37 1,lF 10008 0 tA,lF 10008 1 .str,lU 10008 2 tF]],fun q c v=>dA k q c.2.2.2.2.1 c.2.2.2.2.2.1 c.2.2.2.2.2.2.1 v.1 v.2.1 v.2.2.1 v.2.2.2.1 v.2.2.2.2.1 v.2.2.2.2.2.2.2.2.1⟩
def F5(k:Nat):Ev bD:=⟨[pf k],[lp 0 (BA k) k],[(4,35),(7,47),(9,37)]⟩
def Jb(k q:Nat):Cd bD:=oz (F5 k) f32 0 (BA k) q []
def OD(k:Nat):Cl bD:=mY (F5 k) 32 f32 func32 call32 [500000,500001] ⟨⟨120,[],[],[(.q 0 0,.h .ez tA),(.q 0 1,.h .ez .str),(.q 0 2,.h .bP tF),rD 1 sN,rI 2,rD 3 tN],[]⟩,[.ret [(.q 500000 0,.h .ez tA),(.q 500000 1,.h .ez .str),(.q 500000 2,.h .bP tF),rD 500001 tP] []],fun c v=>A4 k v.1 v.2.1 v.2.2.1 v.2.2.2.1 v.2.2.2.2.1 v.2.2.2.2.2.1⟩ [Jb k k]
def cg(Code At code jf:Int):Option (Int×Int×Unit):=
 bif Code == 0 then
  some (code,jf,())
 else
  some (Code,At,())
def ph:Cl bD:=mY ⟨[],[],[]⟩ 86 f86 func86 call86 [] ⟨⟨18,[(70,8)],[lD 70 0 sA,lD 70 1 sS,lD 70 2 sF,lD 70 3 sN,lD 70 4 .str,lF 70 5 .str],[rP 0 70,rI 1,rI 2,lI 70 6,lI 70 7],[]⟩,[.ret [lI 70 6,lI 70 7] []],fun c v=>cg v.2.2.2.1 v.2.2.2.2.1 v.2.1 v.2.2.1⟩ []
def gN(k:Nat)(aH:XA)(ax:XS)(bj:XF)(fn:ao)(Code At:Int)(name:ao)(jf a b:Int):Option (Int×Int×Unit):=
 (cK k (aH,ax,bj) fn name).bind fun r1=>
 bif r1.1 == 0 then
  (cg Code At 10 jf).bind fun r2=>
  some (r2.1,r2.2.1,())
 else
  aa (fun(v:Bool)=>
   bif v then
    (cg Code At 11 jf).bind fun r3=>
    some (r3.1,r3.2.1,())
   else
    some (Code,At,())) fun cL=>
  bif r1.1 != a then
   cL (r1.1 != b)
  else
   cL false
def pi(k:Nat):Cl bD:=mY ⟨[pf k,ph],[],[]⟩ 57 f57 func57 call57 [] ⟨⟨41,[(70,8)],[lD 70 0 sA,lD 70 1 sS,lD 70 2 sF,lD 70 3 sN,lD 70 4 .str,lF 70 5 .str],[rP 0 70,rD 1 .str,rI 2,rI 3,rI 4,lI 70 6,lI 70 7],[]⟩,[.ret [lI 70 6,lI 70 7] []],fun c v=>gN k c.1 c.2.1 c.2.2.1 c.2.2.2.2.1 v.2.2.2.2.2.1 v.2.2.2.2.2.2.1 v.2.1 v.2.2.1 v.2.2.2.1 v.2.2.2.2.1⟩ []
def tr(k:Nat)(aH:XA)(ax:XS)(bj:XF)(fn:ao)(qL:XS)(Code At:Int)(name:ao)(jf:Int):Option (XS×Int×Int×Unit):=
 (gN k aH ax bj fn Code At name jf 3 2).bind fun r1=>
 (hG k qL name).bind fun r2=>
 bif decide (r2.1≥0) then
  (cg r1.1 r1.2.1 11 jf).bind fun r3=>
  some (qL,r3.1,r3.2.1,())
 else
  some (qL,r1.1,r1.2.1,())
def Co(k:Nat):Cl bD:=mY ⟨[pi k,wT k,ph],[],[]⟩ 87 f87 func87 call87 [] ⟨⟨20,[(70,8)],[lD 70 0 sA,lD 70 1 sS,lD 70 2 sF,lD 70 3 sN,lD 70 4 .str],[rP 0 70,rD 1 .str,rI 2,lF 70 5 .str,lI 70 6,lI 70 7],[]⟩,[.ret [lF 70 5 .str,lI 70 6,lI 70 7] []],fun c v=>tr k c.1 c.2.1 c.2.2.1 c.2.2.2.2.1 v.2.2.2.1 v.2.2.2.2.1 v.2.2.2.2.2.1 v.2.1 v.2.2.1⟩ []
def gB(k:Nat)(aH:XA)(ax:XS)(bj:XF)(jU:XN)(fn:ao)(qL:XS)(Code At i1:Int):Option (XS×Int×Int×Unit):=
 (bK jU i1).bind fun x1=>
 aa (fun(jv:Int×Int)=>
  aa (fun(jv:Int×Int)=>
   aa (fun(jv:Int×Int)=>
    aa (fun(jv:XS×Int×Int)=>
     bif x1.1 == 16 then
      (gN k aH ax bj fn (jv.2.1) (jv.2.2) x1.2.2.2.1 x1.2.1 3 3).bind fun r5=>
      (hG k (jv.1) x1.2.2.2.1).bind fun r6=>
      bif decide (r6.1≥0) then
       (cg r5.1 r5.2.1 11 x1.2.1).bind fun r7=>
       some ((jv.1),r7.1,r7.2.1,())
      else
       some ((jv.1),r5.1,r5.2.1,())
     else
      some ((jv.1),(jv.2.1),(jv.2.2),())) fun Rb=>
    aa (fun(v6:Bool)=>
     bif v6 then
      (tr k aH ax bj fn qL (jv.1) (jv.2) x1.2.2.2.1 x1.2.1).bind fun r4=>
      Rb (r4.1,r4.2.1,r4.2.2.1)
     else
      Rb (qL,(jv.1),(jv.2))) fun jx9=>
    bif x1.1 == 17 then
     jx9 true
    else
     jx9 (x1.1 == 22)) fun jx8=>
   aa (fun(v2:Bool)=>
    aa (fun(v3:Bool)=>
     aa (fun(v4:Bool)=>
      aa (fun(v5:Bool)=>
       bif v5 then
        (gN k aH ax bj fn (jv.1) (jv.2) x1.2.2.2.1 x1.2.1 4 4).bind fun r3=>
        jx8 (r3.1,r3.2.1)
       else
        jx8 ((jv.1),(jv.2))) fun jx7=>
      bif v4 then
       jx7 true
      else
       jx7 (x1.1 == 12)) fun jx6=>
     bif v3 then
      jx6 true
     else
      jx6 (x1.1 == 34)) fun jx5=>
    bif v2 then
     jx5 true
    else
     jx5 (x1.1 == 13)) fun jx4=>
   bif x1.1 == 27 then
    jx4 true
   else
    jx4 (x1.1 == 11)) fun yx=>
  aa (fun(v:Bool)=>
   bif v then
    (gN k aH ax bj fn (jv.1) (jv.2) x1.2.2.2.1 x1.2.1 1 1).bind fun r2=>
    yx (r2.1,r2.2.1)
   else
    yx ((jv.1),(jv.2))) fun jX=>
  bif x1.1 == 26 then
   jX true
  else
   jX (x1.1 == 10)) fun cL=>
 bif x1.1 == 25 then
  (gN k aH ax bj fn Code At x1.2.2.2.1 x1.2.1 3 2).bind fun r1=>
  cL (r1.1,r1.2.1)
 else
  cL (Code,At)
def KI(k:Nat):Cl bD:=mY ⟨[pi k,wT k,ph,Co k],[],[(4,47)]⟩ 55 f55 func55 call55 [] ⟨⟨99,[(70,8)],[lD 70 0 sA,lD 70 1 sS,lD 70 2 sF,lD 70 3 sN,lD 70 4 .str],[rP 0 70,rI 1,lF 70 5 .str,lI 70 6,lI 70 7],[]⟩,[.ret [lF 70 5 .str,lI 70 6,lI 70 7] []],fun c v=>gB k c.1 c.2.1 c.2.2.1 c.2.2.2.1 c.2.2.2.2.1 v.2.2.1 v.2.2.2.1 v.2.2.2.2.1 v.2.1⟩ []
abbrev iY:=XA→XS→XF→XN→ao→XS→Int→Int→Int→Option (XS×Int×Int×Unit)
def rB(f:iY):De:=⟨⟨111,[(70,8)],[lD 70 0 sA,lD 70 1 sS,lD 70 2 sF,lD 70 3 sN,lD 70 4 .str],[rP 0 70,rI 1,lF 70 5 .str,lI 70 6,lI 70 7],[]⟩,[.ret [lF 70 5 .str,lI 70 6,lI 70 7] []],fun c v=>f c.1 c.2.1 c.2.2.1 c.2.2.2.1 c.2.2.2.2.1 v.2.2.1 v.2.2.2.1 v.2.2.2.2.1 v.2.1⟩
def Bk(f:iY):iT:=mF (rB f).L (rB f).F (Ao [] (rB f).V)
abbrev gX:=XA→XS→XF→XN→ao→XS→Int→Int→(Int×Int×Int×ao×XI)→Option (XS×Int×Int×Unit)
def pB(f:gX):De:=⟨⟨68,[(70,8)],[lD 70 0 sA,lD 70 1 sS,lD 70 2 sF,lD 70 3 sN,lD 70 4 .str],[rP 0 70,rD 1 tN,lF 70 5 .str,lI 70 6,lI 70 7],[]⟩,[.ret [lF 70 5 .str,lI 70 6,lI 70 7] []],fun c v=>f c.1 c.2.1 c.2.2.1 c.2.2.2.1 c.2.2.2.2.1 v.2.2.1 v.2.2.2.1 v.2.2.2.2.1 v.2.1⟩
def ym(f:gX):iT:=mF (pB f).L (pB f).F (Ao [] (pB f).V)
abbrev iX:=XA→XS→XF→XN→ao→XS→Int→Int→(Int×Int×Int×ao×XI)→Option (XS×Int×Int×Unit)
def rA(f:iX):De:=⟨⟨74,[(70,8)],[lD 70 0 sA,lD 70 1 sS,lD 70 2 sF,lD 70 3 sN,lD 70 4 .str],[rP 0 70,rD 1 tN,lF 70 5 .str,lI 70 6,lI 70 7],[]⟩,[.ret [lF 70 5 .str,lI 70 6,lI 70 7] []],fun c v=>f c.1 c.2.1 c.2.2.1 c.2.2.2.1 c.2.2.2.2.1 v.2.2.1 v.2.2.2.1 v.2.2.2.2.1 v.2.1⟩
def Bj(f:iX):iT:=mF (rA f).L (rA f).F (Ao [] (rA f).V)
def bH(bc:iY)(a8:gX)(bC:iX)(q:Nat):Nat→Int→ao→XI→XA→XS→XF→XN→ao→XS→Int→Int→Int→Option (XS×Int×Int×Unit)
 |0,_,_,_,_,_,_,_,_,_,_,_,_=>none
 |k + 1,abV,qT,Ks,gn,gg,jy,pM,Fb,Bq,F1,At4,k2=>
  bif decide (k2 < (Ks.length:Int)) then
   aa (fun(ab3:XS)=>
    (bK Ks k2).bind fun x4=>
    (bc gn gg jy pM Fb ab3 F1 At4 x4).bind fun r5=>
    bH bc a8 bC q k abV qT Ks gn gg jy pM Fb r5.1 r5.2.1 r5.2.2.1 (dP (k2 + 1))) fun jX=>
   aa (fun(v:Bool)=>
    bif v then
     (lM Bq ([qT])).bind fun l=>
     jX l
    else
     jX Bq) fun cL=>
   bif abV == 16 then
    cL (k2 == 2)
   else
    cL false
  else
   some (Bq,F1,At4,())
def cF(bc:iY)(a8:gX)(bC:iX)(k:Nat)(aH:XA)(ax:XS)(bj:XF)(jU:XN)(fn:ao)(qL:XS)(Code At i1:Int):Option (XS×Int×Int×Unit):=
 (bK jU i1).bind fun x1=>
 bif Code != 0 then
  some (qL,Code,At,())
 else
  bif x1.1 == 9 then
   (a8 aH ax bj jU fn qL Code At x1).bind fun r1=>
   some (r1.1,r1.2.1,r1.2.2.1,())
  else
   (gB k aH ax bj jU fn qL Code At i1).bind fun r2=>
   bif x1.1 == 22 then
    (bC aH ax bj jU fn r2.1 r2.2.1 r2.2.2.1 x1).bind fun r3=>
    some (r3.1,r3.2.1,r3.2.2.1,())
   else
    aa (fun(jv:Int×Int×Int)=>
     (bH bc a8 bC k k x1.1 x1.2.2.2.1 x1.2.2.2.2 aH ax bj jU fn r2.1 (jv.2.1) (jv.2.2) (jv.1)).bind fun o=>
     aa (fun(v:Bool)=>
      bif v then
       (sub o.1 0 (dP ((o.1.length:Int) - 1))).bind fun l=>
       some (l,o.2.1,o.2.2.1,())
      else
       some (o.1,o.2.1,o.2.2.1,())) fun jX=>
     bif x1.1 == 16 then
      jX (o.2.1 == 0)
     else
      jX false) fun cL=>
    bif x1.1 == 12 then
     (bK x1.2.2.2.2 0).bind fun x2=>
     (bK jU x2).bind fun x3=>
     (gN k aH ax bj fn r2.2.1 r2.2.2.1 x3.2.2.2.1 x3.2.1 1 1).bind fun r4=>
     cL (1,r4.1,r4.2.1)
    else
     cL (0,r2.2.1,r2.2.2.1)
def hJ(bc:iY)(a8:gX)(bC:iX)(k:Nat)(aH:XA)(ax:XS)(bj:XF)(jU:XN)(fn:ao)(qL:XS)(Code At:Int)(n:Int×Int×Int×ao×XI):Option (XS×Int×Int×Unit):=
 (cK k (aH,ax,bj) fn n.2.2.2.1).bind fun r1=>
 (bK n.2.2.2.2 0).bind fun x1=>
 (bK jU x1).bind fun x2=>
 bif r1.1 == 4 then
  aa (fun(jv:Int×Int)=>
   some (qL,(jv.1),(jv.2),())) fun cL=>
  bif x2.1 == 25 then
   (gN k aH ax bj fn Code At x2.2.2.2.1 x2.2.1 4 4).bind fun r2=>
   cL (r2.1,r2.2.1)
  else
   bif x2.1 != 29 then
    (cg Code At 11 n.2.1).bind fun r3=>
    cL (r3.1,r3.2.1)
   else
    cL (Code,At)
 else
  (tr k aH ax bj fn qL Code At n.2.2.2.1 n.2.1).bind fun r4=>
  aa (fun(jv:Int×Int)=>
   (bK n.2.2.2.2 0).bind fun x3=>
   (bc aH ax bj jU fn r4.1 (jv.1) (jv.2) x3).bind fun r6=>
   some (r6.1,r6.2.1,r6.2.2.1,())) fun jX=>
  bif x2.1 == 29 then
   (cg r4.2.1 r4.2.2.1 11 x2.2.1).bind fun r5=>
   jX (r5.1,r5.2.1)
  else
   jX (r4.2.1,r4.2.2.1)
def ix(bc:iY)(a8:gX)(bC:iX)(q:Nat):Nat→XI→XA→XS→XF→XN→ao→XS→Int→Int→Int→Option (XS×Int×Int×Unit)
 |0,_,_,_,_,_,_,_,_,_,_=>none
 |k + 1,Ks,gn,gg,jy,pM,Fb,Bq,F1,At4,i1=>
  bif decide (i1 < (Ks.length:Int)) then
   (bK Ks i1).bind fun x4=>
   (bc gn gg jy pM Fb Bq F1 At4 x4).bind fun r4=>
   ix bc a8 bC q k Ks gn gg jy pM Fb r4.1 r4.2.1 r4.2.2.1 (dP (i1 + 1))
  else
   some (Bq,F1,At4,())
def lJ(bc:iY)(a8:gX)(bC:iX)(k:Nat)(aH:XA)(ax:XS)(bj:XF)(jU:XN)(fn:ao)(qL:XS)(Code At:Int)(n:Int×Int×Int×ao×XI):Option (XS×Int×Int×Unit):=
 (bK n.2.2.2.2 0).bind fun x1=>
 (bK jU x1).bind fun x2=>
 (gN k aH ax bj fn Code At x2.2.2.2.1 x2.2.1 5 5).bind fun r1=>
 (cK k (aH,ax,bj) fn x2.2.2.2.1).bind fun r2=>
 aa (fun(jv:Int×Int)=>
  (ix bc a8 bC k k n.2.2.2.2 aH ax bj jU fn qL (jv.1) (jv.2) 1).bind fun o=>
  some (o.1,o.2.1,o.2.2.1,())) fun jX=>
 aa (fun(v:Bool)=>
  bif v then
   (cg r1.1 r1.2.1 12 x2.2.1).bind fun r3=>
   jX (r3.1,r3.2.1)
  else
   jX (r1.1,r1.2.1)) fun cL=>
 bif r2.1 == 5 then
  (bK bj r2.2.1).bind fun x3=>
  cL (x3.2.1 != (dP ((n.2.2.2.2.length:Int) - 1)))
 else
  cL false
def eN:Nat→iY×gX×iX
 |0=>(fun _ _ _ _ _ _ _ _ _=>none,fun _ _ _ _ _ _ _ _ _=>none,fun _ _ _ _ _ _ _ _ _=>none)
 |k + 1=>(cF (eN k).1 (eN k).2.1 (eN k).2.2 k,hJ (eN k).1 (eN k).2.1 (eN k).2.2 k,lJ (eN k).1 (eN k).2.1 (eN k).2.2 k)
def dB(k:Nat):iY:=(eN k).1
def dx(k:Nat):gX:=(eN k).2.1
def eE(k:Nat):iX:=(eN k).2.2
section
variable (bc:Gd bD 34 Bk) (a8:Gd bD 54 ym) (bC:Gd bD 56 Bj)
def xC(k:Nat):m9:=⟨⟨111,[(47,5),(70,8)],[lI 47 0,lI 47 1,lI 47 2,lD 47 3 .str,lD 47 4 sI,lD 70 0 sA,lD 70 1 sS,lD 70 2 sF,lD 70 3 sN,lD 70 4 .str,rP 0 70,rP 4 47],[lF 70 5 .str,lI 70 6,lI 70 7,rI 5],[]⟩,[.ex (.exit 0) [lF 70 5 .str,lI 70 6,lI 70 7]],fun q c v=>bH bc.1 a8.1 bC.1 k q c.1 c.2.2.2.1 c.2.2.2.2.1 c.2.2.2.2.2.1 c.2.2.2.2.2.2.1 c.2.2.2.2.2.2.2.1 c.2.2.2.2.2.2.2.2.1 c.2.2.2.2.2.2.2.2.2.1 v.1 v.2.1 v.2.2.1 v.2.2.2.1⟩
def Be(k:Nat):Ev bD:=⟨[bc.cl,a8.cl,KI k,bC.cl,pi k],[lp 0 (xC bc a8 bC k) k],[(4,47)]⟩
def EW(k q:Nat):Cd bD:=oz (Be bc a8 bC k) f34 0 (xC bc a8 bC k) q []
def Jz(k:Nat):Cl bD:=mY (Be bc a8 bC k) 34 f34 func34 call34 [] (rB (cF bc.1 a8.1 bC.1 k)) [EW bc a8 bC k k]
def Gx(k:Nat):Cl bD:=mY ⟨[bc.cl,pf k,pi k,ph,Co k],[],[(3,47)]⟩ 54 f54 func54 call54 [] (pB (hJ bc.1 a8.1 bC.1 k)) []
def xB(k:Nat):m9:=⟨⟨74,[(47,5),(70,8)],[lI 47 0,lI 47 1,lI 47 2,lD 47 3 .str,lD 47 4 sI,lD 70 0 sA,lD 70 1 sS,lD 70 2 sF,lD 70 3 sN,lD 70 4 .str,rP 0 70,rP 3 47],[lF 70 5 .str,lI 70 6,lI 70 7,rI 7],[]⟩,[.ex (.exit 0) [lF 70 5 .str,lI 70 6,lI 70 7]],fun q c v=>ix bc.1 a8.1 bC.1 k q c.2.2.2.2.1 c.2.2.2.2.2.1 c.2.2.2.2.2.2.1 c.2.2.2.2.2.2.2.1 c.2.2.2.2.2.2.2.2.1 c.2.2.2.2.2.2.2.2.2.1 v.1 v.2.1 v.2.2.1 v.2.2.2.1⟩
def Bc(k:Nat):Ev bD:=⟨[bc.cl,pf k,pi k,ph],[lp 0 (xB bc a8 bC k) k],[(3,47)]⟩
def EV(k q:Nat):Cd bD:=oz (Bc bc a8 bC k) f56 0 (xB bc a8 bC k) q []
def Jy(k:Nat):Cl bD:=mY (Bc bc a8 bC k) 56 f56 func56 call56 [] (rA (lJ bc.1 a8.1 bC.1 k)) [EV bc a8 bC k k]
end
theorem nv:∀ k,lZ prog gt 34 (Bk (dB k))∧lZ prog gt 54 (ym (dx k))∧lZ prog gt 56 (Bj (eE k))
 |0=>⟨dg (fun _ _=>rfl),dg (fun _ _=>rfl),dg (fun _ _=>rfl)⟩
 |k + 1=>have ih:=nv k;⟨(Jz ⟨_,ih.1⟩ ⟨_,ih.2.1⟩ ⟨_,ih.2.2⟩ k).ok,(Gx ⟨_,ih.1⟩ ⟨_,ih.2.1⟩ ⟨_,ih.2.2⟩ k).ok,(Jy ⟨_,ih.1⟩ ⟨_,ih.2.1⟩ ⟨_,ih.2.2⟩ k).ok⟩
def Jq(k:Nat):Cl bD:=⟨_,_,(nv k).1⟩
def TM(k:Nat):Cl bD:=⟨_,_,(nv k).2.1⟩
def VI(k:Nat):Cl bD:=⟨_,_,(nv k).2.2⟩
def o7(q:Nat)(pM:XN)(NF:XI)(i2:Int)(w8:XA)(w9:XS)(w10:XF):Option (Int×XA×XS×XF×Unit):=
 (bK NF i2).bind fun x2=>
 (bK pM x2).bind fun x3=>
 (kA q w8 w9 w10 x3).bind fun r2=>
 some (r2.2.2.2.1,r2.1,r2.2.1,r2.2.2.1,())
def de(q:Nat):Nat→XN→XI→Int→Int→XA→XS→XF→Int→Option (((Int×Int×XA×XS×XF×Unit)⊕(Int×Int×Unit)))
 |0,_,_,_,_,_,_,_,_=>none
 |k + 1,jU,cA,w,w2,w3,w4,w5,i1=>
  bif decide (i1 < (cA.length:Int)) then
   (o7 q jU cA i1 w3 w4 w5).bind fun o=>
   bif o.1 != 0 then
    (bK cA i1).bind fun x2=>
    (bK jU x2).bind fun x3=>
    some (.inr (o.1,x3.2.1,()))
   else
    de q k jU cA w w2 o.2.1 o.2.2.1 o.2.2.2.1 (dP (i1 + 1))
  else
   some (.inl (w,w2,w3,w4,w5,()))
def o8(q:Nat)(pM:XN)(NF:XI)(Fb i2:Int)(w8:XA)(w9:XS)(w10:XF):Option (XA×XS×XF×Int×Int×Unit):=
 (bK NF i2).bind fun x4=>
 (bK pM x4).bind fun x5=>
 (A4 q w8 w9 w10 pM Fb x5).bind fun r2=>
 some (r2.1,r2.2.1,r2.2.2.1,r2.2.2.2.1.1,r2.2.2.2.1.2,())
def cR(q:Nat):Nat→XN→XI→Int→Int→XA→XS→XF→Int→Int→Option (((Int×Int×XA×XS×XF×Unit)⊕(Int×Int×Unit)))
 |0,_,_,_,_,_,_,_,_,_=>none
 |k + 1,jU,cA,w,w2,w3,w4,w5,fn,i1=>
  bif decide (i1 < (cA.length:Int)) then
   aa (fun(jv:Int×XA×XS×XF)=>
    cR q k jU cA w w2 (jv.2.1) (jv.2.2.1) (jv.2.2.2) (jv.1) (dP (i1 + 1))) fun cL=>
   (bK cA i1).bind fun x2=>
   (bK jU x2).bind fun x3=>
   bif x3.1 == 4 then
    (o8 q jU cA fn i1 w3 w4 w5).bind fun o3=>
    bif o3.2.2.2.1 != 0 then
     some (.inr (o3.2.2.2.1,o3.2.2.2.2.1,()))
    else
     cL ((dP (fn + 1)),o3.1,o3.2.1,o3.2.2.1)
   else
    cL (fn,w3,w4,w5)
  else
   some (.inl (w,w2,w3,w4,w5,()))
def eR(q:Nat):Nat→XN→Int→Int→XA→XS→XF→Int→Option (((Int×Int×XA×XS×XF×Unit)⊕(Int×Int×Unit)))
 |0,_,_,_,_,_,_,_=>none
 |k + 1,jU,w,w2,w3,w4,w5,i1=>
  bif decide (i1 < (w5.length:Int)) then
   (bK w5 i1).bind fun x4=>
   (bK w5 i1).bind fun x5=>
   (dB q w3 w4 w5 jU x4.1 [] 0 0 x5.2.2.2.2).bind fun r3=>
   bif r3.2.1 != 0 then
    some (.inr (r3.2.1,r3.2.2.1,()))
   else
    eR q k jU w w2 w3 w4 w5 (dP (i1 + 1))
  else
   some (.inl (w,w2,w3,w4,w5,()))
def gG(k:Nat)(ck:ao):Option ((XA×XS×XF)×(Int×Int)×Unit):=
 (ik k ck).bind fun r1=>
 bif r1.2.1.1 != 0 then
  some (([],[],[]),r1.2.1,())
 else
  (bK r1.1 (dP ((r1.1.length:Int) - 1))).bind fun x1=>
  (de k k r1.1 x1.2.2.2.2 0 0 [] [] [] 0).bind fun r=>match r with
  |.inl o=>
   (cR k k r1.1 x1.2.2.2.2 o.1 o.2.1 o.2.2.1 o.2.2.2.1 o.2.2.2.2.1 0 0).bind fun r=>match r with
   |.inl o3=>
    (jZ k (o3.2.2.1,o3.2.2.2.1,o3.2.2.2.2.1) ([109,97,105,110]:ao)).bind fun r2=>
    aa (fun(v:Bool)=>
     bif v then
      some (([],[],[]),(13,0),())
     else
      (eR k k r1.1 o3.1 o3.2.1 o3.2.2.1 o3.2.2.2.1 o3.2.2.2.2.1 0).bind fun r=>match r with
      |.inl o5=>
       some ((o5.2.2.1,o5.2.2.2.1,o5.2.2.2.2.1),(0,0),())
      |.inr o6=>
       some (([],[],[]),(o6.1,o6.2.1),())) fun cL=>
    bif decide (r2.1 < 0) then
     cL true
    else
     (bK o3.2.2.2.2.1 r2.1).bind fun x2=>
     (bK o3.2.2.2.2.1 (r2.1.toNat:Int)).bind fun x3=>
     cL (x3.2.1 != 0)
   |.inr o4=>
    some (([],[],[]),(o4.1,o4.2.1),())
  |.inr o2=>
   some (([],[],[]),(o2.1,o2.2.1),())
def uN(k:Nat):m9:=⟨⟨160,[(35,3),(37,2),(10004,3),(10007,3)],[lN 35 0,lN 35 1,lN 35 2,lI 37 0,lI 37 1,lN 10004 0,lN 10004 1,lN 10004 2,rP 2 35,rP 3 37,rP 4 10004,rD 5 sN,rP 7 10007,rD 8 sI,rI 9],[lF 10007 0 tA,lF 10007 1 .str,lU 10007 2 tF],[]⟩,[.ex .normal [rP 10 10010,rI 11,lF 10010 0 tA,lF 10010 1 .str,lU 10010 2 tF]],fun q c v=>o7 k c.2.2.2.2.2.2.2.2.2.2.2.1 c.2.2.2.2.2.2.2.2.2.2.2.2.2.1 c.2.2.2.2.2.2.2.2.2.2.2.2.2.2.1 v.1 v.2.1 v.2.2.1⟩
def vL(k:Nat):m9:=⟨⟨160,[(35,3),(37,2),(10004,3),(10007,3)],[lN 10004 0,lN 10004 1,lN 10004 2,rP 2 35,rP 3 37,rP 4 10004,rD 5 sN,rP 7 10007,rD 8 sI],[lN 35 0,lN 35 1,lN 35 2,lI 37 0,lI 37 1,lF 10007 0 tA,lF 10007 1 .str,lU 10007 2 tF,rI 9],[]⟩,[.ex (.exit 0) [lN 35 0,lN 35 1,lN 35 2,lI 37 0,lI 37 1,lF 10007 0 tA,lF 10007 1 .str,lU 10007 2 tF],.ex .ret [lN 35 0,lN 35 1,lN 35 2,lI 37 0,lI 37 1]],fun q c v=>de k q c.2.2.2.2.2.2.1 c.2.2.2.2.2.2.2.2.1 v.2.2.2.1 v.2.2.2.2.1 v.2.2.2.2.2.1 v.2.2.2.2.2.2.1 v.2.2.2.2.2.2.2.1 v.2.2.2.2.2.2.2.2.1⟩
def uO(k:Nat):m9:=⟨⟨160,[(35,3),(37,2),(10004,3),(10007,3)],[lN 35 0,lN 35 1,lN 35 2,lI 37 0,lI 37 1,lN 10004 0,lN 10004 1,lN 10004 2,rP 2 35,rP 3 37,rP 4 10004,rD 5 sN,rP 7 10007,rD 8 sI,rI 12,rI 13],[lF 10007 0 tA,lF 10007 1 .str,lU 10007 2 tF],[]⟩,[.ex .normal [rP 14 10014,rP 15 10015,lF 10014 0 tA,lF 10014 1 .str,lU 10014 2 tF,lI 10015 0,lI 10015 1]],fun q c v=>o8 k c.2.2.2.2.2.2.2.2.2.2.2.1 c.2.2.2.2.2.2.2.2.2.2.2.2.2.1 c.2.2.2.2.2.2.2.2.2.2.2.2.2.2.1 c.2.2.2.2.2.2.2.2.2.2.2.2.2.2.2.1 v.1 v.2.1 v.2.2.1⟩
def vM(k:Nat):m9:=⟨⟨160,[(35,3),(37,2),(10004,3),(10007,3)],[lN 10004 0,lN 10004 1,lN 10004 2,rP 2 35,rP 3 37,rP 4 10004,rD 5 sN,rP 7 10007,rD 8 sI],[lN 35 0,lN 35 1,lN 35 2,lI 37 0,lI 37 1,lF 10007 0 tA,lF 10007 1 .str,lU 10007 2 tF,rI 12,rI 13],[]⟩,[.ex (.exit 2) [lN 35 0,lN 35 1,lN 35 2,lI 37 0,lI 37 1,lF 10007 0 tA,lF 10007 1 .str,lU 10007 2 tF],.ex .ret [lN 35 0,lN 35 1,lN 35 2,lI 37 0,lI 37 1]],fun q c v=>cR k q c.2.2.2.2.2.2.1 c.2.2.2.2.2.2.2.2.1 v.2.2.2.1 v.2.2.2.2.1 v.2.2.2.2.2.1 v.2.2.2.2.2.2.1 v.2.2.2.2.2.2.2.1 v.2.2.2.2.2.2.2.2.1 v.2.2.2.2.2.2.2.2.2.1⟩
def vN(k:Nat):m9:=⟨⟨160,[(35,3),(37,2),(10004,3),(10007,3)],[lN 10004 0,lN 10004 1,lN 10004 2,rP 2 35,rP 3 37,rP 4 10004,rD 5 sN,rP 7 10007],[lN 35 0,lN 35 1,lN 35 2,lI 37 0,lI 37 1,lD 10007 0 sA,lD 10007 1 sS,lD 10007 2 sF,rI 17],[]⟩,[.ex (.exit 4) [lN 35 0,lN 35 1,lN 35 2,lI 37 0,lI 37 1,lD 10007 0 sA,lD 10007 1 sS,lD 10007 2 sF],.ex .ret [lN 35 0,lN 35 1,lN 35 2,lI 37 0,lI 37 1]],fun q c v=>eR k q c.2.2.2.2.2.2.1 v.2.2.2.1 v.2.2.2.2.1 v.2.2.2.2.2.1 v.2.2.2.2.2.2.1 v.2.2.2.2.2.2.2.1 v.2.2.2.2.2.2.2.2.1⟩
def mj(k:Nat):Ev bD:=⟨[zD k,OE k,OD k,yW k,(Jq k).tC 0 70],[rg 10 (uN k),lp 0 (vL k) k,rg 19 (uO k),lp 2 (vM k) k,lp 4 (vN k) k],[(2,35),(3,37)]⟩
def B1(k:Nat):Cd bD:=rgC (mj k) f16 10 (uN k) [[0,1,2,3,4,5,6,7,8,9,10,11,12,13,14],[0,1,2,3,4,5,6,7,12,8,9,10,11,13,14]]
def DM(k q:Nat):Cd bD:=oz (mj k) f16 0 (vL k) q [B1 k]
def B4(k:Nat):Cd bD:=rgC (mj k) f16 19 (uO k) [[0,1,2,3,4,5,6,7,8,9,10,11,12,13,14,15,16,17],[0,1,2,3,4,5,6,7,8,9,10,11,12,13,15,14,16,17],[0,1,2,3,4,5,6,7,8,9,14,10,11,12,13,15,16,17],[0,1,2,3,4,5,6,7,8,9,14,15,10,11,12,13,16,17],[0,1,2,3,4,5,6,7,8,9,15,10,11,12,13,14,16,17],[0,1,2,3,4,5,6,7,8,9,15,14,10,11,12,13,16,17]]
def DN(k q:Nat):Cd bD:=oz (mj k) f16 2 (vM k) q [B4 k]
def DO(k q:Nat):Cd bD:=oz (mj k) f16 4 (vN k) q []
def HP(k:Nat):Cl bD:=zd (mj k) 16 f16 func16 call16 [.str] [tM,tP] (fun d=>gG k d.1) [DM k k,DN k k,DO k k]
end
end Go.Fx.R5
namespace Go.Fx.R5
open Go Go.Fx Go.Proofs Go.Proofs.Tryz
noncomputable section
def fW(fn:Int)(gW:XI)(kV:XB)(aaV:Bool):Option (Int×XI×XB×Unit):=
 (lM gW ([fn])).bind fun l=>
 (lM kV ([aaV])).bind fun l2=>
 some ((dP ((l.length:Int) - 1)),l,l2,())
def oc:Cl bD:=mY ⟨[],[],[]⟩ 101 f101 func101 call101 [500000] ⟨⟨39,[(120,11)],[lD 120 0 sA,lD 120 1 sS,lD 120 2 sF,lD 120 3 sN,lI 120 4,lF 120 6 I,lF 120 8 tE,lF 120 9 I,lF 120 10 I],[rP 0 120,rD 1 .bool,lF 120 5 I,lF 120 7 .bool],[]⟩,[.ret [rI 500000,lF 120 5 I,lF 120 7 .bool] []],fun c v=>fW c.2.2.2.2.1 v.2.2.1 v.2.2.2.1 v.2.1⟩ []
def fe(gC:XE)(lR BH CH nA arg:Int):Option (XE×Unit):=
 (lM gC ([(lR,BH,CH,nA,arg)])).bind fun l=>
 some (l,())
def pj:Cl bD:=mY ⟨[],[],[]⟩ 103 f103 func103 call103 [] ⟨⟨29,[(120,11)],[lD 120 0 sA,lD 120 1 sS,lD 120 2 sF,lD 120 3 sN,lI 120 4,lF 120 5 I,lF 120 6 I,lF 120 7 .bool,lF 120 9 I,lF 120 10 I],[rP 0 120,rI 1,rI 2,rI 3,rI 4,rI 5,lF 120 8 tE],[]⟩,[.ret [lF 120 8 tE] []],fun c v=>fe v.2.2.2.2.2.2.1 v.2.1 v.2.2.1 v.2.2.2.1 v.2.2.2.2.1 v.2.2.2.2.2.1⟩ []
abbrev rK:=XA→XS→XF→XN→Int→XI→XI→XB→XE→XI→XI→Int→Int→Int→Int→Option (XI×XB×XE×Unit)
def rC(f:rK):De:=⟨⟨88,[(120,11)],[lD 120 0 sA,lD 120 1 sS,lD 120 2 sF,lD 120 3 sN,lI 120 4,lF 120 6 I,lF 120 9 I,lF 120 10 I],[rP 0 120,rI 1,rI 2,rI 3,rI 4,lF 120 5 I,lF 120 7 .bool,lF 120 8 tE],[]⟩,[.ret [lF 120 5 I,lF 120 7 .bool,lF 120 8 tE] []],fun c v=>f c.1 c.2.1 c.2.2.1 c.2.2.2.1 c.2.2.2.2.1 v.2.2.2.2.2.1 c.2.2.2.2.2.1 v.2.2.2.2.2.2.1 v.2.2.2.2.2.2.2.1 c.2.2.2.2.2.2.1 c.2.2.2.2.2.2.2.1 v.2.1 v.2.2.1 v.2.2.2.1 v.2.2.2.2.1⟩
def Bm(f:rK):iT:=mF (rC f).L (rC f).F (Ao [] (rC f).V)
def nq(jY:rK)(k:Nat)(aH:XA)(ax:XS)(bj:XF)(jU:XN)(fn:Int)(gW iJ:XI)(kV:XB)(gC:XE)(lQ to:XI)(i1 lR yes no:Int):Option (XI×XB×XE×Unit):=
 (bK jU i1).bind fun x1=>
 bif x1.1 == 33 then
  (bK x1.2.2.2.2 0).bind fun x2=>
  (jY aH ax bj jU fn gW iJ kV gC lQ to x2 lR no yes).bind fun r1=>
  some (r1.1,r1.2.1,r1.2.2.1,())
 else
  bif x1.1 == 31 then
   (fW fn gW kV false).bind fun r2=>
   (bK x1.2.2.2.2 0).bind fun x3=>
   (jY aH ax bj jU fn r2.2.1 iJ r2.2.2.1 gC lQ to x3 lR r2.1 no).bind fun r3=>
   (bK x1.2.2.2.2 1).bind fun x4=>
   (jY aH ax bj jU fn r3.1 iJ r3.2.1 r3.2.2.1 lQ to x4 r2.1 yes no).bind fun r4=>
   some (r4.1,r4.2.1,r4.2.2.1,())
  else
   bif x1.1 == 32 then
    (fW fn gW kV false).bind fun r5=>
    (bK x1.2.2.2.2 0).bind fun x5=>
    (jY aH ax bj jU fn r5.2.1 iJ r5.2.2.1 gC lQ to x5 lR yes r5.1).bind fun r6=>
    (bK x1.2.2.2.2 1).bind fun x6=>
    (jY aH ax bj jU fn r6.1 iJ r6.2.1 r6.2.2.1 lQ to x6 r5.1 yes no).bind fun r7=>
    some (r7.1,r7.2.1,r7.2.2.1,())
   else
    (fe gC lR yes 3 i1 1).bind fun r8=>
    (fe r8.1 lR no 3 i1 0).bind fun r9=>
    some (gW,kV,r9.1,())
def jF:Nat→rK
 |0=>fun _ _ _ _ _ _ _ _ _ _ _ _ _ _ _=>none
 |k + 1=>nq (jF k) k
section
variable (jY:Gd bD 153 Bm)
def JA(k:Nat):Cl bD:=mY ⟨[oc,pj,jY.cl],[],[(10,47)]⟩ 153 f153 func153 call153 [] (rC (nq jY.1 k)) []
end
theorem zK:∀ k,lZ prog gt 153 (Bm (jF k))
 |0=>dg (fun _ _=>rfl)
 |k + 1=>(JA ⟨_,zK k⟩ k).ok
def Bv(k:Nat):Cl bD:=⟨_,_,zK k⟩
abbrev jl:=XA→XS→XF→XN→Int→XI→XI→XB→XE→XI→XI→Int→Int→Int→Option (XI×XB×XE×XI×XI×Unit)
def qm(f:jl):De:=⟨⟨56,[(120,11)],[lD 120 0 sA,lD 120 1 sS,lD 120 2 sF,lD 120 3 sN,lI 120 4,lF 120 6 I],[rP 0 120,rI 1,rI 2,rI 3,lF 120 5 I,lF 120 7 .bool,lF 120 8 tE,lF 120 9 I,lF 120 10 I],[]⟩,[.ret [lF 120 5 I,lF 120 7 .bool,lF 120 8 tE,lF 120 9 I,lF 120 10 I] []],fun c v=>f c.1 c.2.1 c.2.2.1 c.2.2.2.1 c.2.2.2.2.1 v.2.2.2.2.1 c.2.2.2.2.2.1 v.2.2.2.2.2.1 v.2.2.2.2.2.2.1 v.2.2.2.2.2.2.2.1 v.2.2.2.2.2.2.2.2.1 v.2.1 v.2.2.1 v.2.2.2.1⟩
def zx(f:jl):iT:=mF (qm f).L (qm f).F (Ao [] (qm f).V)
abbrev jV:=XA→XS→XF→XN→Int→XI→XI→XB→XE→XI→XI→Int→Int→Int→Option (XI×XB×XE×XI×XI×Unit)
def rE(f:jV):De:=⟨⟨151,[(120,11)],[lD 120 0 sA,lD 120 1 sS,lD 120 2 sF,lD 120 3 sN,lI 120 4,lF 120 6 I],[rP 0 120,rI 1,rI 2,rI 3,lF 120 5 I,lF 120 7 .bool,lF 120 8 tE,lF 120 9 I,lF 120 10 I],[]⟩,[.ret [lF 120 5 I,lF 120 7 .bool,lF 120 8 tE,lF 120 9 I,lF 120 10 I] []],fun c v=>f c.1 c.2.1 c.2.2.1 c.2.2.2.1 c.2.2.2.2.1 v.2.2.2.2.1 c.2.2.2.2.2.1 v.2.2.2.2.2.1 v.2.2.2.2.2.2.1 v.2.2.2.2.2.2.2.1 v.2.2.2.2.2.2.2.2.1 v.2.1 v.2.2.1 v.2.2.2.1⟩
def Bn(f:jV):iT:=mF (rE f).L (rE f).F (Ao [] (rE f).V)
abbrev jW:=XA→XS→XF→XN→Int→XI→XI→XB→XE→XI→XI→Int→Int→Int→Option (XI×XB×XE×XI×XI×Unit)
def rF(f:jW):De:=⟨⟨77,[(120,11)],[lD 120 0 sA,lD 120 1 sS,lD 120 2 sF,lD 120 3 sN,lI 120 4,lF 120 6 I],[rP 0 120,rI 1,rI 2,rI 3,lF 120 5 I,lF 120 7 .bool,lF 120 8 tE,lF 120 9 I,lF 120 10 I],[]⟩,[.ret [lF 120 5 I,lF 120 7 .bool,lF 120 8 tE,lF 120 9 I,lF 120 10 I] []],fun c v=>f c.1 c.2.1 c.2.2.1 c.2.2.2.1 c.2.2.2.2.1 v.2.2.2.2.1 c.2.2.2.2.2.1 v.2.2.2.2.2.1 v.2.2.2.2.2.2.1 v.2.2.2.2.2.2.2.1 v.2.2.2.2.2.2.2.2.1 v.2.1 v.2.2.1 v.2.2.2.1⟩
def Bo(f:jW):iT:=mF (rF f).L (rF f).F (Ao [] (rF f).V)
def hU(cf:jl)(du:jV)(dv:jW)(q:Nat):Nat→XA→XS→XF→XN→Int→XI→Int→XI→XI→XB→XE→XI→XI→Int→Int→Option (XI×XB×XE×XI×XI×Unit)
 |0,_,_,_,_,_,_,_,_,_,_,_,_,_,_,_=>none
 |k + 1,gn,gg,jy,pM,Fb,mr,to4,k1,kg,pC,Kr,ZT,to3,acb,j=>
  bif decide (j < (k1.length:Int)) then
   aa (fun(jv:Int×XI×XB)=>
    (bK k1 j).bind fun x4=>
    (du gn gg jy pM Fb (jv.2.1) mr (jv.2.2) Kr ZT to3 x4 acb (jv.1)).bind fun r3=>
    hU cf du dv q k gn gg jy pM Fb mr to4 k1 r3.1 r3.2.1 r3.2.2.1 r3.2.2.2.1 r3.2.2.2.2.1 (jv.1) (dP (j + 1))) fun cL=>
   bif decide ((dP (j + 1)) < (k1.length:Int)) then
    (fW Fb kg pC false).bind fun r2=>
    cL (r2.1,r2.2.1,r2.2.2.1)
   else
    cL (to4,kg,pC)
  else
   some (kg,pC,Kr,ZT,to3,())
def ov(cf:jl)(du:jV)(dv:jW)(k:Nat)(aH:XA)(ax:XS)(bj:XF)(jU:XN)(fn:Int)(gW iJ:XI)(kV:XB)(gC:XE)(lQ to:XI)(i1 lR BH:Int):Option (XI×XB×XE×XI×XI×Unit):=
 (bK lQ i1).bind fun x1=>
 (bK lQ (i1.toNat:Int)).bind fun x2=>
 (bK jU i1).bind fun x3=>
 aa (fun(mW:XE)=>
  (hU cf du dv k k aH ax bj jU fn iJ BH x3.2.2.2.2 gW kV mW (List.set lQ i1.toNat lR) to lR 0).bind fun o=>
  some (o.1,o.2.1,o.2.2.1,o.2.2.2.1,o.2.2.2.2.1,())) fun cL=>
 bif (x3.2.2.2.2.length:Int) == 0 then
  (fe gC lR BH 1 (-1) 0).bind fun r1=>
  cL r1.1
 else
  cL gC
def fP(cf:jl)(du:jV)(dv:jW)(k:Nat)(aH:XA)(ax:XS)(bj:XF)(jU:XN)(fn:Int)(gW iJ:XI)(kV:XB)(gC:XE)(lQ to:XI)(i1 lR BH:Int):Option (XI×XB×XE×XI×XI×Unit):=
 (bK jU i1).bind fun x1=>
 (bK lQ i1).bind fun x2=>
 (bK lQ (i1.toNat:Int)).bind fun x3=>
 (bK to i1).bind fun x4=>
 (bK to (i1.toNat:Int)).bind fun x5=>
 bif x1.1 == 14 then
  (fW fn gW kV false).bind fun r1=>
  aa (fun(jv:Int×XI×XB)=>
   (bK x1.2.2.2.2 0).bind fun x6=>
   (jF k aH ax bj jU fn (jv.2.1) iJ (jv.2.2) gC (List.set lQ i1.toNat lR) (List.set to i1.toNat BH) x6 lR r1.1 (jv.1)).bind fun r3=>
   (bK x1.2.2.2.2 1).bind fun x7=>
   (cf aH ax bj jU fn r3.1 iJ r3.2.1 r3.2.2.1 (List.set lQ i1.toNat lR) (List.set to i1.toNat BH) x7 r1.1 BH).bind fun r4=>
   aa (fun(jv:XI×XB×XE×XI×XI)=>
    some ((jv.1),(jv.2.1),(jv.2.2.1),(jv.2.2.2.1),(jv.2.2.2.2),())) fun jX=>
   bif decide ((x1.2.2.2.2.length:Int) > 2) then
    (bK x1.2.2.2.2 2).bind fun x8=>
    (cf aH ax bj jU fn r4.1 iJ r4.2.1 r4.2.2.1 r4.2.2.2.1 r4.2.2.2.2.1 x8 (jv.1) BH).bind fun r5=>
    jX (r5.1,r5.2.1,r5.2.2.1,r5.2.2.2.1,r5.2.2.2.2.1)
   else
    jX (r4.1,r4.2.1,r4.2.2.1,r4.2.2.2.1,r4.2.2.2.2.1)) fun cL=>
  bif decide ((x1.2.2.2.2.length:Int) > 2) then
   (fW fn r1.2.1 r1.2.2.1 false).bind fun r2=>
   cL (r2.1,r2.2.1,r2.2.2.1)
  else
   cL (BH,r1.2.1,r1.2.2.1)
 else
  aa (fun(v:Bool)=>
   bif v then
    (dv aH ax bj jU fn gW iJ kV gC (List.set lQ i1.toNat lR) (List.set to i1.toNat BH) i1 lR BH).bind fun r6=>
    some (r6.1,r6.2.1,r6.2.2.1,r6.2.2.2.1,r6.2.2.2.2.1,())
   else
    bif x1.1 == 19 then
     (fW fn gW kV false).bind fun r7=>
     (bK x1.2.2.2.2 0).bind fun x9=>
     (jF k aH ax bj jU fn r7.2.1 iJ r7.2.2.1 gC (List.set lQ i1.toNat lR) (List.set to i1.toNat BH) x9 lR BH r7.1).bind fun r8=>
     (fe r8.2.2.1 r7.1 r7.1 4 i1 0).bind fun r9=>
     some (r8.1,r8.2.1,r9.1,List.set lQ i1.toNat lR,List.set to i1.toNat BH,())
    else
     bif x1.1 == 21 then
      (fe gC lR lR 6 i1 0).bind fun mU=>
      some (gW,kV,mU.1,List.set lQ i1.toNat lR,List.set to i1.toNat BH,())
     else
      bif x1.1 == 20 then
       (fe gC lR lR 7 i1 0).bind fun pK=>
       some (gW,kV,pK.1,List.set lQ i1.toNat lR,List.set to i1.toNat BH,())
      else
       bif x1.1 == 22 then
        (bK x1.2.2.2.2 0).bind fun x10=>
        (bK jU x10).bind fun x11=>
        (jZ k (aH,ax,bj) x11.2.2.2.1).bind fun qP=>
        (fe gC lR BH 5 i1 qP.1).bind fun sm=>
        some (gW,kV,sm.1,List.set lQ i1.toNat lR,List.set to i1.toNat BH,())
       else
        (fe gC lR BH 2 i1 0).bind fun sx=>
        some (gW,kV,sx.1,List.set lQ i1.toNat lR,List.set to i1.toNat BH,())) fun yx=>
  bif x1.1 == 15 then
   yx true
  else
   yx (x1.1 == 16)
def pr(cf:jl)(du:jV)(dv:jW)(k:Nat)(aH:XA)(ax:XS)(bj:XF)(jU:XN)(fn:Int)(gW iJ:XI)(kV:XB)(gC:XE)(lQ to:XI)(i1 lR BH:Int):Option (XI×XB×XE×XI×XI×Unit):=
 (bK jU i1).bind fun x1=>
 (fW fn gW kV true).bind fun r1=>
 (fW fn r1.2.1 r1.2.2.1 false).bind fun r2=>
 bif x1.1 == 15 then
  (fe gC lR r1.1 1 (-1) 0).bind fun r3=>
  (bK x1.2.2.2.2 0).bind fun x2=>
  (jF k aH ax bj jU fn r2.2.1 iJ r2.2.2.1 r3.1 lQ to x2 r1.1 r2.1 BH).bind fun r4=>
  (bK x1.2.2.2.2 1).bind fun x3=>
  (cf aH ax bj jU fn r4.1 iJ r4.2.1 r4.2.2.1 lQ to x3 r2.1 r1.1).bind fun r5=>
  some (r5.1,r5.2.1,r5.2.2.1,r5.2.2.2.1,r5.2.2.2.2.1,())
 else
  (fe gC lR r1.1 8 i1 0).bind fun r6=>
  (fe r6.1 r1.1 r2.1 9 i1 1).bind fun r7=>
  (fe r7.1 r1.1 BH 9 i1 0).bind fun r8=>
  (fW fn r2.2.1 r2.2.2.1 false).bind fun r9=>
  (bK x1.2.2.2.2 2).bind fun x4=>
  (cf aH ax bj jU fn r9.2.1 iJ r9.2.2.1 r8.1 lQ to x4 r2.1 r9.1).bind fun mU=>
  (fe mU.2.2.1 r9.1 r1.1 10 i1 0).bind fun pK=>
  some (mU.1,mU.2.1,pK.1,mU.2.2.2.1,mU.2.2.2.2.1,())
def ep:Nat→jl×jV×jW
 |0=>(fun _ _ _ _ _ _ _ _ _ _ _ _ _ _=>none,fun _ _ _ _ _ _ _ _ _ _ _ _ _ _=>none,fun _ _ _ _ _ _ _ _ _ _ _ _ _ _=>none)
 |k + 1=>(ov (ep k).1 (ep k).2.1 (ep k).2.2 k,fP (ep k).1 (ep k).2.1 (ep k).2.2 k,pr (ep k).1 (ep k).2.1 (ep k).2.2 k)
def iS(k:Nat):jl:=(ep k).1
def jG(k:Nat):jV:=(ep k).2.1
def mi(k:Nat):jW:=(ep k).2.2
section
variable (cf:Gd bD 102 zx) (du:Gd bD 122 Bn) (dv:Gd bD 154 Bo)
def vR(k:Nat):m9:=⟨⟨56,[(120,11)],[lD 120 0 sA,lD 120 1 sS,lD 120 2 sF,lD 120 3 sN,lI 120 4,lF 120 6 I,rP 0 120,rI 3,rD 8 sI],[lF 120 5 I,lF 120 7 .bool,lF 120 8 tE,lF 120 9 I,lF 120 10 I,rI 2,rI 9],[]⟩,[.ex (.exit 0) [lF 120 5 I,lF 120 7 .bool,lF 120 8 tE,lF 120 9 I,lF 120 10 I]],fun q c v=>hU cf.1 du.1 dv.1 k q c.1 c.2.1 c.2.2.1 c.2.2.2.1 c.2.2.2.2.1 c.2.2.2.2.2.1 c.2.2.2.2.2.2.2.1 c.2.2.2.2.2.2.2.2.1 v.1 v.2.1 v.2.2.1 v.2.2.2.1 v.2.2.2.2.1 v.2.2.2.2.2.1 v.2.2.2.2.2.2.1⟩
def zq(k:Nat):Ev bD:=⟨[oc,pj,du.cl],[lp 0 (vR cf du dv k) k],[]⟩
def DS(k q:Nat):Cd bD:=oz (zq cf du dv k) f102 0 (vR cf du dv k) q []
def H7(k:Nat):Cl bD:=mY (zq cf du dv k) 102 f102 func102 call102 [] (qm (ov cf.1 du.1 dv.1 k)) [DS cf du dv k k]
def JB(k:Nat):Cl bD:=mY ⟨[yW k,oc,cf.cl,pj,Bv k,dv.cl],[],[(8,47)]⟩ 122 f122 func122 call122 [] (rE (fP cf.1 du.1 dv.1 k)) []
def JC(k:Nat):Cl bD:=mY ⟨[oc,cf.cl,pj,Bv k],[],[(8,47)]⟩ 154 f154 func154 call154 [] (rF (pr cf.1 du.1 dv.1 k)) []
end
theorem mR:∀ k,lZ prog gt 102 (zx (iS k))∧lZ prog gt 122 (Bn (jG k))∧lZ prog gt 154 (Bo (mi k))
 |0=>⟨dg (fun _ _=>rfl),dg (fun _ _=>rfl),dg (fun _ _=>rfl)⟩
 |k + 1=>have ih:=mR k;⟨(H7 ⟨_,ih.1⟩ ⟨_,ih.2.1⟩ ⟨_,ih.2.2⟩ k).ok,(JB ⟨_,ih.1⟩ ⟨_,ih.2.1⟩ ⟨_,ih.2.2⟩ k).ok,(JC ⟨_,ih.1⟩ ⟨_,ih.2.1⟩ ⟨_,ih.2.2⟩ k).ok⟩
def HR(k:Nat):Cl bD:=⟨_,_,(mR k).1⟩
def VJ(k:Nat):Cl bD:=⟨_,_,(mR k).2.1⟩
def VK(k:Nat):Cl bD:=⟨_,_,(mR k).2.2⟩
def nR(q:Nat):Nat→XN→XI→XI→Int→Option (XI×XI×Unit)
 |0,_,_,_,_=>none
 |k + 1,aas,lQ,to,i1=>
  bif decide (i1 < (aas.length:Int)) then
   (lM lQ ([(-1)])).bind fun l=>
   (lM to ([(-1)])).bind fun l2=>
   nR q k aas l l2 (dP (i1 + 1))
  else
   some (lQ,to,())
def nS(q:Nat):Nat→XF→XA→XS→XF→XN→Int→XI→XI→XB→XE→XI→XI→Int→Option (Int×XI×XI×XB×XE×XI×XI×Unit)
 |0,_,_,_,_,_,_,_,_,_,_,_,_,_=>none
 |k + 1,w3,aH,ax,bj,pM,fn,gW,iJ,kV,gC,lQ,to,i1=>
  bif decide (i1 < (w3.length:Int)) then
   (fW i1 gW kV false).bind fun r1=>
   (fW i1 r1.2.1 r1.2.2.1 false).bind fun r2=>
   (lM iJ ([r1.1])).bind fun l=>
   (bK w3 i1).bind fun x1=>
   (iS q aH ax bj pM i1 r2.2.1 l r2.2.2.1 gC lQ to x1.2.2.2.2 r1.1 r2.1).bind fun r3=>
   (fe r3.2.2.1 r2.1 r2.1 6 (-1) 0).bind fun r4=>
   nS q k w3 aH ax bj pM i1 r3.1 l r3.2.1 r4.1 r3.2.2.2.1 r3.2.2.2.2.1 (dP (i1 + 1))
  else
   some (fn,gW,iJ,kV,gC,lQ,to,())
def FJ(k:Nat)(t:XA×XS×XF)(jU:XN):Option (XA×XS×XF×XN×Int×XI×XI×XB×XE×XI×XI×Unit):=
 (nR k k jU [] [] 0).bind fun o=>
 (nS k k t.2.2 t.1 t.2.1 t.2.2 jU 0 [] [] [] [] o.1 o.2.1 0).bind fun o2=>
 some (t.1,t.2.1,t.2.2,jU,o2.1,o2.2.1,o2.2.2.1,o2.2.2.2.1,o2.2.2.2.2.1,o2.2.2.2.2.2.1,o2.2.2.2.2.2.2.1,())
def BB(k:Nat):m9:=⟨⟨80,[(35,3),(120,11)],[lD 35 0 sA,lD 35 1 sS,lD 35 2 sF,lD 120 0 sA,lD 120 1 sS,lD 120 2 sF,lD 120 3 sN,lI 120 4,lN 120 5,lN 120 6,lN 120 7,lN 120 8,rD 1 sN,rP 2 35,rP 5 120],[lF 120 9 I,lF 120 10 I,rI 6],[]⟩,[.ex (.exit 0) [lF 120 9 I,lF 120 10 I]],fun q c v=>nR k q c.2.2.2.2.2.2.2.2.2.2.2.2.1 v.1 v.2.1 v.2.2.1⟩
def BC(k:Nat):m9:=⟨⟨80,[(35,3),(120,11)],[lD 35 0 sA,lD 35 1 sS,lD 35 2 sF,lD 120 0 sA,lD 120 1 sS,lD 120 2 sF,lD 120 3 sN,rP 2 35,rP 5 120],[lI 120 4,lF 120 5 I,lF 120 6 I,lF 120 7 .bool,lF 120 8 tE,lF 120 9 I,lF 120 10 I,rI 7],[]⟩,[.ex (.exit 2) [lI 120 4,lF 120 5 I,lF 120 6 I,lF 120 7 .bool,lF 120 8 tE,lF 120 9 I,lF 120 10 I]],fun q c v=>nS k q c.2.2.1 c.2.2.2.1 c.2.2.2.2.1 c.2.2.2.2.2.1 c.2.2.2.2.2.2.1 v.1 v.2.1 v.2.2.1 v.2.2.2.1 v.2.2.2.2.1 v.2.2.2.2.2.1 v.2.2.2.2.2.2.1 v.2.2.2.2.2.2.2.1⟩
def Ax(k:Nat):Ev bD:=⟨[oc,HR k,pj],[lp 0 (BB k) k,lp 2 (BC k) k],[(2,35),(13,120)]⟩
def Jc(k q:Nat):Cd bD:=oz (Ax k) f67 0 (BB k) q []
def Jd(k q:Nat):Cd bD:=oz (Ax k) f67 2 (BC k) q []
def OF(k:Nat):Cl bD:=mY (Ax k) 67 f67 func67 call67 [500000] ⟨⟨80,[],[],[rD 0 tM,rD 1 sN],[]⟩,[.ret [rP 500000 120,lD 120 0 sA,lD 120 1 sS,lD 120 2 sF,lD 120 3 sN,lI 120 4,lF 120 5 I,lF 120 6 I,lF 120 7 .bool,lF 120 8 tE,lF 120 9 I,lF 120 10 I] [(120,11,120)]],fun c v=>FJ k v.1 v.2.1⟩ [Jc k k,Jd k k]
def FK(k:Nat)(t:XA×XS×XF)(jU:XN):Option ((XI×XI×XB×XE)×Unit):=
 (FJ k t jU).bind fun r1=>
 some ((r1.2.2.2.2.2.1,r1.2.2.2.2.2.2.1,r1.2.2.2.2.2.2.2.1,r1.2.2.2.2.2.2.2.2.1),())
def OG(k:Nat):Cl bD:=zd ⟨[OF k],[],[(2,35),(4,84)]⟩ 39 f39 func39 call39 [tM,sN] [(.cX sI (.cX sI (.cX sB sE)))] (fun d=>FK k d.1 d.2.1) []
def gI(q:Nat):Nat→XI→XE→Int→XB→Int→Option (XB×Unit)
 |0,_,_,_,_,_=>none
 |k + 1,w5,w8,fn3,uh,i1=>
  bif decide (i1 < (w8.length:Int)) then
   aa (fun(aej:XB)=>
    gI q k w5 w8 fn3 aej (dP (i1 + 1))) fun yx=>
   (bK w8 i1).bind fun x1=>
   aa (fun(v2:Bool)=>
    bif v2 then
     (bK uh x1.2.2.2.2).bind fun x6=>
     (bK uh (x1.2.2.2.2.toNat:Int)).bind fun x7=>
     yx (List.set uh x1.2.2.2.2.toNat true)
    else
     yx uh) fun jX=>
   bif x1.2.2.1 == 5 then
    (bK w5 x1.1).bind fun x2=>
    aa (fun(v:Bool)=>
     jX v) fun cL=>
    bif x2 == fn3 then
     cL true
    else
     (bK w5 x1.1).bind fun x3=>
     (bK uh x3).bind fun x4=>
     (bK uh (x3.toNat:Int)).bind fun x5=>
     cL x5
   else
    jX false
  else
   some (uh,())
def lK(q:Nat):Nat→XI→XI→XE→Int→XB→Int→Option (XB×Unit)
 |0,_,_,_,_,_,_=>none
 |k + 1,w,w2,w4,Fb,out,n=>
  bif decide (n < (w2.length:Int)) then
   (gI q q w w4 Fb out 0).bind fun o=>
   lK q k w w2 w4 Fb o.1 (dP (n + 1))
  else
   some (out,())
def wn(k:Nat)(f:XI×XI×XB×XE)(fn:Int):Option (XB×Unit):=
 (mkl (f.2.1.length:Int) (false:Bool)).bind fun z=>
 (sub z 0 (f.2.1.length:Int)).bind fun l=>
 (lK k k f.1 f.2.1 f.2.2.2 fn l 0).bind fun o=>
 some (o.1,())
def yF(k:Nat):m9:=⟨⟨61,[(84,4)],[lD 84 0 sI,lD 84 1 sI,lD 84 2 sB,lD 84 3 sE,rI 1,rP 2 84,rI 6],[(.r 5,.h .ez .bool),rI 7],[]⟩,[.ex (.exit 2) [(.r 5,.h .ez .bool)]],fun q c v=>gI k q c.1 c.2.2.2.1 c.2.2.2.2.1 v.1 v.2.1⟩
def yE(k:Nat):m9:=⟨⟨61,[(84,4)],[lD 84 0 sI,lD 84 1 sI,lD 84 2 sB,lD 84 3 sE,rI 1,rP 2 84],[(.r 5,.h .ez .bool),rI 6],[]⟩,[.ex (.exit 0) [(.r 5,.h .ez .bool)]],fun q c v=>lK k q c.1 c.2.1 c.2.2.2.1 c.2.2.2.2.1 v.1 v.2.1⟩
def wG(k:Nat):Ev bD:=⟨[],[lp 2 (yF k) k,lp 0 (yE k) k],[(2,84)]⟩
def FZ(k q:Nat):Cd bD:=oz (wG k) f68 2 (yF k) q []
def FY(k q:Nat):Cd bD:=oz (wG k) f68 0 (yE k) q [FZ k k]
def KJ(k:Nat):Cl bD:=zd (wG k) 68 f68 func68 call68 [(.cX sI (.cX sI (.cX sB sE))),I] [sB] (fun d=>wn k d.1 d.2.1) [FY k k]
def mK(q:Nat):Nat→XB→XB→Int→Option (XB×Unit)
 |0,_,_,_=>none
 |k + 1,r2,uh,k1=>
  bif decide (k1 < (r2.length:Int)) then
   (bK uh k1).bind fun x4=>
   (bK uh (k1.toNat:Int)).bind fun x5=>
   aa (fun(v:Bool)=>
    (bK uh k1).bind fun x7=>
    (bK uh (k1.toNat:Int)).bind fun x8=>
    mK q k r2 (List.set uh k1.toNat v) (dP (k1 + 1))) fun cL=>
   bif x5 then
    cL true
   else
    (bK r2 k1).bind fun x6=>
    cL x6
  else
   some (uh,())
def iR(q:Nat):Nat→XI→XI→XB→XE→XB→Int→Option (XB×Unit)
 |0,_,_,_,_,_,_=>none
 |k + 1,w,w2,w3,w4,out,i1=>
  bif decide (i1 < (w2.length:Int)) then
   aa (fun(uh:XB)=>
    iR q k w w2 w3 w4 uh (dP (i1 + 1))) fun cL=>
   (wn q (w,w2,w3,w4) i1).bind fun r1=>
   (bK r1.1 i1).bind fun x1=>
   bif !x1 then
    cL out
   else
    (bK out i1).bind fun x2=>
    (bK out (i1.toNat:Int)).bind fun x3=>
    (mK q q r1.1 (List.set out i1.toNat true) 0).bind fun o=>
    cL o.1
  else
   some (out,())
def Da(k:Nat)(f:XI×XI×XB×XE):Option (XB×Unit):=
 (mkl (f.2.1.length:Int) (false:Bool)).bind fun z=>
 (sub z 0 (f.2.1.length:Int)).bind fun l=>
 (iR k k f.1 f.2.1 f.2.2.1 f.2.2.2 l 0).bind fun o=>
 some (o.1,())
def z7(k:Nat):m9:=⟨⟨49,[(84,4)],[lD 84 0 sI,lD 84 1 sI,lD 84 2 sB,lD 84 3 sE,rP 1 84,rI 4,rD 5 sB],[(.r 3,.h .ez .bool),rI 6],[]⟩,[.ex (.exit 2) [(.r 3,.h .ez .bool)]],fun q c v=>mK k q c.2.2.2.2.2.2.1 v.1 v.2.1⟩
def z6(k:Nat):m9:=⟨⟨49,[(84,4)],[lD 84 0 sI,lD 84 1 sI,lD 84 2 sB,lD 84 3 sE,rP 1 84],[(.r 3,.h .ez .bool),rI 4],[]⟩,[.ex (.exit 0) [(.r 3,.h .ez .bool)]],fun q c v=>iR k q c.1 c.2.1 c.2.2.1 c.2.2.2.1 v.1 v.2.1⟩
def yS(k:Nat):Ev bD:=⟨[KJ k],[lp 2 (z7 k) k,lp 0 (z6 k) k],[(1,84)]⟩
def HE(k q:Nat):Cd bD:=oz (yS k) f40 2 (z7 k) q []
def HD(k q:Nat):Cd bD:=oz (yS k) f40 0 (z6 k) q [HE k k]
def Mz(k:Nat):Cl bD:=zd (yS k) 40 f40 func40 call40 [(.cX sI (.cX sI (.cX sB sE)))] [sB] (fun d=>Da k d.1) [HD k k]
def qB(k:Nat)(ck:ao):Option (((XA×XS×XF×XN×XI×XI×XB×XE×XB×Bool×Unit)⊕(XA×XS×XF×XN×XI×XI×XB×XE×XB×Bool×Unit))):=
 (gG k ck).bind fun r1=>
 bif r1.2.1.1 != 0 then
  some (.inr ([],[],[],[],[],[],[],[],[],false,()))
 else
  (ik k ck).bind fun r2=>
  (FK k r1.1 r2.1).bind fun r3=>
  (Da k r3.1).bind fun r4=>
  some (.inl (r1.1.1,r1.1.2.1,r1.1.2.2,r2.1,r3.1.1,r3.1.2.1,r3.1.2.2.1,r3.1.2.2.2,r4.1,true,()))
def KD(k:Nat):Cl bD:=mY ⟨[HP k,zD k,OG k,Mz k],[],[(4,35),(5,37),(18,86)]⟩ 21 f21 func21 call21 [500000,500001] ⟨⟨40,[],[],[rD 0 .str],[]⟩,[.ret [rP 500000 10030,lD 10030 0 sA,lD 10030 1 sS,lD 10030 2 sF,lD 10030 3 sN,lD 10030 4 sI,lD 10030 5 sI,lD 10030 6 sB,lD 10030 7 sE,lD 10030 8 sB,rD 500001 .bool] [(10030,9,86)],.ret [rP 500000 86,lD 86 0 sA,lD 86 1 sS,lD 86 2 sF,lD 86 3 sN,lD 86 4 sI,lD 86 5 sI,lD 86 6 sB,lD 86 7 sE,lD 86 8 sB,rD 500001 .bool] [(86,9,86)]],fun c v=>qB k v.1⟩ []
def gA(q:Nat):Nat→XA→XI→Int→Option (XI×Unit)
 |0,_,_,_=>none
 |k + 1,gn,out,i1=>
  bif decide (i1 < (gn.length:Int)) then
   (bK gn i1).bind fun x1=>
   (bK gn i1).bind fun x2=>
   (lM out ([(dP (x1.2 - 1)),x2.2])).bind fun l=>
   gA q k gn l (dP (i1 + 1))
  else
   some (out,())
def fF(q:Nat):Nat→XN→XI→Int→Option (XI×Unit)
 |0,_,_,_=>none
 |k + 1,pM,out,i1=>
  bif decide (i1 < (pM.length:Int)) then
   aa (fun(uh:XI)=>
    fF q k pM uh (dP (i1 + 1))) fun cL=>
   (bK pM i1).bind fun x1=>
   (bK pM i1).bind fun x2=>
   bif x2.1 == 24 then
    (lM out ([(dP (x1.2.2.1 - 1)),x1.2.2.1,(dP (x1.2.2.1 + 1)),(dP ((dP (0 - x1.2.2.1)) - 1)),(dP (0 - x1.2.2.1)),(dP (1 - x1.2.2.1))])).bind fun l=>
    cL l
   else
    cL out
  else
   some (out,())
def np(k:Nat)(aH:XA)(jU:XN):Option (XI×Unit):=
 (gA k k aH [] 0).bind fun o=>
 (fF k k jU o.1 0).bind fun o2=>
 some (o2.1,())
def uP(k:Nat):m9:=⟨⟨82,[(86,9)],[lD 86 0 sA,lD 86 1 sS,lD 86 2 sF,lD 86 3 sN,lD 86 4 sI,lD 86 5 sI,lD 86 6 sB,lD 86 7 sE,lD 86 8 sB,rP 0 86],[(.r 3,.h .ez I),rI 4],[]⟩,[.ex (.exit 0) [(.r 3,.h .ez I)]],fun q c v=>gA k q c.1 v.1 v.2.1⟩
def uQ(k:Nat):m9:=⟨⟨82,[(86,9)],[lD 86 0 sA,lD 86 1 sS,lD 86 2 sF,lD 86 3 sN,lD 86 4 sI,lD 86 5 sI,lD 86 6 sB,lD 86 7 sE,lD 86 8 sB,rP 0 86],[(.r 3,.h .ez I),rI 5],[]⟩,[.ex (.exit 2) [(.r 3,.h .ez I)]],fun q c v=>fF k q c.2.2.2.1 v.1 v.2.1⟩
def sH(k:Nat):Ev bD:=⟨[],[lp 0 (uP k) k,lp 2 (uQ k) k],[]⟩
def B5(k q:Nat):Cd bD:=oz (sH k) f22 0 (uP k) q []
def B6(k q:Nat):Cd bD:=oz (sH k) f22 2 (uQ k) q []
def Gk(k:Nat):Cl bD:=mY (sH k) 22 f22 func22 call22 [500000] ⟨⟨82,[(86,9)],[lD 86 0 sA,lD 86 1 sS,lD 86 2 sF,lD 86 3 sN,lD 86 4 sI,lD 86 5 sI,lD 86 6 sB,lD 86 7 sE,lD 86 8 sB],[rP 0 86],[]⟩,[.ret [(.r 500000,.h .ez I)] []],fun c v=>np k c.1 c.2.2.2.1⟩ [B5 k k,B6 k k]
end
end Go.Fx.R5
namespace Go.Fx.R5
open Go Go.Fx Go.Proofs Go.Proofs.Tryz
noncomputable section
def mn(k:Nat)(ck:ao):Option (XI×Unit):=
 aa (fun(jv:Bool×XA×XS×XF×XN×XI×XI×XB×XE×XB)=>
  bif !(jv.1) then
   some ([],())
  else
   (np k (jv.2.1) (jv.2.2.2.2.1)).bind fun r3=>
   some (r3.1,())) fun cL=>
 (qB k ck).bind fun r=>match r with
 |.inl r1=>
  cL (r1.2.2.2.2.2.2.2.2.2.1,r1.1,r1.2.1,r1.2.2.1,r1.2.2.2.1,r1.2.2.2.2.1,r1.2.2.2.2.2.1,r1.2.2.2.2.2.2.1,r1.2.2.2.2.2.2.2.1,r1.2.2.2.2.2.2.2.2.1)
 |.inr r2=>
  cL (r2.2.2.2.2.2.2.2.2.2.1,r2.1,r2.2.1,r2.2.2.1,r2.2.2.2.1,r2.2.2.2.2.1,r2.2.2.2.2.2.1,r2.2.2.2.2.2.2.1,r2.2.2.2.2.2.2.2.1,r2.2.2.2.2.2.2.2.2.1)
def E7(k:Nat):Cl bD:=zd ⟨[KD k,Gk k],[],[]⟩ 7 f7 func7 call7 [.str] [sI] (fun d=>mn k d.1) []
def eH(aH:XA)(ax:XS)(bj:XF)(aA:XN)(n:Int)(lO:XA):Option (Int×XA×XS×XF×XA×Unit):=
 (bK aA n).bind fun x1=>
 bif decide ((p7 lO x1.2.2.2.1) > 0) then
  some (9,aH,ax,bj,lO,())
 else
  aa (fun(jv:XA×XS×XF)=>
   some (0,(jv.1),(jv.2.1),(jv.2.2),qu lO x1.2.2.2.1 1,())) fun yx=>
  bif x1.1 == 2 then
   aa (fun(v:Bool)=>
    aa (fun(v2:Bool)=>
     bif v2 then
      some (8,aH,ax,bj,qu lO x1.2.2.2.1 1,())
     else
      (lM aH ([(x1.2.2.2.1,x1.2.2.1)])).bind fun l=>
      yx (l,ax,bj)) fun jX=>
    bif v then
     jX true
    else
     jX (decide (x1.2.2.1 > 64))) fun cL=>
   bif (aH.length:Int) == 4 then
    cL true
   else
    cL (decide (x1.2.2.1 < 1))
  else
   bif x1.1 == 3 then
    bif (ax.length:Int) == 4 then
     some (8,aH,ax,bj,qu lO x1.2.2.2.1 1,())
    else
     (lM ax ([x1.2.2.2.1])).bind fun l2=>
     yx (aH,l2,bj)
   else
    bif x1.1 == 4 then
     bif (bj.length:Int) == 6 then
      some (8,aH,ax,bj,qu lO x1.2.2.2.1 1,())
     else
      (bK x1.2.2.2.2 (dP ((x1.2.2.2.2.length:Int) - 1))).bind fun x2=>
      (lM bj ([(x1.2.2.2.1,0,[],[],x2)])).bind fun l3=>
      yx (aH,ax,l3)
    else
     yx (aH,ax,bj)
def E5:Cl bD:=mY ⟨[],[],[(9,47),(99,9999)]⟩ 72 f72 func72 call72 [500000] ⟨⟨103,[(35,3)],[],[rD 0 sN,rI 1,rP 2 35,(.r 3,.h .mp tA),lF 35 0 tA,lF 35 1 .str,lU 35 2 tF],[1000003]⟩,[.ret [rI 500000,lF 35 0 tA,lF 35 1 .str,lU 35 2 tF,(.r 3,.h .mp tA)] []],fun c v=>eH v.2.2.2.2.1 v.2.2.2.2.2.1 v.2.2.2.2.2.2.1 v.1 v.2.1 v.2.2.2.1⟩ []
def bR(q:Nat):Nat→XA→XN→XI→Int→Int→Int→Int→XS→XS→XA→Int→Option (((Int×Int×Int×XS×XS×Unit)⊕(Int×Int×Int×XS×XS×Unit)))
 |0,_,_,_,_,_,_,_,_,_,_,_=>none
 |k + 1,Dh,bV,adb,adc,w,w2,rJ,zr,Bf,oW,VD=>
  bif decide (VD < adc) then
   (bK adb VD).bind fun x1=>
   (bK bV x1).bind fun x2=>
   aa (fun(v:Bool)=>
    bif v then
     some (.inr (9,x2.2.1,rJ,zr,Bf,()))
    else
     aa (fun(jv:Bool×Int×XS×XS)=>
      bif (jv.1) then
       some (.inr (8,x2.2.1,(jv.2.1),(jv.2.2.1),(jv.2.2.2),()))
      else
       bR q k Dh bV adb adc w w2 (jv.2.1) (jv.2.2.1) (jv.2.2.2) (qu oW x2.2.2.2.1 1) (dP (VD + 1))) fun yx=>
     bif x2.1 == 7 then
      (lM Bf ([x2.2.2.2.1])).bind fun l2=>
      yx ((Bf.length:Int) == 3,rJ,zr,l2)
     else
      bif x2.1 == 5 then
       aa (fun(v2:Bool)=>
        (lM zr ([x2.2.2.2.1])).bind fun l3=>
        yx (v2,(dP (rJ + 1)),l3,Bf)) fun jX=>
       bif (zr.length:Int) == 8 then
        jX true
       else
        jX (rJ == 3)
      else
       (lM zr ([x2.2.2.2.1])).bind fun l4=>
       yx ((zr.length:Int) == 8,rJ,l4,Bf)) fun cL=>
   bif decide ((p7 Dh x2.2.2.2.1) > 0) then
    cL true
   else
    cL (decide ((p7 oW x2.2.2.2.1) > 0))
  else
   some (.inl (w,w2,rJ,zr,Bf,()))
def rL(k:Nat)(va:Int)(Je Jf:XS)(aA:XN)(nA:Int×Int×Int×ao×XI)(lO:XA):Option ((Int×Int)×Int×XS×XS×XA×Unit):=
 (sub nA.2.2.2.2 0 (dP ((nA.2.2.2.2.length:Int) - 1))).bind fun l=>
 (bR k k lO aA l (l.length:Int) 0 0 va Je Jf ([]:XA) 0).bind fun r=>match r with
 |.inl o=>
  some ((0,0),o.2.2.1,o.2.2.2.1,o.2.2.2.2.1,lO,())
 |.inr o2=>
  some ((o2.1,o2.2.1),o2.2.2.1,o2.2.2.2.1,o2.2.2.2.2.1,lO,())
def uM(k:Nat):m9:=⟨⟨126,[(37,2),(47,5),(67,5)],[(.r 3,.h .mp tA),lI 47 0,lI 47 1,lI 47 2,lD 47 3 .str,lD 47 4 sI,lD 67 0 .str,lI 67 4,rD 0 sN,rP 2 67,rP 8 37,rD 21 sI,rI 22],[lI 37 0,lI 37 1,lI 67 1,lF 67 2 .str,lF 67 3 .str,(.r 9,.h .mp tA),rI 23],[1000003]⟩,[.ex (.exit 0) [lI 37 0,lI 37 1,lI 67 1,lF 67 2 .str,lF 67 3 .str],.ex .ret [lI 37 0,lI 37 1,lI 67 1,lF 67 2 .str,lF 67 3 .str]],fun q c v=>bR k q c.1 c.2.2.2.2.2.2.2.2.1 c.2.2.2.2.2.2.2.2.2.2.2.1 c.2.2.2.2.2.2.2.2.2.2.2.2.1 v.1 v.2.1 v.2.2.1 v.2.2.2.1 v.2.2.2.2.1 v.2.2.2.2.2.1 v.2.2.2.2.2.2.1⟩
def yj(k:Nat):Ev bD:=⟨[],[lp 0 (uM k) k],[(5,47),(8,37)]⟩
def B0(k q:Nat):Cd bD:=oz (yj k) f73 0 (uM k) q []
def Gj(k:Nat):Cl bD:=mY (yj k) 73 f73 func73 call73 [500000] ⟨⟨126,[(67,5)],[lD 67 0 .str,lI 67 4],[rD 0 sN,rD 1 tN,rP 2 67,(.r 3,.h .mp tA),lI 67 1,lF 67 2 .str,lF 67 3 .str],[1000003]⟩,[.ret [rD 500000 tP,lI 67 1,lF 67 2 .str,lF 67 3 .str,(.r 3,.h .mp tA)] []],fun c v=>rL k v.2.2.2.2.1 v.2.2.2.2.2.1 v.2.2.2.2.2.2.1 v.1 v.2.1 v.2.2.2.1⟩ [B0 k k]
def kp(q:Nat):Nat→XF→Int→Int→Option (((Unit)⊕(Int×Unit)))
 |0,_,_,_=>none
 |k + 1,t61,t71,t81=>
  bif decide (t81 < t71) then
   (bK t61 t81).bind fun x1=>
   bif x1.1 == ([109,97,105,110]:ao) then
    some (.inr (t81,()))
   else
    kp q k t61 t71 (dP (t81 + 1))
  else
   some (.inl ())
def ut(k:Nat)(t:XA×XS×XF):Option (Int×Unit):=
 (kp k k t.2.2 (t.2.2.length:Int) 0).bind fun r=>match r with
 |.inl o=>
  some ((-1),())
 |.inr o2=>
  some (o2.1,())
def xq(k:Nat):m9:=⟨⟨18,[(35,3)],[lD 35 0 sA,lD 35 1 sS,lD 35 2 sF,rD 6 sF,rI 7],[rI 8],[]⟩,[.ex (.exit 0) [],.ex .ret [rI 2]],fun q c v=>kp k q c.2.2.2.1 c.2.2.2.2.1 v.1⟩
def A6(k:Nat):Ev bD:=⟨[],[lp 0 (xq k) k],[(1,35)]⟩
def EK(k q:Nat):Cd bD:=oz (A6 k) f74 0 (xq k) q []
def Jk(k:Nat):Cl bD:=zd (A6 k) 74 f74 func74 call74 [tM] [I] (fun d=>ut k d.1) [EK k k]
def jM(q:Nat):Nat→ao→XS→Int→Int→Option (((Unit)⊕(Int×Unit)))
 |0,_,_,_,_=>none
 |k + 1,tX,t71,t81,t91=>
  bif decide (t91 < t81) then
   (bK t71 t91).bind fun x1=>
   bif x1 == tX then
    some (.inr (t91,()))
   else
    jM q k tX t71 t81 (dP (t91 + 1))
  else
   some (.inl ())
def mB(k:Nat)(aah:XS)(name:ao):Option (Int×Unit):=
 (jM k k name aah (aah.length:Int) 0).bind fun r=>match r with
 |.inl o=>
  some ((-1),())
 |.inr o2=>
  some (o2.1,())
def vI(k:Nat):m9:=⟨⟨19,[],[rD 1 .str,rD 7 sS,rI 8],[rI 9],[]⟩,[.ex (.exit 0) [],.ex .ret [rI 4]],fun q c v=>jM k q c.1 c.2.1 c.2.2.1 v.1⟩
def zk(k:Nat):Ev bD:=⟨[],[lp 0 (vI k) k],[]⟩
def DI(k q:Nat):Cd bD:=oz (zk k) f114 0 (vI k) q []
def HN(k:Nat):Cl bD:=zd (zk k) 114 f114 func114 call114 [sS,.str] [I] (fun d=>mB k d.1 d.2.1) [DI k k]
def kl(q:Nat):Nat→ao→ao→XF→Int→Int→Option (((Unit)⊕(Int×Int×Unit)))
 |0,_,_,_,_,_=>none
 |k + 1,Fb,tX,ac9,ada,abG=>
  bif decide (abG < ada) then
   (bK ac9 abG).bind fun x1=>
   bif !(x1.1 == Fb) then
    kl q k Fb tX ac9 ada (dP (abG + 1))
   else
    (mB q x1.2.2.1 tX).bind fun r1=>
    bif decide (r1.1≥0) then
     some (.inr (3,r1.1,()))
    else
     (mB q x1.2.2.2.1 tX).bind fun r2=>
     bif decide (r2.1≥0) then
      some (.inr (4,r2.1,()))
     else
      some (.inl ())
  else
   some (.inl ())
def jp(q:Nat):Nat→ao→XA→Int→Int→Option (((Unit)⊕(Int×Int×Unit)))
 |0,_,_,_,_=>none
 |k + 1,tX,Yj,Yk,L7=>
  bif decide (L7 < Yk) then
   (bK Yj L7).bind fun x1=>
   bif x1.1 == tX then
    some (.inr (1,L7,()))
   else
    jp q k tX Yj Yk (dP (L7 + 1))
  else
   some (.inl ())
def jq(q:Nat):Nat→ao→XF→Int→Int→Option (((Unit)⊕(Int×Int×Unit)))
 |0,_,_,_,_=>none
 |k + 1,tX,adj,adk,Zx=>
  bif decide (Zx < adk) then
   (bK adj Zx).bind fun x1=>
   bif x1.1 == tX then
    some (.inr (5,Zx,()))
   else
    jq q k tX adj adk (dP (Zx + 1))
  else
   some (.inl ())
def fC(k:Nat)(t:XA×XS×XF)(fn name:ao):Option (Int×Int×Unit):=
 (kl k k fn name t.2.2 (t.2.2.length:Int) 0).bind fun r=>match r with
 |.inl o=>
  (jp k k name t.1 (t.1.length:Int) 0).bind fun r=>match r with
  |.inl o3=>
   (mB k t.2.1 name).bind fun r1=>
   bif decide (r1.1≥0) then
    some (2,r1.1,())
   else
    (jq k k name t.2.2 (t.2.2.length:Int) 0).bind fun r=>match r with
    |.inl o5=>
     some (0,0,())
    |.inr o6=>
     some (o6.1,o6.2.1,())
  |.inr o4=>
   some (o4.1,o4.2.1,())
 |.inr o2=>
  some (o2.1,o2.2.1,())
def xe(k:Nat):m9:=⟨⟨78,[(35,3)],[lD 35 0 sA,lD 35 1 sS,lD 35 2 sF,rD 1 .str,rD 2 .str,rP 3 35,rD 18 sF,rI 19],[rI 20],[]⟩,[.ex (.exit 0) [],.ex .ret [rI 6,rI 7]],fun q c v=>kl k q c.2.2.2.1 c.2.2.2.2.1 c.2.2.2.2.2.2.1 c.2.2.2.2.2.2.2.1 v.1⟩
def xf(k:Nat):m9:=⟨⟨78,[(35,3)],[lD 35 0 sA,lD 35 1 sS,lD 35 2 sF,rD 2 .str,rP 3 35,rD 44 sA,rI 45],[rI 46],[]⟩,[.ex (.exit 2) [],.ex .ret [rI 6,rI 7]],fun q c v=>jp k q c.2.2.2.1 c.2.2.2.2.2.1 c.2.2.2.2.2.2.1 v.1⟩
def xg(k:Nat):m9:=⟨⟨78,[(35,3)],[lD 35 0 sA,lD 35 1 sS,lD 35 2 sF,rD 2 .str,rD 65 sF,rI 66],[rI 67],[]⟩,[.ex (.exit 4) [],.ex .ret [rI 6,rI 7]],fun q c v=>jq k q c.2.2.2.1 c.2.2.2.2.1 c.2.2.2.2.2.1 v.1⟩
def rG(k:Nat):Ev bD:=⟨[HN k],[lp 0 (xe k) k,lp 2 (xf k) k,lp 4 (xg k) k],[(3,35)]⟩
def EA(k q:Nat):Cd bD:=oz (rG k) f76 0 (xe k) q []
def EB(k q:Nat):Cd bD:=oz (rG k) f76 2 (xf k) q []
def EC(k q:Nat):Cd bD:=oz (rG k) f76 4 (xg k) q []
def vf(k:Nat):Cl bD:=zd (rG k) 76 f76 func76 call76 [tM,.str,.str] [I,I] (fun d=>fC k d.1 d.2.1 d.2.2.1) [EA k k,EB k k,EC k k]
def gz(k:Nat)(aH:XA)(ax:XS)(bj:XF)(qT name:ao):Option (Int×Unit):=
 (fC k (aH,ax,bj) qT name).bind fun r1=>
 some (r1.1,())
def uI(k:Nat):Cl bD:=mY ⟨[vf k],[],[]⟩ 134 f134 func134 call134 [500000] ⟨⟨22,[(137,10)],[lD 137 0 sN,lD 137 1 sA,lD 137 2 sS,lD 137 3 sF,lD 137 4 .str,lI 137 5,lD 137 6 sS,lD 137 7 sS,lI 137 8,lH .mp 137 9 tA],[rP 0 137,rD 1 .str],[]⟩,[.ret [rI 500000] []],fun c v=>gz k c.2.1 c.2.2.1 c.2.2.2.1 c.2.2.2.2.1 v.2.1⟩ []
def dZ(q:Nat):Nat→Int→XI→Int→Int→Option (((Unit)⊕(Int×Unit)))
 |0,_,_,_,_=>none
 |k + 1,CH,JV,PS,t171=>
  bif decide (t171 < PS) then
   (bK JV t171).bind fun x1=>
   bif x1 == CH then
    some (.inr (0,()))
   else
    dZ q k CH JV PS (dP (t171 + 1))
  else
   some (.inl ())
def dG(k:Nat)(aH:XA)(ax:XS)(bj:XF)(qT name:ao)(lV:XI):Option (Int×Unit):=
 (gz k aH ax bj qT name).bind fun r1=>
 bif r1.1 == 0 then
  some (10,())
 else
  (dZ k k r1.1 lV (lV.length:Int) 0).bind fun r=>match r with
  |.inl o=>
   some (11,())
  |.inr o2=>
   some (o2.1,())
def se(k:Nat):m9:=⟨⟨25,[(137,10)],[lD 137 0 sN,lD 137 1 sA,lD 137 2 sS,lD 137 3 sF,lD 137 4 .str,lI 137 5,lD 137 6 sS,lD 137 7 sS,lI 137 8,lH .mp 137 9 tA,rI 7,rD 15 sI,rI 16],[rI 17],[]⟩,[.ex (.exit 0) [],.ex .ret [rI 6]],fun q c v=>dZ k q c.2.2.2.2.2.2.2.2.2.2.1 c.2.2.2.2.2.2.2.2.2.2.2.1 c.2.2.2.2.2.2.2.2.2.2.2.2.1 v.1⟩
def uD(k:Nat):Ev bD:=⟨[uI k],[lp 0 (se k) k],[]⟩
def zi(k q:Nat):Cd bD:=oz (uD k) f137 0 (se k) q []
def kJ(k:Nat):Cl bD:=mY (uD k) 137 f137 func137 call137 [500000] ⟨⟨25,[(137,10)],[lD 137 0 sN,lD 137 1 sA,lD 137 2 sS,lD 137 3 sF,lD 137 4 .str,lI 137 5,lD 137 6 sS,lD 137 7 sS,lI 137 8,lH .mp 137 9 tA],[rP 0 137,rD 1 .str,rD 2 sI],[]⟩,[.ret [rI 500000] []],fun c v=>dG k c.2.1 c.2.2.1 c.2.2.2.1 c.2.2.2.2.1 v.2.1 v.2.2.1⟩ [zi k k]
def jt(k:Nat)(aA:XN)(aH:XA)(ax:XS)(bj:XF)(qT:ao)(nA:Int×Int×Int×ao×XI):Option ((Int×Int)×Unit):=
 (bK nA.2.2.2.2 0).bind fun x1=>
 (bK aA x1).bind fun x2=>
 bif x2.1 == 29 then
  some ((0,0),())
 else
  bif x2.1 == 25 then
   (dG k aH ax bj qT x2.2.2.2.1 ([4])).bind fun r1=>
   bif r1.1 != 0 then
    some ((r1.1,x2.2.1),())
   else
    some ((0,0),())
  else
   some ((11,nA.2.1),())
def AC(k:Nat):Cl bD:=mY ⟨[kJ k],[],[(3,47),(4,37)]⟩ 135 f135 func135 call135 [500000] ⟨⟨39,[(137,10)],[lD 137 0 sN,lD 137 1 sA,lD 137 2 sS,lD 137 3 sF,lD 137 4 .str,lI 137 5,lD 137 6 sS,lD 137 7 sS,lI 137 8,lH .mp 137 9 tA],[rP 0 137,rD 1 tN],[]⟩,[.ret [rD 500000 tP] []],fun c v=>jt k c.1 c.2.1 c.2.2.1 c.2.2.2.1 c.2.2.2.2.1 v.2.1⟩ []
def mC(k:Nat)(aH:XA)(ax:XS)(bj:XF)(qT:ao)(qL:XA)(name:ao)(lV:XI):Option (Int×Unit):=
 (dG k aH ax bj qT name lV).bind fun r1=>
 bif r1.1 != 0 then
  some (r1.1,())
 else
  bif decide ((p7 qL name) > 0) then
   some (11,())
  else
   some (0,())
def Cm(k:Nat):Cl bD:=mY ⟨[kJ k],[],[]⟩ 159 f159 func159 call159 [500000] ⟨⟨22,[(137,10)],[lD 137 0 sN,lD 137 1 sA,lD 137 2 sS,lD 137 3 sF,lD 137 4 .str,lI 137 5,lD 137 6 sS,lD 137 7 sS,lI 137 8,lH .mp 137 9 tA],[rP 0 137,rD 1 .str,rD 2 sI],[]⟩,[.ret [rI 500000] []],fun c v=>mC k c.2.1 c.2.2.1 c.2.2.2.1 c.2.2.2.2.1 c.2.2.2.2.2.2.2.2.2.1 v.2.1 v.2.2.1⟩ []
def cG(k:Nat)(aH:XA)(ax:XS)(bj:XF)(qT:ao)(qL:XA)(nA:Int×Int×Int×ao×XI):Option (Int×Unit):=
 bif nA.1 == 25 then
  (dG k aH ax bj qT nA.2.2.2.1 ([3,2])).bind fun r1=>
  some (r1.1,())
 else
  aa (fun(v:Bool)=>
   bif v then
    (dG k aH ax bj qT nA.2.2.2.1 ([1])).bind fun r2=>
    some (r2.1,())
   else
    aa (fun(v2:Bool)=>
     bif v2 then
      (dG k aH ax bj qT nA.2.2.2.1 ([4])).bind fun r3=>
      some (r3.1,())
     else
      aa (fun(v3:Bool)=>
       bif v3 then
        (mC k aH ax bj qT qL nA.2.2.2.1 ([3,2])).bind fun r4=>
        some (r4.1,())
       else
        bif nA.1 == 16 then
         (mC k aH ax bj qT qL nA.2.2.2.1 ([3])).bind fun r5=>
         some (r5.1,())
        else
         some (0,())) fun yx=>
      bif nA.1 == 17 then
       yx (nA.1 == 17)
      else
       bif nA.1 == 22 then
        yx (nA.1 == 22)
       else
        yx (nA.1 == 9)) fun jX=>
    bif nA.1 == 27 then
     jX (nA.1 == 27)
    else
     bif nA.1 == 11 then
      jX (nA.1 == 11)
     else
      bif nA.1 == 13 then
       jX (nA.1 == 13)
      else
       bif nA.1 == 34 then
        jX (nA.1 == 34)
       else
        jX (nA.1 == 12)) fun cL=>
  bif nA.1 == 26 then
   cL (nA.1 == 26)
  else
   cL (nA.1 == 10)
def Ck(k:Nat):Cl bD:=mY ⟨[kJ k,Cm k],[],[(3,47)]⟩ 136 f136 func136 call136 [500000] ⟨⟨49,[(137,10)],[lD 137 0 sN,lD 137 1 sA,lD 137 2 sS,lD 137 3 sF,lD 137 4 .str,lI 137 5,lD 137 6 sS,lD 137 7 sS,lI 137 8,lH .mp 137 9 tA],[rP 0 137,rD 1 tN],[]⟩,[.ret [rI 500000] []],fun c v=>cG k c.2.1 c.2.2.1 c.2.2.2.1 c.2.2.2.2.1 c.2.2.2.2.2.2.2.2.2.1 v.2.1⟩ []
def kQ(k:Nat)(aA:XN)(aH:XA)(ax:XS)(bj:XF)(qT:ao)(nA:Int×Int×Int×ao×XI):Option ((Int×Int)×Unit):=
 (bK nA.2.2.2.2 0).bind fun x1=>
 (bK aA x1).bind fun x2=>
 (dG k aH ax bj qT x2.2.2.2.1 ([5])).bind fun r1=>
 bif r1.1 != 0 then
  some ((r1.1,x2.2.1),())
 else
  (fC k (aH,ax,bj) qT x2.2.2.2.1).bind fun r2=>
  (bK bj r2.2.1).bind fun x3=>
  bif (dP ((nA.2.2.2.2.length:Int) - 1)) != x3.2.1 then
   some ((12,x2.2.1),())
  else
   some ((0,0),())
def AB(k:Nat):Cl bD:=mY ⟨[vf k,kJ k],[],[(3,47),(4,37)]⟩ 138 f138 func138 call138 [500000] ⟨⟨63,[(137,10)],[lD 137 0 sN,lD 137 1 sA,lD 137 2 sS,lD 137 3 sF,lD 137 4 .str,lI 137 5,lD 137 6 sS,lD 137 7 sS,lI 137 8,lH .mp 137 9 tA],[rP 0 137,rD 1 tN],[]⟩,[.ret [rD 500000 tP] []],fun c v=>kQ k c.1 c.2.1 c.2.2.1 c.2.2.2.1 c.2.2.2.2.1 v.2.1⟩ []
end
end Go.Fx.R5
namespace Go.Fx.R5
open Go Go.Fx Go.Proofs Go.Proofs.Tryz
noncomputable section
abbrev eV:=XN→XA→XS→XF→ao→Int→XS→XS→Int→XA→Int→Option ((Int×Int)×XA×Unit)
def mL(f:eV):De:=⟨⟨30,[(137,10)],[lD 137 0 sN,lD 137 1 sA,lD 137 2 sS,lD 137 3 sF,lD 137 4 .str,lI 137 5,lD 137 6 sS,lD 137 7 sS,lI 137 8],[rP 0 137,rI 1,lH .mp 137 9 tA],[]⟩,[.ret [rD 500000 tP,lH .mp 137 9 tA] []],fun c v=>f c.1 c.2.1 c.2.2.1 c.2.2.2.1 c.2.2.2.2.1 c.2.2.2.2.2.1 c.2.2.2.2.2.2.1 c.2.2.2.2.2.2.2.1 c.2.2.2.2.2.2.2.2.1 v.2.2.1 v.2.1⟩
def tI(f:eV):iT:=mF (mL f).L (mL f).F (Ao [500000] (mL f).V)
abbrev eW:=XN→XA→XS→XF→ao→Int→XS→XS→Int→XA→Int→Option ((Int×Int)×XA×Unit)
def mM(f:eW):De:=⟨⟨100,[(137,10)],[lD 137 0 sN,lD 137 1 sA,lD 137 2 sS,lD 137 3 sF,lD 137 4 .str,lI 137 5,lD 137 6 sS,lD 137 7 sS,lI 137 8],[rP 0 137,rI 1,lH .mp 137 9 tA],[]⟩,[.ret [rD 500000 tP,lH .mp 137 9 tA] []],fun c v=>f c.1 c.2.1 c.2.2.1 c.2.2.2.1 c.2.2.2.2.1 c.2.2.2.2.2.1 c.2.2.2.2.2.2.1 c.2.2.2.2.2.2.2.1 c.2.2.2.2.2.2.2.2.1 v.2.2.1 v.2.1⟩
def tJ(f:eW):iT:=mF (mM f).L (mM f).F (Ao [500000] (mM f).V)
abbrev dL:=XN→XA→XS→XF→ao→Int→XS→XS→Int→XA→(Int×Int×Int×ao×XI)→Option ((Int×Int)×XA×Unit)
def kB(f:dL):De:=⟨⟨44,[(137,10)],[lD 137 0 sN,lD 137 1 sA,lD 137 2 sS,lD 137 3 sF,lD 137 4 .str,lI 137 5,lD 137 6 sS,lD 137 7 sS,lI 137 8],[rP 0 137,rD 1 tN,lH .mp 137 9 tA],[]⟩,[.ret [rD 500000 tP,lH .mp 137 9 tA] []],fun c v=>f c.1 c.2.1 c.2.2.1 c.2.2.2.1 c.2.2.2.2.1 c.2.2.2.2.2.1 c.2.2.2.2.2.2.1 c.2.2.2.2.2.2.2.1 c.2.2.2.2.2.2.2.2.1 v.2.2.1 v.2.1⟩
def qU(f:dL):iT:=mF (kB f).L (kB f).F (Ao [500000] (kB f).V)
def aR(aD:eV)(ay:eW)(aq:dL)(q:Nat):Nat→XN→XA→XS→XF→ao→Int→XS→XS→Int→XI→Int→Int→Int→XA→Int→Option (((Int×Int×XA×Unit)⊕(Int×Int×XA×Unit)))
 |0,_,_,_,_,_,_,_,_,_,_,_,_,_,_,_=>none
 |k + 1,bV,gn,gg,jy,Qg,rJ,zr,Bf,Qb,JV,PS,w,w2,Bq,t171=>
  bif decide (t171 < PS) then
   (bK JV t171).bind fun x2=>
   (ay bV gn gg jy Qg rJ zr Bf Qb Bq x2).bind fun r1=>
   bif r1.1.1 != 0 then
    some (.inr (r1.1.1,r1.1.2,r1.2.1,()))
   else
    aR aD ay aq q k bV gn gg jy Qg rJ zr Bf Qb JV PS w w2 r1.2.1 (dP (t171 + 1))
  else
   some (.inl (w,w2,Bq,()))
def kc(aD:eV)(ay:eW)(aq:dL)(k:Nat)(aA:XN)(aH:XA)(ax:XS)(bj:XF)(qT:ao)(va:Int)(Je Jf:XS)(Mo:Int)(qL:XA)(n:Int):Option ((Int×Int)×XA×Unit):=
 (bK aA n).bind fun x1=>
 (aR aD ay aq k k aA aH ax bj qT va Je Jf Mo x1.2.2.2.2 (x1.2.2.2.2.length:Int) 0 0 qL 0).bind fun r=>match r with
 |.inl o=>
  some ((0,0),o.2.2.1,())
 |.inr o2=>
  some ((o2.1,o2.2.1),o2.2.2.1,())
def aZ(aD:eV)(ay:eW)(aq:dL)(k:Nat)(aA:XN)(aH:XA)(ax:XS)(bj:XF)(qT:ao)(va:Int)(Je Jf:XS)(Mo:Int)(qL:XA)(n:Int):Option ((Int×Int)×XA×Unit):=
 (bK aA n).bind fun x1=>
 aa (fun(v:Bool)=>
  bif v then
   (jt k aA aH ax bj qT x1).bind fun r2=>
   some (r2.1,qL,())
  else
   (cG k aH ax bj qT qL x1).bind fun r3=>
   bif r3.1 != 0 then
    some ((r3.1,x1.2.1),qL,())
   else
    aa (fun(_:Unit)=>
     (aD aA aH ax bj qT va Je Jf Mo qL n).bind fun r7=>
     some (r7.1,r7.2.1,())) fun jX=>
    bif x1.1 == 9 then
     (bK x1.2.2.2.2 0).bind fun x2=>
     (bK aA x2).bind fun x3=>
     bif x3.1 == 29 then
      some ((11,x3.2.1),qL,())
     else
      jX ()
    else
     bif x1.1 == 12 then
      (bK x1.2.2.2.2 0).bind fun x4=>
      (bK aA x4).bind fun x5=>
      (dG k aH ax bj qT x5.2.2.2.1 ([1])).bind fun r4=>
      bif r4.1 != 0 then
       some ((r4.1,x5.2.1),qL,())
      else
       jX ()
     else
      bif x1.1 == 22 then
       (kQ k aA aH ax bj qT x1).bind fun r5=>
       bif r5.1.1 != 0 then
        some (r5.1,qL,())
       else
        jX ()
      else
       bif x1.1 == 16 then
        (aq aA aH ax bj qT va Je Jf Mo qL x1).bind fun r6=>
        some (r6.1,r6.2.1,())
       else
        jX ()) fun cL=>
 bif x1.1 == 9 then
  (gz k aH ax bj qT x1.2.2.2.1).bind fun r1=>
  cL (r1.1 == 4)
 else
  cL false
def cC(aD:eV)(ay:eW)(aq:dL)(q:Nat):Nat→XN→XA→XS→XF→ao→Int→XS→XS→Int→XI→Int→Int→Int→XA→Int→Option (((Int×Int×XA×Unit)⊕(Int×Int×XA×Unit)))
 |0,_,_,_,_,_,_,_,_,_,_,_,_,_,_,_=>none
 |k + 1,bV,gn,gg,jy,ZJ,rJ,zr,Bf,Qb,ac7,t121,w,w2,Bq,VC=>
  bif decide (VC < t121) then
   (bK ac7 VC).bind fun x1=>
   (ay bV gn gg jy ZJ rJ zr Bf Qb Bq x1).bind fun r1=>
   bif r1.1.1 != 0 then
    some (.inr (r1.1.1,r1.1.2,r1.2.1,()))
   else
    cC aD ay aq q k bV gn gg jy ZJ rJ zr Bf Qb ac7 t121 w w2 r1.2.1 (dP (VC + 1))
  else
   some (.inl (w,w2,Bq,()))
def gJ(aD:eV)(ay:eW)(aq:dL)(k:Nat)(aA:XN)(aH:XA)(ax:XS)(bj:XF)(qT:ao)(va:Int)(Je Jf:XS)(Mo:Int)(qL:XA)(nA:Int×Int×Int×ao×XI):Option ((Int×Int)×XA×Unit):=
 (sub nA.2.2.2.2 0 2).bind fun l=>
 (cC aD ay aq k k aA aH ax bj qT va Je Jf Mo l (l.length:Int) 0 0 qL 0).bind fun r=>match r with
 |.inl o=>
  (bK nA.2.2.2.2 2).bind fun x1=>
  (ay aA aH ax bj qT va Je Jf Mo (qu o.2.2.1 nA.2.2.2.1 1) x1).bind fun r1=>
  some (r1.1,qu r1.2.1 nA.2.2.2.1 0,())
 |.inr o2=>
  some ((o2.1,o2.2.1),o2.2.2.1,())
def cD:Nat→eV×eW×dL
 |0=>(fun _ _ _ _ _ _ _ _ _ _ _=>none,fun _ _ _ _ _ _ _ _ _ _ _=>none,fun _ _ _ _ _ _ _ _ _ _ _=>none)
 |k + 1=>(kc (cD k).1 (cD k).2.1 (cD k).2.2 k,aZ (cD k).1 (cD k).2.1 (cD k).2.2 k,gJ (cD k).1 (cD k).2.1 (cD k).2.2 k)
def bF(k:Nat):eV:=(cD k).1
def ci(k:Nat):eW:=(cD k).2.1
def bS(k:Nat):dL:=(cD k).2.2
section
variable (aD:Gd bD 75 tI) (ay:Gd bD 113 tJ) (aq:Gd bD 139 qU)
def qY(k:Nat):m9:=⟨⟨30,[(37,2),(137,10)],[lD 137 0 sN,lD 137 1 sA,lD 137 2 sS,lD 137 3 sF,lD 137 4 .str,lI 137 5,lD 137 6 sS,lD 137 7 sS,lI 137 8,rP 0 137,rP 4 37,rD 15 sI,rI 16],[lI 37 0,lI 37 1,lH .mp 137 9 tA,rI 17],[]⟩,[.ex (.exit 0) [lI 37 0,lI 37 1,lH .mp 137 9 tA],.ex .ret [lI 37 0,lI 37 1,lH .mp 137 9 tA]],fun q c v=>aR aD.1 ay.1 aq.1 k q c.1 c.2.1 c.2.2.1 c.2.2.2.1 c.2.2.2.2.1 c.2.2.2.2.2.1 c.2.2.2.2.2.2.1 c.2.2.2.2.2.2.2.1 c.2.2.2.2.2.2.2.2.1 c.2.2.2.2.2.2.2.2.2.2.2.1 c.2.2.2.2.2.2.2.2.2.2.2.2.1 v.1 v.2.1 v.2.2.1 v.2.2.2.1⟩
def tD(k:Nat):Ev bD:=⟨[ay.cl],[lp 0 (qY aD ay aq k) k],[(4,37)]⟩
def yO(k q:Nat):Cd bD:=oz (tD aD ay aq k) f75 0 (qY aD ay aq k) q []
def BU(k:Nat):Cl bD:=mY (tD aD ay aq k) 75 f75 func75 call75 [500000] (mL (kc aD.1 ay.1 aq.1 k)) [yO aD ay aq k k]
def BV(k:Nat):Cl bD:=mY ⟨[aD.cl,uI k,AC k,Ck k,kJ k,AB k,aq.cl],[],[(4,37),(5,47)]⟩ 113 f113 func113 call113 [500000] (mM (aZ aD.1 ay.1 aq.1 k)) []
def pI(k:Nat):m9:=⟨⟨44,[(37,2),(47,5),(137,10)],[lI 47 0,lI 47 1,lI 47 2,lD 47 3 .str,lD 47 4 sI,lD 137 0 sN,lD 137 1 sA,lD 137 2 sS,lD 137 3 sF,lD 137 4 .str,lI 137 5,lD 137 6 sS,lD 137 7 sS,lI 137 8,rP 0 137,rP 3 47,rP 4 37,rD 11 sI,rI 12],[lI 37 0,lI 37 1,lH .mp 137 9 tA,rI 13],[]⟩,[.ex (.exit 0) [lI 37 0,lI 37 1,lH .mp 137 9 tA],.ex .ret [lI 37 0,lI 37 1,lH .mp 137 9 tA]],fun q c v=>cC aD.1 ay.1 aq.1 k q c.2.2.2.2.2.1 c.2.2.2.2.2.2.1 c.2.2.2.2.2.2.2.1 c.2.2.2.2.2.2.2.2.1 c.2.2.2.2.2.2.2.2.2.1 c.2.2.2.2.2.2.2.2.2.2.1 c.2.2.2.2.2.2.2.2.2.2.2.1 c.2.2.2.2.2.2.2.2.2.2.2.2.1 c.2.2.2.2.2.2.2.2.2.2.2.2.2.1 c.2.2.2.2.2.2.2.2.2.2.2.2.2.2.2.2.2.1 c.2.2.2.2.2.2.2.2.2.2.2.2.2.2.2.2.2.2.1 v.1 v.2.1 v.2.2.1 v.2.2.2.1⟩
def qR(k:Nat):Ev bD:=⟨[ay.cl],[lp 0 (pI aD ay aq k) k],[(3,47),(4,37)]⟩
def vT(k q:Nat):Cd bD:=oz (qR aD ay aq k) f139 0 (pI aD ay aq k) q []
def yX(k:Nat):Cl bD:=mY (qR aD ay aq k) 139 f139 func139 call139 [500000] (kB (gJ aD.1 ay.1 aq.1 k)) [vT aD ay aq k k]
end
theorem jK:∀ k,lZ prog gt 75 (tI (bF k))∧lZ prog gt 113 (tJ (ci k))∧lZ prog gt 139 (qU (bS k))
 |0=>⟨dg (fun _ _=>rfl),dg (fun _ _=>rfl),dg (fun _ _=>rfl)⟩
 |k + 1=>have ih:=jK k;⟨(BU ⟨_,ih.1⟩ ⟨_,ih.2.1⟩ ⟨_,ih.2.2⟩ k).ok,(BV ⟨_,ih.1⟩ ⟨_,ih.2.1⟩ ⟨_,ih.2.2⟩ k).ok,(yX ⟨_,ih.1⟩ ⟨_,ih.2.1⟩ ⟨_,ih.2.2⟩ k).ok⟩
def BQ(k:Nat):Cl bD:=⟨_,_,(jK k).1⟩
def P4(k:Nat):Cl bD:=⟨_,_,(jK k).2.1⟩
def Mu(k:Nat):Cl bD:=⟨_,_,(jK k).2.2⟩
def dF(q:Nat):Nat→XN→XI→Int→XA→XS→XF→Int→Int→XA→Int→Option (((XA×XS×XF×Int×Int×XA×Unit)⊕(Int×Int×Unit)))
 |0,_,_,_,_,_,_,_,_,_,_=>none
 |k + 1,bV,adf,adg,aH,ax,bj,w,w2,lO,abI=>
  bif decide (abI < adg) then
   (bK adf abI).bind fun x2=>
   (eH aH ax bj bV x2 lO).bind fun r1=>
   bif r1.1 != 0 then
    (bK bV x2).bind fun x3=>
    some (.inr (r1.1,x3.2.1,()))
   else
    dF q k bV adf adg r1.2.1 r1.2.2.1 r1.2.2.2.1 w w2 r1.2.2.2.2.1 (dP (abI + 1))
  else
   some (.inl (aH,ax,bj,w,w2,lO,()))
def pH(q:Nat)(CS:XN)(S8 Ii:Int)(jy:XF)(Dh:XA):Option (XF×XA×Int×Int×Unit):=
 (bK CS Ii).bind fun x4=>
 (bK jy S8).bind fun x5=>
 (bK jy (S8.toNat:Int)).bind fun e=>
 (rL q e.2.1 e.2.2.1 e.2.2.2.1 CS x4 Dh).bind fun r1=>
 some (List.set jy S8.toNat (e.1,r1.2.1,r1.2.2.1,r1.2.2.2.1,e.2.2.2.2),r1.2.2.2.2.1,r1.1.1,r1.1.2,())
def dj(q:Nat):Nat→XN→XI→Int→XF→Int→Int→XA→Int→Int→Option (((XF×Int×Int×Unit)⊕(Int×Int×Unit)))
 |0,_,_,_,_,_,_,_,_,_=>none
 |k + 1,bV,Yl,R9,bj,w,w2,lO,mg,L8=>
  bif decide (L8 < R9) then
   aa (fun(jv:XA×Int×XF)=>
    dj q k bV Yl R9 (jv.2.2) w w2 (jv.1) (jv.2.1) (dP (L8 + 1))) fun cL=>
   (bK Yl L8).bind fun x2=>
   (bK bV x2).bind fun x3=>
   bif x3.1 != 4 then
    cL (lO,mg,bj)
   else
    (pH q bV mg x2 bj lO).bind fun o3=>
    bif o3.2.2.1 != 0 then
     some (.inr (o3.2.2.1,o3.2.2.2.1,()))
    else
     cL (o3.2.1,(dP (mg + 1)),o3.1)
  else
   some (.inl (bj,w,w2,()))
def fk(q:Nat):Nat→XF→XN→XF→Int→XA→XS→Int→Int→Int→Option (((XA×XS×Int×Int×Unit)⊕(Int×Int×Unit)))
 |0,_,_,_,_,_,_,_,_,_=>none
 |k + 1,bj,bV,ado,adp,aH,ax,w,w2,abN=>
  bif decide (abN < adp) then
   (bK ado abN).bind fun x4=>
   (bF q bV aH ax bj x4.1 x4.2.1 x4.2.2.1 x4.2.2.2.1 x4.2.2.2.2 ([]:XA) x4.2.2.2.2).bind fun r2=>
   bif r2.1.1 != 0 then
    some (.inr (r2.1.1,r2.1.2,()))
   else
    fk q k bj bV ado adp aH ax w w2 (dP (abN + 1))
  else
   some (.inl (aH,ax,w,w2,()))
def iM(k:Nat)(aA:XN):Option ((XA×XS×XF)×(Int×Int)×Unit):=
 (bK aA (dP ((aA.length:Int) - 1))).bind fun x1=>
 (dF k k aA x1.2.2.2.2 (x1.2.2.2.2.length:Int) [] [] [] 0 0 ([]:XA) 0).bind fun r=>match r with
 |.inl o=>
  (dj k k aA x1.2.2.2.2 (x1.2.2.2.2.length:Int) o.2.2.1 o.2.2.2.1 o.2.2.2.2.1 o.2.2.2.2.2.1 0 0).bind fun r=>match r with
  |.inl o3=>
   (ut k (o.1,o.2.1,o3.1)).bind fun r1=>
   aa (fun(v:Bool)=>
    bif v then
     some (([],[],[]),(13,0),())
    else
     (fk k k o3.1 aA o3.1 (o3.1.length:Int) o.1 o.2.1 o3.2.1 o3.2.2.1 0).bind fun r=>match r with
     |.inl o5=>
      some ((o5.1,o5.2.1,o3.1),(0,0),())
     |.inr o6=>
      some (([],[],[]),(o6.1,o6.2.1),())) fun cL=>
   bif decide (r1.1 < 0) then
    cL true
   else
    (bK o3.1 r1.1).bind fun x2=>
    (bK o3.1 (r1.1.toNat:Int)).bind fun x3=>
    cL (decide (x3.2.1 > 0))
  |.inr o4=>
   some (([],[],[]),(o4.1,o4.2.1),())
 |.inr o2=>
  some (([],[],[]),(o2.1,o2.2.1),())
def xr(k:Nat):m9:=⟨⟨118,[(35,3),(37,2),(47,5),(10002,3)],[lI 47 0,lI 47 1,lI 47 2,lD 47 3 .str,lD 47 4 sI,rD 0 sN,rP 2 10002,rP 3 37,rP 4 47,rP 5 35,rD 27 sI,rI 28],[lF 35 0 tA,lF 35 1 .str,lU 35 2 tF,lI 37 0,lI 37 1,lN 10002 0,lN 10002 1,lN 10002 2,(.r 6,.h .mp tA),rI 29],[]⟩,[.ex (.exit 0) [lF 35 0 tA,lF 35 1 .str,lU 35 2 tF,lI 37 0,lI 37 1,lN 10002 0,lN 10002 1,lN 10002 2,(.r 6,.h .mp tA)],.ex .ret [lI 37 0,lI 37 1,lN 10002 0,lN 10002 1,lN 10002 2]],fun q c v=>dF k q c.2.2.2.2.2.1 c.2.2.2.2.2.2.2.2.2.2.1 c.2.2.2.2.2.2.2.2.2.2.2.1 v.1 v.2.1 v.2.2.1 v.2.2.2.1 v.2.2.2.2.1 v.2.2.2.2.2.2.2.2.1 v.2.2.2.2.2.2.2.2.2.1⟩
def vJ(k:Nat):m9:=⟨⟨118,[(35,3),(37,2),(47,5),(10002,3)],[lF 35 0 tA,lF 35 1 .str,lI 37 0,lI 37 1,lI 47 0,lI 47 1,lI 47 2,lD 47 3 .str,lD 47 4 sI,lN 10002 0,lN 10002 1,lN 10002 2,rD 0 sN,rP 2 10002,rP 3 37,rP 5 35,rI 10,rI 12,rD 49 sI,rI 50,rI 51],[lU 35 2 tF,(.r 6,.h .mp tA)],[]⟩,[.ex .normal [lU 35 2 tF,(.r 6,.h .mp tA),rP 13 10013,lI 10013 0,lI 10013 1]],fun q c v=>pH k c.2.2.2.2.2.2.2.2.2.2.2.2.1 c.2.2.2.2.2.2.2.2.2.2.2.2.2.2.2.2.1 c.2.2.2.2.2.2.2.2.2.2.2.2.2.2.2.2.2.1 v.1 v.2.1⟩
def xt(k:Nat):m9:=⟨⟨118,[(35,3),(37,2),(47,5),(10002,3)],[lF 35 0 tA,lF 35 1 .str,lI 47 0,lI 47 1,lI 47 2,lD 47 3 .str,lD 47 4 sI,rD 0 sN,rP 2 10002,rP 3 37,rP 5 35,rD 49 sI,rI 50],[lU 35 2 tF,lI 37 0,lI 37 1,lN 10002 0,lN 10002 1,lN 10002 2,(.r 6,.h .mp tA),rI 10,rI 51],[]⟩,[.ex (.exit 2) [lU 35 2 tF,lI 37 0,lI 37 1,lN 10002 0,lN 10002 1,lN 10002 2],.ex .ret [lI 37 0,lI 37 1,lN 10002 0,lN 10002 1,lN 10002 2]],fun q c v=>dj k q c.2.2.2.2.2.2.2.1 c.2.2.2.2.2.2.2.2.2.2.2.1 c.2.2.2.2.2.2.2.2.2.2.2.2.1 v.1 v.2.1 v.2.2.1 v.2.2.2.2.2.2.1 v.2.2.2.2.2.2.2.1 v.2.2.2.2.2.2.2.2.1⟩
def xu(k:Nat):m9:=⟨⟨118,[(35,3),(37,2),(47,5),(10002,3)],[lD 35 2 sF,lI 47 0,lI 47 1,lI 47 2,lD 47 3 .str,lD 47 4 sI,rD 0 sN,rP 2 10002,rP 3 37,rP 5 35,rD 96 sF,rI 97],[lD 35 0 sA,lD 35 1 sS,lI 37 0,lI 37 1,lN 10002 0,lN 10002 1,lN 10002 2,rI 98],[]⟩,[.ex (.exit 4) [lD 35 0 sA,lD 35 1 sS,lI 37 0,lI 37 1,lN 10002 0,lN 10002 1,lN 10002 2],.ex .ret [lI 37 0,lI 37 1,lN 10002 0,lN 10002 1,lN 10002 2]],fun q c v=>fk k q c.1 c.2.2.2.2.2.2.1 c.2.2.2.2.2.2.2.2.2.2.1 c.2.2.2.2.2.2.2.2.2.2.2.1 v.1 v.2.1 v.2.2.1 v.2.2.2.1 v.2.2.2.2.2.2.2.1⟩
def pe(k:Nat):Ev bD:=⟨[E5,(Gj k).aed 2 67,Jk k,(BQ k).tC 0 137],[lp 0 (xr k) k,rg 16 (vJ k),lp 2 (xt k) k,lp 4 (xu k) k],[(3,37),(4,47),(5,35)]⟩
def EL(k q:Nat):Cd bD:=oz (pe k) f42 0 (xr k) q []
def DJ(k:Nat):Cd bD:=rgC (pe k) f42 16 (vJ k) [[0,1,2,3,4,5,6,7,8,9,10,11,12],[0,1,2,3,4,5,6,7,8,9,11,10,12]]
def EM(k q:Nat):Cd bD:=oz (pe k) f42 2 (xt k) q [DJ k]
def EO(k q:Nat):Cd bD:=oz (pe k) f42 4 (xu k) q []
def Jl(k:Nat):Cl bD:=zd (pe k) 42 f42 func42 call42 [sN] [tM,tP] (fun d=>iM k d.1) [EL k k,EM k k,EO k k]
abbrev lL:=XN→XA→XS→XF→XI→XI→XI→XI→XB→XE→XQ→XL→XB→(ao×Int×XS×XS×Int)→Int→Option (XI×XI×Unit)
def nY(f:lL):De:=⟨⟨55,[(93,13)],[lD 93 0 sN,lD 93 1 sA,lD 93 2 sS,lD 93 3 sF,lD 93 6 sI,lD 93 7 sI,lD 93 8 sB,lD 93 9 sE,lD 93 10 sQ,lD 93 11 sL,lD 93 12 sB],[rP 0 93,rD 1 tF,rI 2,lF 93 4 I,lF 93 5 I],[]⟩,[.ret [lF 93 4 I,lF 93 5 I] []],fun c v=>f c.1 c.2.1 c.2.2.1 c.2.2.2.1 v.2.2.2.1 v.2.2.2.2.1 c.2.2.2.2.1 c.2.2.2.2.2.1 c.2.2.2.2.2.2.1 c.2.2.2.2.2.2.2.1 c.2.2.2.2.2.2.2.2.1 c.2.2.2.2.2.2.2.2.2.1 c.2.2.2.2.2.2.2.2.2.2.1 v.2.1 v.2.2.1⟩
def vD(f:lL):iT:=mF (nY f).L (nY f).F (Ao [] (nY f).V)
def gm(dl:lL)(q:Nat):Nat→ao→Int→XS→XS→Int→XN→XA→XS→XF→XI→XI→XB→XE→XQ→XL→XB→XI→Int→XI→XI→Int→Option (XI×XI×Unit)
 |0,_,_,_,_,_,_,_,_,_,_,_,_,_,_,_,_,_,_,_,_,_=>none
 |k + 1,Qg,va,Je,Jf,Mo,bV,gn,gg,jy,kg,mr,pC,mW,sf,uh,mv,Yj,Yk,W5,Uo,L7=>
  bif decide (L7 < Yk) then
   (bK Yj L7).bind fun x6=>
   (dl bV gn gg jy W5 Uo kg mr pC mW sf uh mv (Qg,va,Je,Jf,Mo) x6).bind fun r2=>
   gm dl q k Qg va Je Jf Mo bV gn gg jy kg mr pC mW sf uh mv Yj Yk r2.1 r2.2.1 (dP (L7 + 1))
  else
   some (W5,Uo,())
def n9(dl:lL)(k:Nat)(aA:XN)(aH:XA)(ax:XS)(bj:XF)(lV jA gW iJ:XI)(kV:XB)(gC:XE)(laid:XQ)(out:XL)(bP:XB)(fn:ao×Int×XS×XS×Int)(n:Int):Option (XI×XI×Unit):=
 (bK aA n).bind fun x1=>
 aa (fun(jv:XI×XI)=>
  (gm dl k k fn.1 fn.2.1 fn.2.2.1 fn.2.2.2.1 fn.2.2.2.2 aA aH ax bj gW iJ kV gC laid out bP x1.2.2.2.2 (x1.2.2.2.2.length:Int) (jv.1) (jv.2) 0).bind fun o=>
  some (o.1,o.2.1,())) fun cL=>
 bif !(x1.2.2.2.1 == ([]:ao)) then
  (fC k (aH,ax,bj) fn.1 x1.2.2.2.1).bind fun r1=>
  (bK lV n).bind fun x2=>
  (bK lV (n.toNat:Int)).bind fun x3=>
  (bK jA n).bind fun x4=>
  (bK jA (n.toNat:Int)).bind fun x5=>
  cL (List.set lV n.toNat r1.1,List.set jA n.toNat r1.2.1)
 else
  cL (lV,jA)
def gc:Nat→lL
 |0=>fun _ _ _ _ _ _ _ _ _ _ _ _ _ _ _=>none
 |k + 1=>n9 (gc k) k
section
variable (dl:Gd bD 43 vD)
def s6(k:Nat):m9:=⟨⟨55,[(47,5),(67,5),(93,13)],[lI 47 0,lI 47 1,lI 47 2,lD 47 3 .str,lD 47 4 sI,lD 67 0 .str,lI 67 1,lD 67 2 sS,lD 67 3 sS,lI 67 4,lD 93 0 sN,lD 93 1 sA,lD 93 2 sS,lD 93 3 sF,lD 93 6 sI,lD 93 7 sI,lD 93 8 sB,lD 93 9 sE,lD 93 10 sQ,lD 93 11 sL,lD 93 12 sB,rP 0 93,rP 4 67,rD 44 sI,rI 45],[lF 93 4 I,lF 93 5 I,rI 46],[]⟩,[.ex (.exit 0) [lF 93 4 I,lF 93 5 I]],fun q c v=>gm dl.1 k q c.2.2.2.2.2.1 c.2.2.2.2.2.2.1 c.2.2.2.2.2.2.2.1 c.2.2.2.2.2.2.2.2.1 c.2.2.2.2.2.2.2.2.2.1 c.2.2.2.2.2.2.2.2.2.2.1 c.2.2.2.2.2.2.2.2.2.2.2.1 c.2.2.2.2.2.2.2.2.2.2.2.2.1 c.2.2.2.2.2.2.2.2.2.2.2.2.2.1 c.2.2.2.2.2.2.2.2.2.2.2.2.2.2.1 c.2.2.2.2.2.2.2.2.2.2.2.2.2.2.2.1 c.2.2.2.2.2.2.2.2.2.2.2.2.2.2.2.2.1 c.2.2.2.2.2.2.2.2.2.2.2.2.2.2.2.2.2.1 c.2.2.2.2.2.2.2.2.2.2.2.2.2.2.2.2.2.2.1 c.2.2.2.2.2.2.2.2.2.2.2.2.2.2.2.2.2.2.2.1 c.2.2.2.2.2.2.2.2.2.2.2.2.2.2.2.2.2.2.2.2.1 c.2.2.2.2.2.2.2.2.2.2.2.2.2.2.2.2.2.2.2.2.2.2.2.1 c.2.2.2.2.2.2.2.2.2.2.2.2.2.2.2.2.2.2.2.2.2.2.2.2.1 v.1 v.2.1 v.2.2.1⟩
def vA(k:Nat):Ev bD:=⟨[dl.cl,vf k],[lp 0 (s6 dl k) k],[(4,67),(6,47)]⟩
def As(k q:Nat):Cd bD:=oz (vA dl k) f43 0 (s6 dl k) q []
def DZ(k:Nat):Cl bD:=mY (vA dl k) 43 f43 func43 call43 [] (nY (n9 dl.1 k)) [As dl k k]
end
theorem uL:∀ k,lZ prog gt 43 (vD (gc k))
 |0=>dg (fun _ _=>rfl)
 |k + 1=>(DZ ⟨_,uL k⟩ k).ok
def DU(k:Nat):Cl bD:=⟨_,_,uL k⟩
def dh(fn:Int)(gW:XI)(kV:XB)(aaV:Bool):Option (Int×XI×XB×Unit):=
 (lM gW ([fn])).bind fun l=>
 (lM kV ([aaV])).bind fun l2=>
 some ((dP ((l.length:Int) - 1)),l,l2,())
def oO:Cl bD:=mY ⟨[],[],[]⟩ 77 f77 func77 call77 [500000] ⟨⟨39,[(97,7),(93,13)],[(.l 97 0,.lit (.mT 93 0)),lI 97 1,lF 97 3 I,lF 97 5 tE,lF 97 6 tQ,lD 93 0 sN,lD 93 1 sA,lD 93 2 sS,lD 93 3 sF,lF 93 4 I,lF 93 5 I,lD 93 6 sI,lD 93 7 sI,lD 93 8 sB,lD 93 9 sE,lD 93 10 sQ,lD 93 11 sL,lD 93 12 sB],[rP 0 97,rD 1 .bool,lF 97 2 I,lF 97 4 .bool],[]⟩,[.ret [rI 500000,lF 97 2 I,lF 97 4 .bool] []],fun c v=>dh c.2.1 v.2.2.1 v.2.2.2.1 v.2.1⟩ []
def dr(gC:XE)(lQ to CH nA arg:Int):Option (XE×Unit):=
 (lM gC ([(lQ,to,CH,nA,arg)])).bind fun l=>
 some (l,())
def pF:Cl bD:=mY ⟨[],[],[]⟩ 79 f79 func79 call79 [] ⟨⟨29,[(97,7),(93,13)],[(.l 97 0,.lit (.mT 93 0)),lI 97 1,lF 97 2 I,lF 97 3 I,lF 97 4 .bool,lF 97 6 tQ,lD 93 0 sN,lD 93 1 sA,lD 93 2 sS,lD 93 3 sF,lF 93 4 I,lF 93 5 I,lD 93 6 sI,lD 93 7 sI,lD 93 8 sB,lD 93 9 sE,lD 93 10 sQ,lD 93 11 sL,lD 93 12 sB],[rP 0 97,rI 1,rI 2,rI 3,rI 4,rI 5,lF 97 5 tE],[]⟩,[.ret [lF 97 5 tE] []],fun c v=>dr v.2.2.2.2.2.2.1 v.2.1 v.2.2.1 v.2.2.2.1 v.2.2.2.2.1 v.2.2.2.2.2.1⟩ []
end
end Go.Fx.R5
namespace Go.Fx.R5
open Go Go.Fx Go.Proofs Go.Proofs.Tryz
noncomputable section
abbrev pE:=Int→XI→XI→XB→XE→XQ→XN→XA→XS→XF→XI→XI→XI→XI→XB→XE→XQ→XL→XB→Int→Int→Int→Int→Option (XI×XB×XE×Unit)
def pz(f:pE):De:=⟨⟨90,[(97,7),(93,13)],[(.l 97 0,.lit (.mT 93 0)),lI 97 1,lF 97 3 I,lF 97 6 tQ,lD 93 0 sN,lD 93 1 sA,lD 93 2 sS,lD 93 3 sF,lF 93 4 I,lF 93 5 I,lD 93 6 sI,lD 93 7 sI,lD 93 8 sB,lD 93 9 sE,lD 93 10 sQ,lD 93 11 sL,lD 93 12 sB],[rP 0 97,rI 1,rI 2,rI 3,rI 4,lF 97 2 I,lF 97 4 .bool,lF 97 5 tE],[]⟩,[.ret [lF 97 2 I,lF 97 4 .bool,lF 97 5 tE] []],fun c v=>f c.2.1 v.2.2.2.2.2.1 c.2.2.1 v.2.2.2.2.2.2.1 v.2.2.2.2.2.2.2.1 c.2.2.2.1 c.2.2.2.2.1 c.2.2.2.2.2.1 c.2.2.2.2.2.2.1 c.2.2.2.2.2.2.2.1 c.2.2.2.2.2.2.2.2.1 c.2.2.2.2.2.2.2.2.2.1 c.2.2.2.2.2.2.2.2.2.2.1 c.2.2.2.2.2.2.2.2.2.2.2.1 c.2.2.2.2.2.2.2.2.2.2.2.2.1 c.2.2.2.2.2.2.2.2.2.2.2.2.2.1 c.2.2.2.2.2.2.2.2.2.2.2.2.2.2.1 c.2.2.2.2.2.2.2.2.2.2.2.2.2.2.2.1 c.2.2.2.2.2.2.2.2.2.2.2.2.2.2.2.2.1 v.2.1 v.2.2.1 v.2.2.2.1 v.2.2.2.2.1⟩
def yk(f:pE):iT:=mF (pz f).L (pz f).F (Ao [] (pz f).V)
def ld(iE:pE)(k:Nat)(fn:Int)(gW iJ:XI)(kV:XB)(gC:XE)(laid:XQ)(aA:XN)(aH:XA)(ax:XS)(bj:XF)(lV jA kg mr:XI)(pC:XB)(mW:XE)(sf:XQ)(out:XL)(bP:XB)(n p y z:Int):Option (XI×XB×XE×Unit):=
 (bK aA n).bind fun x1=>
 bif x1.1 == 33 then
  (bK x1.2.2.2.2 0).bind fun x2=>
  (iE fn gW iJ kV gC laid aA aH ax bj lV jA kg mr pC mW sf out bP x2 p z y).bind fun r1=>
  some (r1.1,r1.2.1,r1.2.2.1,())
 else
  bif x1.1 == 31 then
   (dh fn gW kV false).bind fun r2=>
   (bK x1.2.2.2.2 0).bind fun x3=>
   (iE fn r2.2.1 iJ r2.2.2.1 gC laid aA aH ax bj lV jA kg mr pC mW sf out bP x3 p r2.1 z).bind fun r3=>
   (bK x1.2.2.2.2 1).bind fun x4=>
   (iE fn r3.1 iJ r3.2.1 r3.2.2.1 laid aA aH ax bj lV jA kg mr pC mW sf out bP x4 r2.1 y z).bind fun r4=>
   some (r4.1,r4.2.1,r4.2.2.1,())
  else
   bif x1.1 == 32 then
    (dh fn gW kV false).bind fun r5=>
    (bK x1.2.2.2.2 0).bind fun x5=>
    (iE fn r5.2.1 iJ r5.2.2.1 gC laid aA aH ax bj lV jA kg mr pC mW sf out bP x5 p y r5.1).bind fun r6=>
    (bK x1.2.2.2.2 1).bind fun x6=>
    (iE fn r6.1 iJ r6.2.1 r6.2.2.1 laid aA aH ax bj lV jA kg mr pC mW sf out bP x6 r5.1 y z).bind fun r7=>
    some (r7.1,r7.2.1,r7.2.2.1,())
   else
    (dr gC p y 3 n 1).bind fun r8=>
    (dr r8.1 p z 3 n 0).bind fun r9=>
    some (gW,kV,r9.1,())
def io:Nat→pE
 |0=>fun _ _ _ _ _ _ _ _ _ _ _ _ _ _ _ _ _ _ _ _ _ _ _=>none
 |k + 1=>ld (io k) k
section
variable (iE:Gd bD 140 yk)
def Gv(k:Nat):Cl bD:=mY ⟨[oO,pF,iE.cl],[],[(10,47)]⟩ 140 f140 func140 call140 [] (pz (ld iE.1 k)) []
end
theorem wX:∀ k,lZ prog gt 140 (yk (io k))
 |0=>dg (fun _ _=>rfl)
 |k + 1=>(Gv ⟨_,wX k⟩ k).ok
def Gi(k:Nat):Cl bD:=⟨_,_,wX k⟩
abbrev je:=Int→XI→XI→XB→XE→XQ→XN→XA→XS→XF→XI→XI→XI→XI→XB→XE→XQ→XL→XB→Int→Int→Int→Option (XI×XB×XE×XQ×Unit)
def oF(f:je):De:=⟨⟨52,[(97,7),(93,13)],[(.l 97 0,.lit (.mT 93 0)),lI 97 1,lF 97 3 I,lD 93 0 sN,lD 93 1 sA,lD 93 2 sS,lD 93 3 sF,lF 93 4 I,lF 93 5 I,lD 93 6 sI,lD 93 7 sI,lD 93 8 sB,lD 93 9 sE,lD 93 10 sQ,lD 93 11 sL,lD 93 12 sB],[rP 0 97,rI 1,rI 2,rI 3,lF 97 2 I,lF 97 4 .bool,lF 97 5 tE,lF 97 6 tQ],[]⟩,[.ret [lF 97 2 I,lF 97 4 .bool,lF 97 5 tE,lF 97 6 tQ] []],fun c v=>f c.2.1 v.2.2.2.2.1 c.2.2.1 v.2.2.2.2.2.1 v.2.2.2.2.2.2.1 v.2.2.2.2.2.2.2.1 c.2.2.2.1 c.2.2.2.2.1 c.2.2.2.2.2.1 c.2.2.2.2.2.2.1 c.2.2.2.2.2.2.2.1 c.2.2.2.2.2.2.2.2.1 c.2.2.2.2.2.2.2.2.2.1 c.2.2.2.2.2.2.2.2.2.2.1 c.2.2.2.2.2.2.2.2.2.2.2.1 c.2.2.2.2.2.2.2.2.2.2.2.2.1 c.2.2.2.2.2.2.2.2.2.2.2.2.2.1 c.2.2.2.2.2.2.2.2.2.2.2.2.2.2.1 c.2.2.2.2.2.2.2.2.2.2.2.2.2.2.2.1 v.2.1 v.2.2.1 v.2.2.2.1⟩
def wJ(f:je):iT:=mF (oF f).L (oF f).F (Ao [] (oF f).V)
abbrev gp:=Int→XI→XI→XB→XE→XQ→XN→XA→XS→XF→XI→XI→XI→XI→XB→XE→XQ→XL→XB→Int→Int→Int→Option (XI×XB×XE×XQ×Unit)
def lW(f:gp):De:=⟨⟨218,[(97,7),(93,13)],[(.l 97 0,.lit (.mT 93 0)),lI 97 1,lF 97 3 I,lD 93 0 sN,lD 93 1 sA,lD 93 2 sS,lD 93 3 sF,lF 93 4 I,lF 93 5 I,lD 93 6 sI,lD 93 7 sI,lD 93 8 sB,lD 93 9 sE,lD 93 10 sQ,lD 93 11 sL,lD 93 12 sB],[rP 0 97,rI 1,rI 2,rI 3,lF 97 2 I,lF 97 4 .bool,lF 97 5 tE,lF 97 6 tQ],[]⟩,[.ret [lF 97 2 I,lF 97 4 .bool,lF 97 5 tE,lF 97 6 tQ] []],fun c v=>f c.2.1 v.2.2.2.2.1 c.2.2.1 v.2.2.2.2.2.1 v.2.2.2.2.2.2.1 v.2.2.2.2.2.2.2.1 c.2.2.2.1 c.2.2.2.2.1 c.2.2.2.2.2.1 c.2.2.2.2.2.2.1 c.2.2.2.2.2.2.2.1 c.2.2.2.2.2.2.2.2.1 c.2.2.2.2.2.2.2.2.2.1 c.2.2.2.2.2.2.2.2.2.2.1 c.2.2.2.2.2.2.2.2.2.2.2.1 c.2.2.2.2.2.2.2.2.2.2.2.2.1 c.2.2.2.2.2.2.2.2.2.2.2.2.2.1 c.2.2.2.2.2.2.2.2.2.2.2.2.2.2.1 c.2.2.2.2.2.2.2.2.2.2.2.2.2.2.2.1 v.2.1 v.2.2.1 v.2.2.2.1⟩
def sK(f:gp):iT:=mF (lW f).L (lW f).F (Ao [] (lW f).V)
def gQ(co:je)(bT:gp)(q:Nat):Nat→XN→XA→XS→XF→XI→XI→XI→XI→XB→XE→XQ→XL→XB→Int→XI→Int→XI→XI→Int→XI→XB→XE→XQ→Int→Int→Option (XI×XB×XE×XQ×Unit)
 |0,_,_,_,_,_,_,_,_,_,_,_,_,_,_,_,_,_,_,_,_,_,_,_,_,_=>none
 |k + 1,bV,gn,gg,jy,W4,Un,VX,VR,ZH,Kr,aab,uh,mv,Fb,VS,q2,cA,adh,Yi,Sp,VT,VQ,aac,p2,Tp=>
  bif decide (Tp < Yi) then
   (bK adh Tp).bind fun x2=>
   aa (fun(jv:Int×XI×XB)=>
    (bT Fb (jv.2.1) VS (jv.2.2) VQ aac bV gn gg jy W4 Un VX VR ZH Kr aab uh mv x2 p2 (jv.1)).bind fun r3=>
    gQ co bT q k bV gn gg jy W4 Un VX VR ZH Kr aab uh mv Fb VS q2 cA adh Yi r3.1 r3.2.1 r3.2.2.1 r3.2.2.2.1 (jv.1) (dP (Tp + 1))) fun cL=>
   bif decide (Tp < (dP ((cA.length:Int) - 1))) then
    (dh Fb Sp VT false).bind fun r2=>
    cL (r2.1,r2.2.1,r2.2.2.1)
   else
    cL (q2,Sp,VT)
  else
   some (Sp,VT,VQ,aac,())
def mA(co:je)(bT:gp)(k:Nat)(fn:Int)(gW iJ:XI)(kV:XB)(gC:XE)(laid:XQ)(aA:XN)(aH:XA)(ax:XS)(bj:XF)(lV jA kg mr:XI)(pC:XB)(mW:XE)(sf:XQ)(out:XL)(bP:XB)(n p q:Int):Option (XI×XB×XE×XQ×Unit):=
 (bK aA n).bind fun x1=>
 bif (x1.2.2.2.2.length:Int) == 0 then
  (dr gC p q 1 (-1) 0).bind fun r1=>
  some (gW,kV,r1.1,laid,())
 else
  (gQ co bT k k aA aH ax bj lV jA kg mr pC mW sf out bP fn iJ q x1.2.2.2.2 x1.2.2.2.2 (x1.2.2.2.2.length:Int) gW kV gC laid p 0).bind fun o=>
  some (o.1,o.2.1,o.2.2.1,o.2.2.2.1,())
def cO(co:je)(bT:gp)(k:Nat)(fn:Int)(gW iJ:XI)(kV:XB)(gC:XE)(laid:XQ)(aA:XN)(aH:XA)(ax:XS)(bj:XF)(lV jA kg mr:XI)(pC:XB)(mW:XE)(sf:XQ)(out:XL)(bP:XB)(n p q:Int):Option (XI×XB×XE×XQ×Unit):=
 (bK aA n).bind fun x1=>
 aa (fun(jv:XI×XB×XE×XQ×Int×Int)=>
  (bK (jv.2.2.2.1) n).bind fun x12=>
  (bK (jv.2.2.2.1) (n.toNat:Int)).bind fun x13=>
  some ((jv.1),(jv.2.1),(jv.2.2.1),List.set (jv.2.2.2.1) n.toNat (p,q,(jv.2.2.2.2.1),(jv.2.2.2.2.2)),())) fun jX=>
 bif x1.1 == 14 then
  (dh fn gW kV false).bind fun r1=>
  aa (fun(jv:XI×XB×Int)=>
   (bK x1.2.2.2.2 0).bind fun x2=>
   (io k fn (jv.1) iJ (jv.2.1) gC laid aA aH ax bj lV jA kg mr pC mW sf out bP x2 p r1.1 (jv.2.2)).bind fun r3=>
   (bK x1.2.2.2.2 1).bind fun x3=>
   (co fn r3.1 iJ r3.2.1 r3.2.2.1 laid aA aH ax bj lV jA kg mr pC mW sf out bP x3 r1.1 q).bind fun r4=>
   bif (x1.2.2.2.2.length:Int) == 3 then
    (bK x1.2.2.2.2 2).bind fun x4=>
    (co fn r4.1 iJ r4.2.1 r4.2.2.1 r4.2.2.2.1 aA aH ax bj lV jA kg mr pC mW sf out bP x4 (jv.2.2) q).bind fun r5=>
    jX (r5.1,r5.2.1,r5.2.2.1,r5.2.2.2.1,r1.1,(jv.2.2))
   else
    jX (r4.1,r4.2.1,r4.2.2.1,r4.2.2.2.1,r1.1,(jv.2.2))) fun cL=>
  bif (x1.2.2.2.2.length:Int) == 3 then
   (dh fn r1.2.1 r1.2.2.1 false).bind fun r2=>
   cL (r2.2.1,r2.2.2.1,r2.1)
  else
   cL (r1.2.1,r1.2.2.1,q)
 else
  bif x1.1 == 15 then
   (dh fn gW kV true).bind fun r6=>
   (dh fn r6.2.1 r6.2.2.1 false).bind fun r7=>
   (dr gC p r6.1 1 (-1) 0).bind fun r8=>
   (bK x1.2.2.2.2 0).bind fun x5=>
   (io k fn r7.2.1 iJ r7.2.2.1 r8.1 laid aA aH ax bj lV jA kg mr pC mW sf out bP x5 r6.1 r7.1 q).bind fun r9=>
   (bK x1.2.2.2.2 1).bind fun x6=>
   (co fn r9.1 iJ r9.2.1 r9.2.2.1 laid aA aH ax bj lV jA kg mr pC mW sf out bP x6 r7.1 r6.1).bind fun mU=>
   jX (mU.1,mU.2.1,mU.2.2.1,mU.2.2.2.1,r7.1,q)
  else
   bif x1.1 == 16 then
    (dh fn gW kV true).bind fun pK=>
    (dh fn pK.2.1 pK.2.2.1 false).bind fun qP=>
    (dr gC p pK.1 8 n 0).bind fun sm=>
    (dr sm.1 pK.1 qP.1 9 n 1).bind fun sx=>
    (dr sx.1 pK.1 q 9 n 0).bind fun rN=>
    (dh fn qP.2.1 qP.2.2.1 false).bind fun tz=>
    (bK x1.2.2.2.2 2).bind fun x7=>
    (co fn tz.2.1 iJ tz.2.2.1 rN.1 laid aA aH ax bj lV jA kg mr pC mW sf out bP x7 qP.1 tz.1).bind fun wi=>
    (dr wi.2.2.1 tz.1 pK.1 10 n 0).bind fun so=>
    jX (wi.1,wi.2.1,so.1,wi.2.2.2.1,qP.1,q)
   else
    bif x1.1 == 19 then
     (dh fn gW kV false).bind fun sy=>
     (bK x1.2.2.2.2 0).bind fun x8=>
     (io k fn sy.2.1 iJ sy.2.2.1 gC laid aA aH ax bj lV jA kg mr pC mW sf out bP x8 p q sy.1).bind fun xJ=>
     (dr xJ.2.2.1 sy.1 sy.1 4 n 0).bind fun Aq=>
     jX (xJ.1,xJ.2.1,Aq.1,laid,q,sy.1)
    else
     bif x1.1 == 21 then
      (dr gC p p 6 n 0).bind fun M2=>
      jX (gW,kV,M2.1,laid,0,0)
     else
      bif x1.1 == 20 then
       (dr gC p p 7 n 0).bind fun Mn=>
       jX (gW,kV,Mn.1,laid,0,0)
      else
       bif x1.1 == 22 then
        (bK x1.2.2.2.2 0).bind fun x9=>
        (bK jA x9).bind fun x10=>
        (bK jA (x9.toNat:Int)).bind fun x11=>
        (dr gC p q 5 n x11).bind fun Hv=>
        jX (gW,kV,Hv.1,laid,0,0)
       else
        (dr gC p q 2 n 0).bind fun r25=>
        jX (gW,kV,r25.1,laid,0,0)
def jn:Nat→je×gp
 |0=>(fun _ _ _ _ _ _ _ _ _ _ _ _ _ _ _ _ _ _ _ _ _ _=>none,fun _ _ _ _ _ _ _ _ _ _ _ _ _ _ _ _ _ _ _ _ _ _=>none)
 |k + 1=>(mA (jn k).1 (jn k).2 k,cO (jn k).1 (jn k).2 k)
def js(k:Nat):je:=(jn k).1
def gk(k:Nat):gp:=(jn k).2
section
variable (co:Gd bD 78 wJ) (bT:Gd bD 115 sK)
def tR(k:Nat):m9:=⟨⟨52,[(93,13),(97,7)],[lD 93 0 sN,lD 93 1 sA,lD 93 2 sS,lD 93 3 sF,lF 93 4 I,lF 93 5 I,lD 93 6 sI,lD 93 7 sI,lD 93 8 sB,lD 93 9 sE,lD 93 10 sQ,lD 93 11 sL,lD 93 12 sB,(.l 97 0,.lit (.mT 93 0)),lI 97 1,lF 97 3 I,rP 0 97,rI 3,rD 8 sI,rD 30 sI,rI 31],[lF 97 2 I,lF 97 4 .bool,lF 97 5 tE,lF 97 6 tQ,rI 2,rI 32],[]⟩,[.ex (.exit 0) [lF 97 2 I,lF 97 4 .bool,lF 97 5 tE,lF 97 6 tQ]],fun q c v=>gQ co.1 bT.1 k q c.1 c.2.1 c.2.2.1 c.2.2.2.1 c.2.2.2.2.1 c.2.2.2.2.2.1 c.2.2.2.2.2.2.1 c.2.2.2.2.2.2.2.1 c.2.2.2.2.2.2.2.2.1 c.2.2.2.2.2.2.2.2.2.1 c.2.2.2.2.2.2.2.2.2.2.1 c.2.2.2.2.2.2.2.2.2.2.2.1 c.2.2.2.2.2.2.2.2.2.2.2.2.1 c.2.2.2.2.2.2.2.2.2.2.2.2.2.2.1 c.2.2.2.2.2.2.2.2.2.2.2.2.2.2.2.1 c.2.2.2.2.2.2.2.2.2.2.2.2.2.2.2.2.2.1 c.2.2.2.2.2.2.2.2.2.2.2.2.2.2.2.2.2.2.1 c.2.2.2.2.2.2.2.2.2.2.2.2.2.2.2.2.2.2.2.1 c.2.2.2.2.2.2.2.2.2.2.2.2.2.2.2.2.2.2.2.2.1 v.1 v.2.1 v.2.2.1 v.2.2.2.1 v.2.2.2.2.1 v.2.2.2.2.2.1⟩
def wA(k:Nat):Ev bD:=⟨[oO,pF,bT.cl],[lp 0 (tR co bT k) k],[]⟩
def BK(k q:Nat):Cd bD:=oz (wA co bT k) f78 0 (tR co bT k) q []
def Fe(k:Nat):Cl bD:=mY (wA co bT k) 78 f78 func78 call78 [] (oF (mA co.1 bT.1 k)) [BK co bT k k]
def AG(k:Nat):Cl bD:=mY ⟨[oO,co.cl,pF,Gi k],[],[(8,47),(9,167)]⟩ 115 f115 func115 call115 [] (lW (cO co.1 bT.1 k)) []
end
theorem oe:∀ k,lZ prog gt 78 (wJ (js k))∧lZ prog gt 115 (sK (gk k))
 |0=>⟨dg (fun _ _=>rfl),dg (fun _ _=>rfl)⟩
 |k + 1=>have ih:=oe k;⟨(Fe ⟨_,ih.1⟩ ⟨_,ih.2⟩ k).ok,(AG ⟨_,ih.1⟩ ⟨_,ih.2⟩ k).ok⟩
def E4(k:Nat):Cl bD:=⟨_,_,(oe k).1⟩
def Oy(k:Nat):Cl bD:=⟨_,_,(oe k).2⟩
def qO(k:Nat)(gW iJ:XI)(kV:XB)(gC:XE)(laid:XQ)(aA:XN)(aH:XA)(ax:XS)(bj:XF)(lV jA kg mr:XI)(pC:XB)(mW:XE)(sf:XQ)(out:XL)(bP:XB)(Fb:Int):Option (Int×XI×XI×XB×XE×XQ×Unit):=
 (dh Fb gW kV false).bind fun r1=>
 (lM iJ ([r1.1])).bind fun l=>
 (dh Fb r1.2.1 r1.2.2.1 false).bind fun r2=>
 (bK bj Fb).bind fun x1=>
 (js k Fb r2.2.1 l r2.2.2.1 gC laid aA aH ax bj lV jA kg mr pC mW sf out bP x1.2.2.2.2 r1.1 r2.1).bind fun r3=>
 (dr r3.2.2.1 r2.1 r2.1 6 (-1) 0).bind fun r4=>
 some (Fb,r3.1,l,r3.2.1,r4.1,r3.2.2.2.1,())
def BP(k:Nat):Cl bD:=mY ⟨[oO,E4 k,pF],[],[]⟩ 44 f44 func44 call44 [] ⟨⟨46,[(97,7),(93,13)],[(.l 97 0,.lit (.mT 93 0)),lD 93 0 sN,lD 93 1 sA,lD 93 2 sS,lD 93 3 sF,lF 93 4 I,lF 93 5 I,lD 93 6 sI,lD 93 7 sI,lD 93 8 sB,lD 93 9 sE,lD 93 10 sQ,lD 93 11 sL,lD 93 12 sB],[rP 0 97,rI 1,lI 97 1,lF 97 2 I,lF 97 3 I,lF 97 4 .bool,lF 97 5 tE,lF 97 6 tQ],[]⟩,[.ret [lI 97 1,lF 97 2 I,lF 97 3 I,lF 97 4 .bool,lF 97 5 tE,lF 97 6 tQ] []],fun c v=>qO k v.2.2.2.1 v.2.2.2.2.1 v.2.2.2.2.2.1 v.2.2.2.2.2.2.1 v.2.2.2.2.2.2.2.1 c.2.1 c.2.2.1 c.2.2.2.1 c.2.2.2.2.1 c.2.2.2.2.2.1 c.2.2.2.2.2.2.1 c.2.2.2.2.2.2.2.1 c.2.2.2.2.2.2.2.2.1 c.2.2.2.2.2.2.2.2.2.1 c.2.2.2.2.2.2.2.2.2.2.1 c.2.2.2.2.2.2.2.2.2.2.2.1 c.2.2.2.2.2.2.2.2.2.2.2.2.1 c.2.2.2.2.2.2.2.2.2.2.2.2.2.1 v.2.1⟩ []
def jr(q:Nat):Nat→XI→XE→Int→XB→Int→Option (XB×Unit)
 |0,_,_,_,_,_=>none
 |k + 1,kg,VD,ade,Eh,abH=>
  bif decide (abH < ade) then
   aa (fun(Cp:XB)=>
    jr q k kg VD ade Cp (dP (abH + 1))) fun cL=>
   (bK VD abH).bind fun x1=>
   bif x1.2.2.1 == 5 then
    (bK kg x1.1).bind fun x2=>
    bif decide (0≤x2) && decide (x2 < 6) then
     bif decide (0≤x1.2.2.2.2) && decide (x1.2.2.2.2 < 6) then
      (bK Eh (((x2.toNat * 6) + x1.2.2.2.2.toNat * 1):Int)).bind fun x5=>
      cL (List.set Eh ((x2.toNat * 6) + x1.2.2.2.2.toNat * 1) true)
     else
      none
    else
     none
   else
    cL Eh
  else
   some (Eh,())
def fQ(q:Nat):Nat→Int→Int→Int→XB→Int→Option (XB×Unit)
 |0,_,_,_,_,_=>none
 |k + 1,k2,i1,adi,HS,PT=>
  bif decide (PT < adi) then
   aa (fun(aaE:XB)=>
    fQ q k k2 i1 adi aaE (dP (PT + 1))) fun jX=>
   bif decide (0≤i1) && decide (i1 < 6) then
    bif decide (0≤k2) && decide (k2 < 6) then
     (bK HS (((i1.toNat * 6) + k2.toNat * 1):Int)).bind fun x3=>
     aa (fun(v:Bool)=>
      bif v then
       bif decide (0≤i1) && decide (i1 < 6) then
        bif decide (0≤PT) && decide (PT < 6) then
         (bK HS (((i1.toNat * 6) + PT.toNat * 1):Int)).bind fun x9=>
         jX (List.set HS ((i1.toNat * 6) + PT.toNat * 1) true)
        else
         none
       else
        none
      else
       jX HS) fun cL=>
     bif x3 then
      bif decide (0≤k2) && decide (k2 < 6) then
       bif decide (0≤PT) && decide (PT < 6) then
        (bK HS (((k2.toNat * 6) + PT.toNat * 1):Int)).bind fun x6=>
        cL x6
       else
        none
      else
       none
     else
      cL false
    else
     none
   else
    none
  else
   some (HS,())
def kn(q:Nat):Nat→Int→Int→Int→XB→Int→Option (XB×Unit)
 |0,_,_,_,_,_=>none
 |k + 1,n2,k1,R9,Cp,L8=>
  bif decide (L8 < R9) then
   (fQ q q k1 L8 n2 Cp 0).bind fun o2=>
   kn q k n2 k1 R9 o2.1 (dP (L8 + 1))
  else
   some (Cp,())
def km(q:Nat):Nat→Int→Int→XB→Int→Option (XB×Unit)
 |0,_,_,_,_=>none
 |k + 1,n,L7,Eh,abK=>
  bif decide (abK < L7) then
   (kn q q n abK n Eh 0).bind fun o2=>
   km q k n L7 o2.1 (dP (abK + 1))
  else
   some (Eh,())
def gb(q:Nat):Nat→XB→Int→Int→XB→Int→Option (XB×Unit)
 |0,_,_,_,_,_=>none
 |k + 1,Cp,i1,adn,QF,JW=>
  bif decide (JW < adn) then
   aa (fun(ab6:XB)=>
    gb q k Cp i1 adn ab6 (dP (JW + 1))) fun yx=>
   bif decide (0≤JW) && decide (JW < 6) then
    bif decide (0≤JW) && decide (JW < 6) then
     (bK Cp (((JW.toNat * 6) + JW.toNat * 1):Int)).bind fun x3=>
     aa (fun(v2:Bool)=>
      bif v2 then
       (bK QF i1).bind fun x7=>
       (bK QF (i1.toNat:Int)).bind fun x8=>
       yx (List.set QF i1.toNat true)
      else
       yx QF) fun jX=>
     bif x3 then
      aa (fun(v:Bool)=>
       jX v) fun cL=>
      bif i1 == JW then
       cL true
      else
       bif decide (0≤JW) && decide (JW < 6) then
        bif decide (0≤i1) && decide (i1 < 6) then
         (bK Cp (((JW.toNat * 6) + i1.toNat * 1):Int)).bind fun x6=>
         cL x6
        else
         none
       else
        none
     else
      jX false
    else
     none
   else
    none
  else
   some (QF,())
def ko(q:Nat):Nat→Int→XB→Int→XB→Int→Option (XB×Unit)
 |0,_,_,_,_,_=>none
 |k + 1,n,Eh,adm,ZP,abM=>
  bif decide (abM < adm) then
   (gb q q Eh abM n ZP 0).bind fun o3=>
   ko q k n Eh adm o3.1 (dP (abM + 1))
  else
   some (ZP,())
def ur(k:Nat)(bj:XF)(gW:XI)(gC:XE):Option (XB×Unit):=
 (jr k k gW gC (gC.length:Int) (List.replicate 36 false) 0).bind fun o=>
 (km k k (bj.length:Int) (bj.length:Int) o.1 0).bind fun o2=>
 (mkl (bj.length:Int) (false:Bool)).bind fun z=>
 (sub z 0 (bj.length:Int)).bind fun l=>
 (ko k k (bj.length:Int) o2.1 (bj.length:Int) l 0).bind fun o3=>
 some (o3.1,())
def xh(k:Nat):m9:=⟨⟨110,[(93,13)],[lD 93 0 sN,lD 93 1 sA,lD 93 2 sS,lD 93 3 sF,lF 93 4 I,lF 93 5 I,lD 93 6 sI,lD 93 7 sI,lD 93 8 sB,lD 93 9 sE,lD 93 10 sQ,lD 93 11 sL,lD 93 12 sB,rP 0 93,rI 3,rD 23 sE,rI 24],[(.r 4,.h .arr .bool),rI 25],[]⟩,[.ex (.exit 0) [(.r 4,.h .arr .bool)]],fun q c v=>jr k q c.2.2.2.2.2.2.1 c.2.2.2.2.2.2.2.2.2.2.2.2.2.2.2.1 c.2.2.2.2.2.2.2.2.2.2.2.2.2.2.2.2.1 v.1 v.2.1⟩
def xl(k:Nat):m9:=⟨⟨110,[(93,13)],[lD 93 0 sN,lD 93 1 sA,lD 93 2 sS,lD 93 3 sF,lF 93 4 I,lF 93 5 I,lD 93 6 sI,lD 93 7 sI,lD 93 8 sB,lD 93 9 sE,lD 93 10 sQ,lD 93 11 sL,lD 93 12 sB,rI 3,rI 7,rI 8,rI 46,rI 47,rI 50,rI 51,rI 54],[(.r 4,.h .arr .bool),rI 55],[]⟩,[.ex (.exit 6) [(.r 4,.h .arr .bool)]],fun q c v=>fQ k q c.2.2.2.2.2.2.2.2.2.2.2.2.2.2.1 c.2.2.2.2.2.2.2.2.2.2.2.2.2.2.2.1 c.2.2.2.2.2.2.2.2.2.2.2.2.2.2.2.2.2.2.2.2.1 v.1 v.2.1⟩
def xj(k:Nat):m9:=⟨⟨110,[(93,13)],[lD 93 0 sN,lD 93 1 sA,lD 93 2 sS,lD 93 3 sF,lF 93 4 I,lF 93 5 I,lD 93 6 sI,lD 93 7 sI,lD 93 8 sB,lD 93 9 sE,lD 93 10 sQ,lD 93 11 sL,lD 93 12 sB,rI 3,rI 7,rI 46,rI 47,rI 50],[(.r 4,.h .arr .bool),rI 51],[]⟩,[.ex (.exit 4) [(.r 4,.h .arr .bool)]],fun q c v=>kn k q c.2.2.2.2.2.2.2.2.2.2.2.2.2.1 c.2.2.2.2.2.2.2.2.2.2.2.2.2.2.1 c.2.2.2.2.2.2.2.2.2.2.2.2.2.2.2.2.2.1 v.1 v.2.1⟩
def xi(k:Nat):m9:=⟨⟨110,[(93,13)],[lD 93 0 sN,lD 93 1 sA,lD 93 2 sS,lD 93 3 sF,lF 93 4 I,lF 93 5 I,lD 93 6 sI,lD 93 7 sI,lD 93 8 sB,lD 93 9 sE,lD 93 10 sQ,lD 93 11 sL,lD 93 12 sB,rI 3,rI 46],[(.r 4,.h .arr .bool),rI 47],[]⟩,[.ex (.exit 2) [(.r 4,.h .arr .bool)]],fun q c v=>km k q c.2.2.2.2.2.2.2.2.2.2.2.2.2.1 c.2.2.2.2.2.2.2.2.2.2.2.2.2.2.1 v.1 v.2.1⟩
def vH(k:Nat):m9:=⟨⟨110,[(93,13)],[lD 93 0 sN,lD 93 1 sA,lD 93 2 sS,lD 93 3 sF,lF 93 4 I,lF 93 5 I,lD 93 6 sI,lD 93 7 sI,lD 93 8 sB,lD 93 9 sE,lD 93 10 sQ,lD 93 11 sL,lD 93 12 sB,rI 3,(.r 4,.h .arr .bool),rI 11,rI 79,rI 80,rI 83],[(.r 10,.h .ez .bool),rI 84],[]⟩,[.ex (.exit 10) [(.r 10,.h .ez .bool)]],fun q c v=>gb k q c.2.2.2.2.2.2.2.2.2.2.2.2.2.2.1 c.2.2.2.2.2.2.2.2.2.2.2.2.2.2.2.1 c.2.2.2.2.2.2.2.2.2.2.2.2.2.2.2.2.2.2.1 v.1 v.2.1⟩
def xm(k:Nat):m9:=⟨⟨110,[(93,13)],[lD 93 0 sN,lD 93 1 sA,lD 93 2 sS,lD 93 3 sF,lF 93 4 I,lF 93 5 I,lD 93 6 sI,lD 93 7 sI,lD 93 8 sB,lD 93 9 sE,lD 93 10 sQ,lD 93 11 sL,lD 93 12 sB,rI 3,(.r 4,.h .arr .bool),rI 79],[(.r 10,.h .ez .bool),rI 80],[]⟩,[.ex (.exit 8) [(.r 10,.h .ez .bool)]],fun q c v=>ko k q c.2.2.2.2.2.2.2.2.2.2.2.2.2.1 c.2.2.2.2.2.2.2.2.2.2.2.2.2.2.1 c.2.2.2.2.2.2.2.2.2.2.2.2.2.2.2.1 v.1 v.2.1⟩
def li(k:Nat):Ev bD:=⟨[],[lp 0 (xh k) k,lp 6 (xl k) k,lp 4 (xj k) k,lp 2 (xi k) k,lp 10 (vH k) k,lp 8 (xm k) k],[(4,9999)]⟩
def ED(k q:Nat):Cd bD:=oz (li k) f45 0 (xh k) q []
def EG(k q:Nat):Cd bD:=oz (li k) f45 6 (xl k) q []
def EF(k q:Nat):Cd bD:=oz (li k) f45 4 (xj k) q [EG k k]
def EE(k q:Nat):Cd bD:=oz (li k) f45 2 (xi k) q [EF k k]
def DH(k q:Nat):Cd bD:=oz (li k) f45 10 (vH k) q []
def EH(k q:Nat):Cd bD:=oz (li k) f45 8 (xm k) q [DH k k]
def Jh(k:Nat):Cl bD:=mY (li k) 45 f45 func45 call45 [500000] ⟨⟨110,[(93,13)],[lD 93 0 sN,lD 93 1 sA,lD 93 2 sS,lD 93 3 sF,lF 93 4 I,lF 93 5 I,lD 93 6 sI,lD 93 7 sI,lD 93 8 sB,lD 93 9 sE,lD 93 10 sQ,lD 93 11 sL,lD 93 12 sB],[rP 0 93],[]⟩,[.ret [(.r 500000,.h .ez .bool)] []],fun c v=>ur k c.2.2.2.1 c.2.2.2.2.2.2.1 c.2.2.2.2.2.2.2.2.2.1⟩ [ED k k,EE k k,EH k k]
end
end Go.Fx.R5
namespace Go.Fx.R5
open Go Go.Fx Go.Proofs Go.Proofs.Tryz
noncomputable section
def oR(q:Nat):Nat→XN→XA→XS→XF→XF→Int→XI→XI→Int→Option (XI×XI×Unit)
 |0,_,_,_,_,_,_,_,_,_=>none
 |k + 1,aA,gn,gg,jy,Yl,R9,lV,jA,L8=>
  bif decide (L8 < R9) then
   (bK Yl L8).bind fun x1=>
   (gc q aA gn gg jy lV jA [] [] [] [] [] [] [] x1 x1.2.2.2.2).bind fun r3=>
   oR q k aA gn gg jy Yl R9 r3.1 r3.2.1 (dP (L8 + 1))
  else
   some (lV,jA,())
def oS(q:Nat):Nat→XN→XA→XS→XF→XI→XI→Int→Int→XI→XI→XB→XE→XQ→Int→Option (Int×XI×XI×XB×XE×XQ×Unit)
 |0,_,_,_,_,_,_,_,_,_,_,_,_,_,_=>none
 |k + 1,aA,gn,gg,jy,lV,jA,adl,fn,gW,iJ,kV,gC,laid,abL=>
  bif decide (abL < adl) then
   (qO q gW iJ kV gC laid aA gn gg jy lV jA [] [] [] [] [] [] [] abL).bind fun r3=>
   oS q k aA gn gg jy lV jA adl r3.1 r3.2.1 r3.2.2.1 r3.2.2.2.1 r3.2.2.2.2.1 r3.2.2.2.2.2.1 (dP (abL + 1))
  else
   some (fn,gW,iJ,kV,gC,laid,())
def oT(q:Nat):Nat→XE→Int→XL→Int→Option (XL×Unit)
 |0,_,_,_,_=>none
 |k + 1,aaq,aar,out,UH=>
  bif decide (UH < aar) then
   (bK aaq UH).bind fun x1=>
   (bK out x1.1).bind fun x2=>
   (bK out (x1.1.toNat:Int)).bind fun x3=>
   (bK out (x1.1.toNat:Int)).bind fun e=>
   (lM e ([UH])).bind fun l5=>
   (bK out x1.1).bind fun x4=>
   bif Nat.beq x1.1.toNat x1.1.toNat && true then
    oT q k aaq aar (List.set out x1.1.toNat l5) (dP (UH + 1))
   else
    none
  else
   some (out,())
def wu(k:Nat)(ck:ao):Option (((XN×XA×XS×XF×XI×XI×XI×XI×XB×XE×XQ×XL×XB×(Int×Int)×Unit)⊕((Int×Int)×Unit))):=
 (oX k ck).bind fun r1=>
 bif r1.2.1.1 != 0 then
  some (.inr (r1.2.1,()))
 else
  (iM k r1.1).bind fun r2=>
  bif r2.2.1.1 != 0 then
   some (.inr (r2.2.1,()))
  else
   (mkl (r1.1.length:Int) (0:Int)).bind fun z=>
   (sub z 0 (r1.1.length:Int)).bind fun l=>
   (mkl (r1.1.length:Int) (0:Int)).bind fun z2=>
   (sub z2 0 (r1.1.length:Int)).bind fun l2=>
   (oR k k r1.1 r2.1.1 r2.1.2.1 r2.1.2.2 r2.1.2.2 (r2.1.2.2.length:Int) l l2 0).bind fun o=>
   (mkl (r1.1.length:Int) ((0,0,0,0):Int×Int×Int×Int)).bind fun z3=>
   (sub z3 0 (r1.1.length:Int)).bind fun l3=>
   (oS k k r1.1 r2.1.1 r2.1.2.1 r2.1.2.2 o.1 o.2.1 (r2.1.2.2.length:Int) 0 [] [] [] [] l3 0).bind fun o2=>
   (mkl (o2.2.1.length:Int) ([]:XI)).bind fun z4=>
   (sub z4 0 (o2.2.1.length:Int)).bind fun l4=>
   (oT k k o2.2.2.2.2.1 (o2.2.2.2.2.1.length:Int) l4 0).bind fun o3=>
   (ur k r2.1.2.2 o2.2.1 o2.2.2.2.2.1).bind fun r3=>
   some (.inl (r1.1,r2.1.1,r2.1.2.1,r2.1.2.2,o.1,o.2.1,o2.2.1,o2.2.2.1,o2.2.2.2.1,o2.2.2.2.2.1,o2.2.2.2.2.2.1,o3.1,r3.1,(0,0),()))
def CI(k:Nat):m9:=⟨⟨138,[(35,3),(37,2),(93,13)],[lD 35 0 sA,lD 35 1 sS,lD 35 2 sF,lI 37 0,lI 37 1,lD 93 0 sN,lD 93 1 sA,lD 93 2 sS,lD 93 3 sF,lN 93 6,lN 93 7,lN 93 8,lN 93 9,lN 93 10,lN 93 11,lN 93 12,rP 3 37,rD 4 sN,rP 6 35,rP 7 93,rD 49 sF,rI 50],[lF 93 4 I,lF 93 5 I,rI 51],[]⟩,[.ex (.exit 0) [lF 93 4 I,lF 93 5 I]],fun q c v=>oR k q c.2.2.2.2.2.1 c.2.2.2.2.2.2.1 c.2.2.2.2.2.2.2.1 c.2.2.2.2.2.2.2.2.1 c.2.2.2.2.2.2.2.2.2.2.2.2.2.2.2.2.2.2.2.2.1 c.2.2.2.2.2.2.2.2.2.2.2.2.2.2.2.2.2.2.2.2.2.1 v.1 v.2.1 v.2.2.1⟩
def CJ(k:Nat):m9:=⟨⟨138,[(35,3),(37,2),(93,13),(97,7)],[lD 35 0 sA,lD 35 1 sS,lD 35 2 sF,lI 37 0,lI 37 1,lD 93 0 sN,lD 93 1 sA,lD 93 2 sS,lD 93 3 sF,lF 93 4 I,lF 93 5 I,lN 93 6,lN 93 7,lN 93 8,lN 93 9,lN 93 10,lN 93 11,lN 93 12,(.l 97 0,.lit (.mT 93 0)),rP 3 37,rP 7 93,rP 10 97,rI 69],[lI 97 1,lF 97 2 I,lF 97 3 I,lF 97 4 .bool,lF 97 5 tE,lF 97 6 tQ,rI 70],[]⟩,[.ex (.exit 2) [lI 97 1,lF 97 2 I,lF 97 3 I,lF 97 4 .bool,lF 97 5 tE,lF 97 6 tQ]],fun q c v=>oS k q c.2.2.2.2.2.1 c.2.2.2.2.2.2.1 c.2.2.2.2.2.2.2.1 c.2.2.2.2.2.2.2.2.1 c.2.2.2.2.2.2.2.2.2.1 c.2.2.2.2.2.2.2.2.2.2.1 c.2.2.2.2.2.2.2.2.2.2.2.2.2.2.2.2.2.2.2.2.2.2.1 v.1 v.2.1 v.2.2.1 v.2.2.2.1 v.2.2.2.2.1 v.2.2.2.2.2.1 v.2.2.2.2.2.2.1⟩
def CK(k:Nat):m9:=⟨⟨138,[(35,3),(37,2),(93,13),(97,7)],[lD 35 0 sA,lD 35 1 sS,lD 35 2 sF,lI 37 0,lI 37 1,lD 93 0 sN,lD 93 1 sA,lD 93 2 sS,lD 93 3 sF,lF 93 4 I,lF 93 5 I,lD 93 6 sI,lD 93 7 sI,lD 93 8 sB,lD 93 9 sE,lD 93 10 sQ,lN 93 12,(.l 97 0,.lit (.mT 93 0)),lI 97 1,lD 97 2 sI,lD 97 3 sI,lD 97 4 sB,lD 97 5 sE,lD 97 6 sQ,rP 3 37,rP 7 93,rD 105 sE,rI 106],[lU 93 11 sI,rI 107],[]⟩,[.ex (.exit 4) [lU 93 11 sI]],fun q c v=>oT k q c.2.2.2.2.2.2.2.2.2.2.2.2.2.2.2.2.2.2.2.2.2.2.2.2.2.2.1 c.2.2.2.2.2.2.2.2.2.2.2.2.2.2.2.2.2.2.2.2.2.2.2.2.2.2.2.1 v.1 v.2.1⟩
def yi(k:Nat):Ev bD:=⟨[Qv k,Jl k,DU k,BP k,Jh k],[lp 0 (CI k) k,lp 2 (CJ k) k,lp 4 (CK k) k],[(3,37),(6,35),(35,93),(66,97),(98,9999)]⟩
def Kn(k q:Nat):Cd bD:=oz (yi k) f23 0 (CI k) q []
def Ko(k q:Nat):Cd bD:=oz (yi k) f23 2 (CJ k) q []
def Kp(k q:Nat):Cd bD:=oz (yi k) f23 4 (CK k) q []
def Qs(k:Nat):Cl bD:=mY (yi k) 23 f23 func23 call23 [500000,500001] ⟨⟨138,[],[],[rD 0 .str],[]⟩,[.ret [rP 500000 93,lD 93 0 sN,lD 93 1 sA,lD 93 2 sS,lD 93 3 sF,lF 93 4 I,lF 93 5 I,lD 93 6 sI,lD 93 7 sI,lD 93 8 sB,lD 93 9 sE,lD 93 10 sQ,lD 93 11 sL,lD 93 12 sB,rD 500001 tP] [(93,13,93)],.ret [(.r 500000,.lit .Ir),rD 500001 tP] []],fun c v=>wu k v.1⟩ [Kn k k,Ko k k,Kp k k]
def lS(q:Nat):Nat→XA→Int→XI→Int→Option (XI×Unit)
 |0,_,_,_,_=>none
 |k + 1,VC,ac8,Of,JV=>
  bif decide (JV < ac8) then
   (bK VC JV).bind fun x1=>
   (lM Of ([(dP (x1.2 - 1)),x1.2])).bind fun l=>
   lS q k VC ac8 l (dP (JV + 1))
  else
   some (Of,())
def lT(q:Nat):Nat→XN→Int→XI→Int→Option (XI×Unit)
 |0,_,_,_,_=>none
 |k + 1,Yi,Tp,Of,abJ=>
  bif decide (abJ < Tp) then
   aa (fun(abF:XI)=>
    lT q k Yi Tp abF (dP (abJ + 1))) fun cL=>
   (bK Yi abJ).bind fun x1=>
   bif x1.1 == 24 then
    (lM Of ([(dP (x1.2.2.1 - 1)),x1.2.2.1,(dP (x1.2.2.1 + 1)),(dP ((dP (0 - x1.2.2.1)) - 1)),(dP (0 - x1.2.2.1)),(dP (1 - x1.2.2.1))])).bind fun l=>
    cL l
   else
    cL Of
  else
   some (Of,())
def qp(k:Nat)(aA:XN)(aH:XA):Option (XI×Unit):=
 (lS k k aH (aH.length:Int) [] 0).bind fun o=>
 (lT k k aA (aA.length:Int) o.1 0).bind fun o2=>
 some (o2.1,())
def tL(k:Nat):m9:=⟨⟨59,[(93,13)],[lD 93 0 sN,lD 93 1 sA,lD 93 2 sS,lD 93 3 sF,lF 93 4 I,lF 93 5 I,lD 93 6 sI,lD 93 7 sI,lD 93 8 sB,lD 93 9 sE,lD 93 10 sQ,lD 93 11 sL,lD 93 12 sB,rP 0 93,rD 13 sA,rI 14],[(.r 3,.h .ez I),rI 15],[]⟩,[.ex (.exit 0) [(.r 3,.h .ez I)]],fun q c v=>lS k q c.2.2.2.2.2.2.2.2.2.2.2.2.2.2.1 c.2.2.2.2.2.2.2.2.2.2.2.2.2.2.2.1 v.1 v.2.1⟩
def tO(k:Nat):m9:=⟨⟨59,[(93,13)],[lD 93 0 sN,lD 93 1 sA,lD 93 2 sS,lD 93 3 sF,lF 93 4 I,lF 93 5 I,lD 93 6 sI,lD 93 7 sI,lD 93 8 sB,lD 93 9 sE,lD 93 10 sQ,lD 93 11 sL,lD 93 12 sB,rD 31 sN,rI 32],[(.r 3,.h .ez I),rI 33],[]⟩,[.ex (.exit 2) [(.r 3,.h .ez I)]],fun q c v=>lT k q c.2.2.2.2.2.2.2.2.2.2.2.2.2.1 c.2.2.2.2.2.2.2.2.2.2.2.2.2.2.1 v.1 v.2.1⟩
def rO(k:Nat):Ev bD:=⟨[],[lp 0 (tL k) k,lp 2 (tO k) k],[]⟩
def BI(k q:Nat):Cd bD:=oz (rO k) f24 0 (tL k) q []
def BJ(k q:Nat):Cd bD:=oz (rO k) f24 2 (tO k) q []
def E0(k:Nat):Cl bD:=mY (rO k) 24 f24 func24 call24 [500000] ⟨⟨59,[(93,13)],[lD 93 0 sN,lD 93 1 sA,lD 93 2 sS,lD 93 3 sF,lF 93 4 I,lF 93 5 I,lD 93 6 sI,lD 93 7 sI,lD 93 8 sB,lD 93 9 sE,lD 93 10 sQ,lD 93 11 sL,lD 93 12 sB],[rP 0 93],[]⟩,[.ret [(.r 500000,.h .ez I)] []],fun c v=>qp k c.1 c.2.1⟩ [BI k k,BJ k k]
def kj(k:Nat)(ck:ao):Option (XI×Unit):=
 (wu k ck).bind fun r=>match r with
 |.inl r1=>
  bif r1.2.2.2.2.2.2.2.2.2.2.2.2.2.1.1 != 0 then
   some ([],())
  else
   (qp k r1.1 r1.2.1).bind fun r3=>
   some (r3.1,())
 |.inr r2=>
  bif r2.1.1 != 0 then
   some ([],())
  else
   none
def EZ(k:Nat):Cl bD:=mY ⟨[Qs k,E0 k],[],[(4,37)]⟩ 8 f8 func8 call8 [500000] ⟨⟨15,[],[],[rD 0 .str],[]⟩,[.ret [(.r 500000,.h .ez I)] []],fun c v=>kj k v.1⟩ []
def mD(q:Nat):Nat→XI→XI→Int→Option (((Unit)⊕(Bool×Unit)))
 |0,_,_,_=>none
 |k + 1,a2,b2,i1=>
  bif decide (i1 < (a2.length:Int)) then
   (bK a2 i1).bind fun x1=>
   (bK b2 i1).bind fun x2=>
   bif x1 != x2 then
    some (.inr (false,()))
   else
    mD q k a2 b2 (dP (i1 + 1))
  else
   some (.inl ())
def uT(k:Nat)(a b:XI):Option (Bool×Unit):=
 bif (a.length:Int) != (b.length:Int) then
  some (false,())
 else
  (mD k k a b 0).bind fun r=>match r with
  |.inl o=>
   some (true,())
  |.inr o2=>
   some (o2.1,())
def zV(k:Nat):m9:=⟨⟨26,[],[rD 0 sI,rD 1 sI],[rI 5],[]⟩,[.ex (.exit 0) [],.ex .ret [rD 4 .bool]],fun q c v=>mD k q c.1 c.2.1 v.1⟩
def Eb(k:Nat):Ev bD:=⟨[],[lp 0 (zV k) k],[]⟩
def Hx(k q:Nat):Cd bD:=oz (Eb k) f9 0 (zV k) q []
def Mv(k:Nat):Cl bD:=zd (Eb k) 9 f9 func9 call9 [sI,sI] [.bool] (fun d=>uT k d.1 d.2.1) [Hx k k]
def kw(q:Nat):Nat→XI→Int→Int→Option (XI×Int×Unit)
 |0,_,_,_=>none
 |k + 1,a2,k2,i1=>
  bif decide (i1 < (a2.length:Int)) then
   (bK a2 i1).bind fun x1=>
   (bK a2 (i1.toNat:Int)).bind fun x2=>
   kw q k (List.set a2 i1.toNat k2) (dP (k2 + 1)) (dP (i1 + 1))
  else
   some (a2,k2,())
def uw(k:Nat)(a:XI)(k1:Int):Option (Int×XI×Unit):=
 (kw k k a k1 0).bind fun o=>
 some (o.2.1,o.1,())
def xw(k:Nat):m9:=⟨⟨19,[],[],[(.r 0,.h .ez I),rI 1,rI 5],[1000000]⟩,[.ex (.exit 0) [(.r 0,.h .ez I),rI 1]],fun q c v=>kw k q v.1 v.2.1 v.2.2.1⟩
def A8(k:Nat):Ev bD:=⟨[],[lp 0 (xw k) k],[]⟩
def EQ(k q:Nat):Cd bD:=oz (A8 k) f10 0 (xw k) q []
def Jn(k:Nat):Cl bD:=mY (A8 k) 10 f10 func10 call10 [500000] ⟨⟨19,[],[],[(.r 0,.h .ez I),rI 1],[1000000]⟩,[.ret [rI 500000,(.r 0,.h .ez I)] []],fun c v=>uw k v.1 v.2.1⟩ [EQ k k]
def kv(q:Nat):Nat→XI→Int→Int→Option (((Int×Unit)⊕(Int×Unit)))
 |0,_,_,_=>none
 |k + 1,a2,k2,i1=>
  bif decide (i1 < (a2.length:Int)) then
   (bK a2 i1).bind fun x1=>
   bif x1 != k2 then
    some (.inr ((-1),()))
   else
    kv q k a2 (dP (k2 + 1)) (dP (i1 + 1))
  else
   some (.inl (k2,()))
def rh(k:Nat)(a:XI)(k1:Int):Option (Int×Unit):=
 (kv k k a k1 0).bind fun r=>match r with
 |.inl o=>
  some (o.1,())
 |.inr o2=>
  some (o2.1,())
def xv(k:Nat):m9:=⟨⟨21,[],[rD 0 sI],[rI 1,rI 5],[]⟩,[.ex (.exit 0) [rI 1],.ex .ret [rI 4]],fun q c v=>kv k q c.1 v.1 v.2.1⟩
def A7(k:Nat):Ev bD:=⟨[],[lp 0 (xv k) k],[]⟩
def EP(k q:Nat):Cd bD:=oz (A7 k) f11 0 (xv k) q []
def Jm(k:Nat):Cl bD:=zd (A7 k) 11 f11 func11 call11 [sI,I] [I] (fun d=>rh k d.1 d.2.1) [EP k k]
def lh(k:Nat)(TA:ao):Option (Bool×Unit):=
 bif decide ((TA.length:Int) > 1048576) then
  some (true,())
 else
  (mn k TA).bind fun r1=>
  (kj k TA).bind fun r2=>
  (uT k r2.1 r1.1).bind fun r3=>
  bif !r3.1 then
   some (false,())
  else
   (uw k r2.1 1).bind fun r4=>
   (rh k r4.2.1 1).bind fun r5=>
   bif decide (r5.1 < 0) then
    some (false,())
   else
    bif r5.1 != r4.1 then
     some (false,())
    else
     (kj k TA).bind fun r6=>
     (uT k r6.1 r1.1).bind fun r7=>
     bif !r7.1 then
      some (false,())
     else
      (rh k r4.2.1 1).bind fun r8=>
      bif decide (r8.1 < 0) then
       some (false,())
      else
       bif r8.1 != r4.1 then
        some (false,())
       else
        some (true,())
def xY(k:Nat):Cl bD:=zd ⟨[E7 k,EZ k,Mv k,Jn k,Jm k],[],[]⟩ 3 f3 func3 call3 [.str] [.bool] (fun d=>lh k d.1) []
end
end Go.Fx.R5
