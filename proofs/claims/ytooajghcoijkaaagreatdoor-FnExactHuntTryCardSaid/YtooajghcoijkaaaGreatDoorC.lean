/- Proved here: laws.FnExactHuntTry returns true at every input (the tied card), no condition beyond the card. -/
import Derived.Shelf.Strconv.Atoi
import Derived.Shelf.LaysM
import Derived.Shelf.Strconv.Clone
import Derived.Shelf.Strings.Prefix
import Derived.Test.YtooajghcoijkaaaGreatDoorProg
import Derived.Test.YtooajghcoijkaaaGreatDoorChecked
import Derived.WalkKit
import Derived.Recover
import Derived.Laws.Pointers
import Derived.Test.YtooajghcoijkaaaGreatDoorFc
set_option linter.unusedVariables false
set_option linter.unusedSimpArgs false
set_option linter.unusedSectionVars false
set_option maxRecDepth 100000
namespace Go.Proofs
open Go.Shelf
def Tryz.R2:Go.Shelf.Ren:=⟨fun | 172=>156 | 244=>162 | 245=>163 | 247=>171 | 279=>172 | 280=>173 | 281=>174 | 282=>175 | 287=>181 | 316=>155 | 171=>183 | 205=>182 | 321=>186 | 322=>187 | 243=>188 | 246=>190 | 283=>191 | 284=>192 | 285=>193 | 286=>194 | 129=>196 | 317=>195 | 318=>197 | 319=>198 | 320=>199 | 337=>200 | 338=>201 | n=>n,fun | 9=>9 | 3=>3 | 75=>172 | 76=>173 | 4=>4 | 5=>5 | 167=>179 | 37=>29 | 0=>0 | 85=>180 | 2=>2 | 168=>182 | 53=>187 | 175=>188 | 46=>190 | 210=>192 | 127=>177 | 145=>198 | 143=>196 | 21=>21 | 171=>201 | 173=>204 | 212=>206 | 51=>207 | 20=>20 | 213=>208 | 232=>211 | 233=>212 | 80=>114 | n=>n,fun | 15=>1 | 16=>2 | 17=>5 | 18=>6 | 19=>7 | n=>n⟩
theorem Tryz.ZT:Go.Proofs.Lays.n172 Tryz.prog Tryz.R2:={
 mixed:=by kernel_rfl
 f129:=Tryz.func196.trans (congrArg some (by kernel_rfl))
 f171:=Tryz.func183.trans (congrArg some (by kernel_rfl))
 f172:=Tryz.func156.trans (congrArg some (by kernel_rfl))
 f205:=Tryz.func182.trans (congrArg some (by kernel_rfl))
 f243:=Tryz.func188.trans (congrArg some (by kernel_rfl))
 f244:=Tryz.func162.trans (congrArg some (by kernel_rfl))
 f245:=Tryz.func163.trans (congrArg some (by kernel_rfl))
 f246:=Tryz.func190.trans (congrArg some (by kernel_rfl))
 f247:=Tryz.func171.trans (congrArg some (by kernel_rfl))
 f279:=Tryz.func172.trans (congrArg some (by kernel_rfl))
 f280:=Tryz.func173.trans (congrArg some (by kernel_rfl))
 f281:=Tryz.func174.trans (congrArg some (by kernel_rfl))
 f282:=Tryz.func175.trans (congrArg some (by kernel_rfl))
 f283:=Tryz.func191.trans (congrArg some (by kernel_rfl))
 f284:=Tryz.func192.trans (congrArg some (by kernel_rfl))
 f285:=Tryz.func193.trans (congrArg some (by kernel_rfl))
 f286:=Tryz.func194.trans (congrArg some (by kernel_rfl))
 f287:=Tryz.func181.trans (congrArg some (by kernel_rfl))
 f316:=Tryz.func155.trans (congrArg some (by kernel_rfl))
 f317:=Tryz.func195.trans (congrArg some (by kernel_rfl))
 f318:=Tryz.func197.trans (congrArg some (by kernel_rfl))
 f319:=Tryz.func198.trans (congrArg some (by kernel_rfl))
 f320:=Tryz.func199.trans (congrArg some (by kernel_rfl))
 f321:=Tryz.func186.trans (congrArg some (by kernel_rfl))
 f322:=Tryz.func187.trans (congrArg some (by kernel_rfl))
 f337:=Tryz.func200.trans (congrArg some (by kernel_rfl))
 f338:=Tryz.func201.trans (congrArg some (by kernel_rfl))
 t0:=Tryz.underlying0
 a0:=Tryz.isAgg0
 z0:=Tryz.sizeOf0
 v0:=Tryz.zeroValue0
 t2:=Tryz.underlying2
 a2:=Tryz.isAgg2
 z2:=Tryz.sizeOf2
 v2:=Tryz.zeroValue2
 t3:=Tryz.underlying3
 a3:=Tryz.isAgg3
 z3:=Tryz.sizeOf3
 v3:=Tryz.zeroValue3
 t4:=Tryz.underlying4
 a4:=Tryz.isAgg4
 z4:=Tryz.sizeOf4
 v4:=Tryz.zeroValue4
 t5:=Tryz.underlying5
 a5:=Tryz.isAgg5
 z5:=Tryz.sizeOf5
 v5:=Tryz.zeroValue5
 t9:=Tryz.underlying9
 a9:=Tryz.isAgg9
 z9:=Tryz.sizeOf9
 v9:=Tryz.zeroValue9
 t20:=Tryz.underlying20
 a20:=Tryz.isAgg20
 z20:=Tryz.sizeOf20
 v20:=Tryz.zeroValue20
 t21:=Tryz.underlying21
 a21:=Tryz.isAgg21
 z21:=Tryz.sizeOf21
 v21:=Tryz.zeroValue21
 t37:=Tryz.underlying29
 a37:=Tryz.isAgg29
 z37:=Tryz.sizeOf29
 v37:=Tryz.zeroValue29
 t46:=Tryz.underlying190
 a46:=Tryz.isAgg190
 z46:=Tryz.sizeOf190
 v46:=Tryz.zeroValue190
 t51:=Tryz.underlying207
 a51:=Tryz.isAgg207
 z51:=Tryz.sizeOf207
 v51:=Tryz.zeroValue207
 t53:=Tryz.underlying187
 a53:=Tryz.isAgg187
 z53:=Tryz.sizeOf187
 v53:=Tryz.zeroValue187
 t75:=Tryz.underlying172
 a75:=Tryz.isAgg172
 z75:=Tryz.sizeOf172
 v75:=Tryz.zeroValue172
 t76:=Tryz.underlying173
 a76:=Tryz.isAgg173
 z76:=Tryz.sizeOf173
 v76:=Tryz.zeroValue173
 t85:=Tryz.underlying180
 a85:=Tryz.isAgg180
 z85:=Tryz.sizeOf180
 v85:=Tryz.zeroValue180
 t127:=Tryz.underlying177
 a127:=Tryz.isAgg177
 z127:=Tryz.sizeOf177
 v127:=Tryz.zeroValue177
 t143:=Tryz.underlying196
 a143:=Tryz.isAgg196
 z143:=Tryz.sizeOf196
 v143:=Tryz.zeroValue196
 t145:=Tryz.underlying198
 a145:=Tryz.isAgg198
 z145:=Tryz.sizeOf198
 v145:=Tryz.zeroValue198
 t167:=Tryz.underlying179
 a167:=Tryz.isAgg179
 z167:=Tryz.sizeOf179
 v167:=Tryz.zeroValue179
 t168:=Tryz.underlying182
 a168:=Tryz.isAgg182
 z168:=Tryz.sizeOf182
 v168:=Tryz.zeroValue182
 t171:=Tryz.underlying201
 a171:=Tryz.isAgg201
 z171:=Tryz.sizeOf201
 v171:=Tryz.zeroValue201
 t173:=Tryz.underlying204
 a173:=Tryz.isAgg204
 z173:=Tryz.sizeOf204
 v173:=Tryz.zeroValue204
 t175:=Tryz.underlying188
 a175:=Tryz.isAgg188
 z175:=Tryz.sizeOf188
 v175:=Tryz.zeroValue188
 t210:=Tryz.underlying192
 a210:=Tryz.isAgg192
 z210:=Tryz.sizeOf192
 v210:=Tryz.zeroValue192
 t212:=Tryz.underlying206
 a212:=Tryz.isAgg206
 z212:=Tryz.sizeOf206
 v212:=Tryz.zeroValue206
 t213:=Tryz.underlying208
 a213:=Tryz.isAgg208
 z213:=Tryz.sizeOf208
 t232:=Tryz.underlying211
 a232:=Tryz.isAgg211
 z232:=Tryz.sizeOf211
 v232:=Tryz.zeroValue211
 t233:=Tryz.underlying212
 a233:=Tryz.isAgg212
 z233:=Tryz.sizeOf212
 v233:=Tryz.zeroValue212
 g15:=by kernel_rfl
 g16:=by kernel_rfl
 g17:=by kernel_rfl
 g18:=by kernel_rfl
 g19:=by kernel_rfl}
open Go.RowKit in
theorem Tryz.strconv_Atoi(s:ByteArray)(n:Int)(hl:s.size≤18)(h:Lib.atoi s.data.toList=some n)(w:World):
 Calls Tryz.prog 156 #[.string s] w fun e w'=>e = .returned (.tuple #[.int .i64 n,.nilIface])∧∃ t,w' = Lib.bytesWorld w 5 t:=Any.strconv_Atoi Tryz.ZT s n hl h w
def Tryz.Qe:Go.Shelf.Ren:=⟨fun | 316=>155 | n=>n,fun | 9=>9 | 3=>3 | 4=>4 | 37=>29 | 0=>0 | 127=>177 | 5=>5 | n=>n,fun | n=>n⟩
theorem Tryz.X7:Go.Proofs.LaysM.n316 Tryz.prog Tryz.Qe:={
 mixed:=by kernel_rfl
 f316:=Tryz.func155.trans (congrArg some (by kernel_rfl))
 t0:=Tryz.underlying0
 a0:=Tryz.isAgg0
 z0:=Tryz.sizeOf0
 v0:=Tryz.zeroValue0
 t3:=Tryz.underlying3
 a3:=Tryz.isAgg3
 z3:=Tryz.sizeOf3
 v3:=Tryz.zeroValue3
 t4:=Tryz.underlying4
 a4:=Tryz.isAgg4
 z4:=Tryz.sizeOf4
 v4:=Tryz.zeroValue4
 t9:=Tryz.underlying9
 a9:=Tryz.isAgg9
 z9:=Tryz.sizeOf9
 v9:=Tryz.zeroValue9
 t37:=Tryz.underlying29
 a37:=Tryz.isAgg29
 z37:=Tryz.sizeOf29
 v37:=Tryz.zeroValue29
 t127:=Tryz.underlying177
 a127:=Tryz.isAgg177
 z127:=Tryz.sizeOf177
 v127:=Tryz.zeroValue177
 t5:=Tryz.underlying5
 a5:=Tryz.isAgg5
 z5:=Tryz.sizeOf5
 v5:=Tryz.zeroValue5
 i0:=by kernel_rfl
 i3:=by kernel_rfl
 i4:=by kernel_rfl
 i5:=by kernel_rfl
 i9:=by kernel_rfl
 i37:=by kernel_rfl
 i127:=by kernel_rfl}
open Go.RowKit in
theorem Tryz.stringslite_Clone(s:ByteArray)(w:World)(Kt:s.size≤281474976710656):
 Calls Tryz.prog 155 #[.string s] w fun e w'=>e = .returned (.string s)∧Below w.heap.size w w':=Any.stringslite_Clone Tryz.X7 s w Kt
def Tryz.TC:Go.Shelf.Ren:=⟨fun | 99=>157 | 206=>164 | n=>n,fun | 9=>9 | 4=>4 | 3=>3 | n=>n,fun | n=>n⟩
theorem Tryz.acd:Go.Proofs.Lays.n99 Tryz.prog Tryz.TC:={
 mixed:=by kernel_rfl
 f99:=Tryz.func157.trans (congrArg some (by kernel_rfl))
 f206:=Tryz.func164.trans (congrArg some (by kernel_rfl))
 t3:=Tryz.underlying3
 a3:=Tryz.isAgg3
 z3:=Tryz.sizeOf3
 v3:=Tryz.zeroValue3
 t4:=Tryz.underlying4
 a4:=Tryz.isAgg4
 z4:=Tryz.sizeOf4
 v4:=Tryz.zeroValue4
 t9:=Tryz.underlying9
 a9:=Tryz.isAgg9
 z9:=Tryz.sizeOf9
 v9:=Tryz.zeroValue9}
open Go.RowKit Go.Lib in
theorem Tryz.strings_HasPrefix(s p:ByteArray)(w:World):
 Calls Tryz.prog 157 #[.string s,.string p] w fun e w'=>e = .returned (.bool (Lib.hasPrefix s.data.toList p.data.toList))∧w' = w:=Any.strings_HasPrefix Tryz.acd s p w
end Go.Proofs
namespace Go.Proofs
open Go.Shelf Go.RowKit
set_option maxHeartbeats 4000000
theorem Mk(s:ByteArray)(w:World)(hs:0 < s.size)(h:(1 < s.size∧(s[0]'hs).toNat=48)∨10 < s.size):
  Calls Tryz.prog 127 #[.string s] w fun e w'=>e = .returned (.tuple #[.int .i64 0,.bool false])∧w' = w:=by
 go_enter Tryz.func127,Tryz.ntmps127
 go_wp2_with fail
 all_goals first
  |(go_ret2;exact⟨rfl,rfl⟩)
  |(exfalso;rcases h with ⟨h1,h2⟩ | h1<;>simp_all<;>omega)
  |skip
theorem Kx(s:ByteArray)(w:World)(hs:0 < s.size)(h1:1 < s.size→(s[0]'hs).toNat≠48)(h2:s.size≤10)(n:Int)(hn:Lib.atoi s.data.toList=some n):
  Calls Tryz.prog 127 #[.string s] w fun e w'=>e = .returned (.tuple (bif decide (2147483647 < n) then #[.int .i64 0,.bool false] else #[.int .i64 n,.bool true]))∧∃ t,w' = Lib.bytesWorld w 5 t:=by
 go_enter Tryz.func127,Tryz.ntmps127
 go_wp2_with (go_at_call 156;refine(Tryz.strconv_Atoi s n (by omega) hn w).mono ?_;rintro e w' ⟨rfl,t,rfl⟩)
 all_goals first
  |(exfalso;simp_all<;>omega)
  |(go_ret2;refine⟨?_,_,rfl⟩;rename_i hh;simp only [hh,decide_true,cond_true];rfl)
  |(go_ret2;refine⟨?_,_,rfl⟩;rename_i hh;simp only [show ¬ 2147483647 < n by omega,decide_false,cond_false];rfl)
  |skip
end Go.Proofs
namespace Go.Fx.R5
open Go Go.Proofs
theorem acO(w:World):(Instr.typeAssert .nilIface 20 128 true).run Tryz.prog w = .ok (.tuple #[.agg #[.int .i64 0,.int .i64 0],.bool false]) w:=by kernel_rfl
theorem aat(u:Value)(w:World):(Instr.typeAssert (.iface 128 u) 20 128 true).run Tryz.prog w = .ok (.tuple #[u,.bool true]) w:=by kernel_rfl
def clA(p2 p3:Addr)(l:List Value):Act:={tmps:=(Value.pointer (some p2) :: Value.pointer (some p3) :: l).toArray,defers:=[]}
theorem Tp(p2 p3:Addr)(w:World):
  CallsD Tryz.prog 70 #[.pointer (some p2),.pointer (some p3)] .returning w fun e u' w'=>e = .returned (.tuple #[])∧u' = .returning∧w' = w.alloc (.cells #[.int .i64 0,.int .i64 0] 128):=by
 refine callsD_of_wpS Tryz.func70 rfl fun c₀ cs hu=>?_;show Code.wpS _ _ _ {tmps:=#[Value.pointer (some p2),Value.pointer (some p3),undef,undef,undef,undef,undef,undef,undef,undef,undef,undef],defers:=[]} _ _;apply wpS_seq;apply wpS_region;simp [wpOpsS,go_sem,recoverD,hu,Exit.thenS,acO];apply wpS_seq;apply wpS_region;simp [wpOpsS,go_sem,Exit.thenS];refine wpS_cond (t:=false) (by simp [Act.eval]) ?_
 simp only [Bool.false_eq_true,if_false];refine wpS_of_wp (wp_skip ?_);cases c₀;simp_all [bodyPostS,results,Tryz.results70]
theorem Kg(b2 o2 b3 o3:Nat)(c a:Int)(x y z:Value)(abf:List PanicEntry)(w:World)(hb:b2≠b3)(l2:b2 < w.heap.size)(l3:b3 < w.heap.size)(h2:w.cell? ⟨b2,o2,none⟩=some x)(z2:w.frozen? ⟨b2,o2,none⟩=false)(h3:w.cell? ⟨b3,o3,none⟩=some y)(z3:w.frozen? ⟨b3,o3,none⟩=false)(h4:w.cell? ⟨b3,o3 + 1,none⟩=some z)(z4:w.frozen? ⟨b3,o3 + 1,none⟩=false):
  CallsD Tryz.prog 70 #[.pointer (some ⟨b2,o2,none⟩),.pointer (some ⟨b3,o3,none⟩)] (.panicking ({v:=.iface 128 (.agg #[.int .i64 c,.int .i64 a]),recovered:=false} :: abf)) w fun e u' w'=>e = .returned (.tuple #[])∧u' = .panicking ({v:=.iface 128 (.agg #[.int .i64 c,.int .i64 a]),recovered:=true} :: abf)∧
   w' = ((((w.alloc (.cells #[.int .i64 c,.int .i64 a] 128)).setCell ⟨b2,o2,none⟩ (.slice none 0 0)).setCell ⟨b3,o3,none⟩ (.int .i64 c)).setCell ⟨b3,o3 + 1,none⟩ (.int .i64 a)).drew:=by
 refine callsD_of_wpS Tryz.func70 rfl fun c₀ cs hu=>?_;show Code.wpS _ _ _ {tmps:=#[Value.pointer (some ⟨b2,o2,none⟩),Value.pointer (some ⟨b3,o3,none⟩),undef,undef,undef,undef,undef,undef,undef,undef,undef,undef],defers:=[]} _ _;apply wpS_seq;apply wpS_region;simp [wpOpsS,go_sem,recoverD,hu,Exit.thenS,aat];apply wpS_seq;apply wpS_region;simp [wpOpsS,go_sem,Exit.thenS];refine wpS_cond (t:=true) (by simp [Act.eval]) ?_
 simp only [if_true];refine wpS_of_wp ?_;have q2:(w.alloc (.cells #[.int .i64 c,.int .i64 a] 128)).cell? ⟨b2,o2,none⟩=some x:=by rw [World.cell?_alloc_past _ _ _ l2];exact h2
 have q3:(w.alloc (.cells #[.int .i64 c,.int .i64 a] 128)).cell? ⟨b3,o3,none⟩=some y:=by rw [World.cell?_alloc_past _ _ _ l3];exact h3
 have q4:(w.alloc (.cells #[.int .i64 c,.int .i64 a] 128)).cell? ⟨b3,o3 + 1,none⟩=some z:=by rw [World.cell?_alloc_past _ _ _ l3];exact h4
 have r2:(w.alloc (.cells #[.int .i64 c,.int .i64 a] 128)).frozen? ⟨b2,o2,none⟩=false:=by rw [World.frozen?_alloc_past _ _ _ l2];exact z2
 have r3:(w.alloc (.cells #[.int .i64 c,.int .i64 a] 128)).frozen? ⟨b3,o3,none⟩=false:=by rw [World.frozen?_alloc_past _ _ _ l3];exact z3
 have r4:(w.alloc (.cells #[.int .i64 c,.int .i64 a] 128)).frozen? ⟨b3,o3 + 1,none⟩=false:=by rw [World.frozen?_alloc_past _ _ _ l3];exact z4
 have k0:(w.alloc (.cells #[.int .i64 c,.int .i64 a] 128)).cell? ⟨w.heap.size,0,none⟩=some (.int .i64 c):=by simp [go_sem]
 have k1:(w.alloc (.cells #[.int .i64 c,.int .i64 a] 128)).cell? ⟨w.heap.size,1,none⟩=some (.int .i64 a):=by simp [go_sem]
 have n2:b2≠w.heap.size:=Nat.ne_of_lt l2;have n3:b3≠w.heap.size:=Nat.ne_of_lt l3;generalize w.alloc (.cells #[.int .i64 c,.int .i64 a] 128)=W at *;generalize w.heap.size=B at *
 go_region
 cases c₀;simp_all [bodyPostS,results,Tryz.results70]
end Go.Fx.R5
namespace Go.Fx.R5
open Go Go.Fx Go.Proofs Go.Proofs.Tryz
noncomputable section
abbrev XN:=List (Int×Int×Int×an×List Int)
abbrev XF:=List (an×Int×List an×List an×Int)
abbrev XT:=List (Int×Int×an×Int)
abbrev XE:=List (Int×Int×Int×Int×Int)
abbrev XQ:=List (Int×Int×Int×Int)
abbrev XA:=List (an×Int)
abbrev XL:=List (List Int)
abbrev XS:=List an
abbrev XI:=List Int
abbrev XB:=List Bool
abbrev tN:Ty:=(.cY I (.cY I (.cY I (.cY .str (.slice I)))))
abbrev tF:Ty:=(.cY .str (.cY I (.cY (.slice .str) (.cY (.slice .str) I))))
abbrev tT:Ty:=(.cY I (.cY I (.cY .str I)))
abbrev tE:Ty:=(.cY I (.cY I (.cY I (.cY I I))))
abbrev tQ:Ty:=(.cY I (.cY I (.cY I I)))
abbrev tA:Ty:=(.cY .str I)
abbrev tP:Ty:=(.cY I I)
abbrev sN:Ty:=(.slice tN)
abbrev sF:Ty:=(.slice tF)
abbrev sT:Ty:=(.slice tT)
abbrev sE:Ty:=(.slice tE)
abbrev sQ:Ty:=(.slice tQ)
abbrev sA:Ty:=(.slice tA)
abbrev sL:Ty:=(.slice (.slice I))
abbrev sI:Ty:=(.slice I)
abbrev sS:Ty:=(.slice .str)
abbrev sB:Ty:=(.slice .bool)
abbrev tM:Ty:=(.cY sA (.cY sS sF))
abbrev tG:Ty:=(.cY (.slice .str) (.cY sS I))
theorem mix:prog.follows .mixedOrders=true:=by kernel_rfl
def wR:List an:=[[43,37],[45,37],[42,37],[60,60],[62,62],[61,61],[33,61],[60,61],[62,61],[46,46],[43,61],[43],[45],[42],[47],[37],[38],[124],[94],[60],[62],[61],[40],[41],[123],[125],[91],[93],[44],[59]]
def Nx:List an:=[[],[43],[45],[42],[47],[37],[38],[124],[94],[60,60],[62,62],[43,37],[45,37],[42,37]]
def gl4:List an:=[[],[61,61],[33,61],[60],[60,61],[62],[62,61]]
def gt:Nat→Option GA
 |0=>some ⟨.str,wR⟩
 |3=>some ⟨.str,Nx⟩
 |4=>some ⟨.str,gl4⟩
 |_=>none
noncomputable def afw:List (Tb prog):=[tb 3 t3 underlying3 ⟨1,8,some I,.int .i64,[.int .i64 0]⟩,
 tb 4 t4 underlying4 ⟨1,1,some .bool,.bool,[.bool false]⟩,
 tb 5 t5 underlying5 ⟨1,1,some U,.int .u8,[.int .u8 0]⟩,
 tb 9 t9 underlying9 ⟨1,16,some .str,.str,[.string ⟨#[]⟩]⟩,
 tb 22 t22 underlying22 ⟨1,24,some sI,.slice 3,[.slice none 0 0]⟩,
 tb 31 t31 underlying31 ⟨1,24,some sA,.slice 42,[.slice none 0 0]⟩,
 tb 32 t32 underlying32 ⟨1,24,some sS,.slice 9,[.slice none 0 0]⟩,
 tb 33 t33 underlying33 ⟨1,24,some sF,.slice 67,[.slice none 0 0]⟩,
 tb 35 t35 underlying35 ⟨3,72,some tM,.struct [(0,31),(1,32),(2,33)],[.slice none 0 0,.slice none 0 0,.slice none 0 0]⟩,
 tb 37 t37 underlying37 ⟨2,16,some tP,.struct [(0,3),(1,3)],[.int .i64 0,.int .i64 0]⟩,
 tb 42 t42 underlying42 ⟨2,24,some tA,.struct [(0,9),(1,3)],[.string ⟨#[]⟩,.int .i64 0]⟩,
 tb 43 t43 underlying43 ⟨1,24,some sN,.slice 47,[.slice none 0 0]⟩,
 tb 47 t47 underlying47 ⟨5,64,some tN,.struct [(0,3),(1,3),(2,3),(3,9),(4,22)],[.int .i64 0,.int .i64 0,.int .i64 0,.string ⟨#[]⟩,.slice none 0 0]⟩,
 tb 52 t52 underlying52 ⟨1,8,none,.mW 86,[.pointer none]⟩,
 tb 56 t56 underlying56 ⟨1,8,none,.mW 93,[.pointer none]⟩,
 tb 67 t67 underlying67 ⟨5,80,some tF,.struct [(0,9),(1,3),(2,32),(3,32),(4,3)],[.string ⟨#[]⟩,.int .i64 0,.slice none 0 0,.slice none 0 0,.int .i64 0]⟩,
 tb 68 t68 underlying68 ⟨1,8,none,.mW 70,[.pointer none]⟩,
 tb 70 t70 underlying70 ⟨8,152,some (.cY tM (.cY sN (.cY .str (.cY sS tP)))),.struct [(0,35),(3,43),(4,9),(5,32),(6,37)],[.slice none 0 0,.slice none 0 0,.slice none 0 0,.slice none 0 0,.string ⟨#[]⟩,.slice none 0 0,.int .i64 0,.int .i64 0]⟩,
 tb 72 t72 underlying72 ⟨1,24,some sT,.slice 110,[.slice none 0 0]⟩,
 tb 75 t75 underlying75 ⟨1,8,none,.mW 77,[.pointer none]⟩,
 tb 77 t77 underlying77 ⟨7,88,some (.cY sT (.cY I (.cY I (.cY sN (.cY I tP))))),.struct [(0,72),(1,3),(2,3),(3,43),(4,3),(5,37)],[.slice none 0 0,.int .i64 0,.int .i64 0,.slice none 0 0,.int .i64 0,.int .i64 0,.int .i64 0]⟩,
 tb 81 t81 underlying81 ⟨1,24,some sB,.slice 4,[.slice none 0 0]⟩,
 tb 82 t82 underlying82 ⟨1,24,some sE,.slice 99,[.slice none 0 0]⟩,
 tb 84 t84 underlying84 ⟨4,96,some (.cY sI (.cY sI (.cY sB sE))),.struct [(0,22),(1,22),(2,81),(3,82)],[.slice none 0 0,.slice none 0 0,.slice none 0 0,.slice none 0 0]⟩,
 tb 86 t86 underlying86 ⟨9,216,some (.cY tM (.cY sN (.cY (.cY sI (.cY sI (.cY sB sE))) sB))),.struct [(0,35),(3,43),(4,84),(8,81)],[.slice none 0 0,.slice none 0 0,.slice none 0 0,.slice none 0 0,.slice none 0 0,.slice none 0 0,.slice none 0 0,.slice none 0 0,.slice none 0 0]⟩,
 tb 90 t90 underlying90 ⟨1,24,some sQ,.slice 167,[.slice none 0 0]⟩,
 tb 91 t91 underlying91 ⟨1,24,some sL,.slice 22,[.slice none 0 0]⟩,
 tb 93 t93 underlying93 ⟨13,312,some (.cY sN (.cY tM (.cY sI (.cY sI (.cY (.cY sI (.cY sI (.cY sB sE))) (.cY sQ (.cY sL sB))))))),.struct [(0,43),(1,35),(4,22),(5,22),(6,84),(10,90),(11,91),(12,81)],[.slice none 0 0,.slice none 0 0,.slice none 0 0,.slice none 0 0,.slice none 0 0,.slice none 0 0,.slice none 0 0,.slice none 0 0,.slice none 0 0,.slice none 0 0,.slice none 0 0,.slice none 0 0,.slice none 0 0]⟩,
 tb 95 t95 underlying95 ⟨1,8,none,.mW 97,[.pointer none]⟩,
 tb 97 t97 underlying97 ⟨7,136,none,.struct [(0,56),(1,3),(2,84),(6,90)],[.pointer none,.int .i64 0,.slice none 0 0,.slice none 0 0,.slice none 0 0,.slice none 0 0,.slice none 0 0]⟩,
 tb 99 t99 underlying99 ⟨5,40,some tE,.struct [(0,3),(1,3),(2,3),(3,3),(4,3)],[.int .i64 0,.int .i64 0,.int .i64 0,.int .i64 0,.int .i64 0]⟩,
 tb 110 t110 underlying110 ⟨4,40,some tT,.struct [(0,3),(1,3),(2,9),(3,3)],[.int .i64 0,.int .i64 0,.string ⟨#[]⟩,.int .i64 0]⟩,
 tb 120 t120 underlying120 ⟨11,248,some (.cY tM (.cY sN (.cY I (.cY (.cY sI (.cY sI (.cY sB sE))) (.cY sI sI))))),.struct [(0,35),(3,43),(4,3),(5,84),(9,22),(10,22)],[.slice none 0 0,.slice none 0 0,.slice none 0 0,.slice none 0 0,.int .i64 0,.slice none 0 0,.slice none 0 0,.slice none 0 0,.slice none 0 0,.slice none 0 0,.slice none 0 0]⟩,
 tb 121 t121 underlying121 ⟨1,8,none,.mW 120,[.pointer none]⟩,
 tb 124 t124 underlying124 ⟨1,8,none,.mW 126,[.pointer none]⟩,
 tb 126 t126 underlying126 ⟨5,72,some (.cY sT (.cY I (.cY I (.cY I sN)))),.struct [(0,72),(1,3),(2,3),(3,3),(4,43)],[.slice none 0 0,.int .i64 0,.int .i64 0,.int .i64 0,.slice none 0 0]⟩,
 tb 128 t128 underlying128 ⟨2,16,some (.one tP),.struct [(0,37)],[.int .i64 0,.int .i64 0]⟩,
 tb 130 t130 underlying130 ⟨1,8,none,.mp 9 3,[.map none]⟩,
 tb 132 t132 underlying132 ⟨1,8,none,.mW 35,[.pointer none]⟩,
 tb 134 t134 underlying134 ⟨1,8,none,.mW 67,[.pointer none]⟩,
 tb 137 t137 underlying137 ⟨10,184,none,.struct [(0,43),(1,35),(4,67),(9,130)],[.slice none 0 0,.slice none 0 0,.slice none 0 0,.slice none 0 0,.string ⟨#[]⟩,.int .i64 0,.slice none 0 0,.slice none 0 0,.int .i64 0,.map none]⟩,
 tb 142 t142 underlying142 ⟨6,6,some (.arr 6 .bool),.arr 6 4,[.bool false,.bool false,.bool false,.bool false,.bool false,.bool false]⟩,
 tb 143 t143 underlying143 ⟨36,36,some (.arr 6 (.arr 6 .bool)),.arr 6 142,[.bool false,.bool false,.bool false,.bool false,.bool false,.bool false,.bool false,.bool false,.bool false,.bool false,.bool false,.bool false,.bool false,.bool false,.bool false,.bool false,.bool false,.bool false,.bool false,.bool false,.bool false,.bool false,.bool false,.bool false,.bool false,.bool false,.bool false,.bool false,.bool false,.bool false,.bool false,.bool false,.bool false,.bool false,.bool false,.bool false]⟩,
 tb 158 t158 underlying158 ⟨1,8,none,.mW 137,[.pointer none]⟩,
 tb 167 t167 underlying167 ⟨4,32,some tQ,.struct [(0,3),(1,3),(2,3),(3,3)],[.int .i64 0,.int .i64 0,.int .i64 0,.int .i64 0]⟩,
 tb 175 t175 underlying175 ⟨30,480,some (.arr 30 .str),.arr 30 9,[.string ⟨#[]⟩,.string ⟨#[]⟩,.string ⟨#[]⟩,.string ⟨#[]⟩,.string ⟨#[]⟩,.string ⟨#[]⟩,.string ⟨#[]⟩,.string ⟨#[]⟩,.string ⟨#[]⟩,.string ⟨#[]⟩,.string ⟨#[]⟩,.string ⟨#[]⟩,.string ⟨#[]⟩,.string ⟨#[]⟩,.string ⟨#[]⟩,.string ⟨#[]⟩,.string ⟨#[]⟩,.string ⟨#[]⟩,.string ⟨#[]⟩,.string ⟨#[]⟩,.string ⟨#[]⟩,.string ⟨#[]⟩,.string ⟨#[]⟩,.string ⟨#[]⟩,.string ⟨#[]⟩,.string ⟨#[]⟩,.string ⟨#[]⟩,.string ⟨#[]⟩,.string ⟨#[]⟩,.string ⟨#[]⟩]⟩,
 tb 186 t186 underlying186 ⟨1,8,none,.mW 47,[.pointer none]⟩,
 tb 194 t194 underlying194 ⟨14,224,some (.arr 14 .str),.arr 14 9,[.string ⟨#[]⟩,.string ⟨#[]⟩,.string ⟨#[]⟩,.string ⟨#[]⟩,.string ⟨#[]⟩,.string ⟨#[]⟩,.string ⟨#[]⟩,.string ⟨#[]⟩,.string ⟨#[]⟩,.string ⟨#[]⟩,.string ⟨#[]⟩,.string ⟨#[]⟩,.string ⟨#[]⟩,.string ⟨#[]⟩]⟩,
 tb 200 t200 underlying200 ⟨7,112,some (.arr 7 .str),.arr 7 9,[.string ⟨#[]⟩,.string ⟨#[]⟩,.string ⟨#[]⟩,.string ⟨#[]⟩,.string ⟨#[]⟩,.string ⟨#[]⟩,.string ⟨#[]⟩]⟩]
noncomputable def bz:Prg:=⟨prog,gt,afw,mix⟩
def F8(s p:an):Option (Bool×Unit):=some (p.isPrefixOf s,())
def SM:iX:=AP [.str,.str] [.bool] (fun d=>F8 d.1 d.2.1) id
theorem RJ:l8 prog gt 157 SM:=by refine⟨DN (ts:=[.str,.str]) (rs:=[.bool]) (dec:=id) rfl rfl call157 fun d y w hg h=>?_,AQ _ _ _ _,wW _ _ _ _⟩;cases h;exact(strings_HasPrefix ⟨⟨d.1⟩⟩ ⟨⟨d.2.1⟩⟩ w).mono fun e w' ⟨h1,h2⟩=>⟨h1,h2 ▸ Go.RowKit.Below.refl _ _⟩
def Rn:Cl bz:=⟨_,_,RJ⟩
def Be(s:an):Option (an×Unit):=bif decide (s.length≤281474976710656) then some (s,()) else none
def Vl:iX:=AP [.str] [.str] (fun d=>Be d.1) id
theorem Xl:l8 prog gt 155 Vl:=by
 refine⟨DN (ts:=[.str]) (rs:=[.str]) (dec:=id) rfl rfl call155 fun d y w hg h=>?_,AQ _ _ _ _,wW _ _ _ _⟩;obtain⟨s,u⟩:=d;have h:(bif decide (s.length≤281474976710656) then some (s,()) else none)=some y:=h
 cases hb:decide (s.length≤281474976710656) with
 |false=>rw [hb] at h;cases h
 |true=>rw [hb] at h;cases h;exact stringslite_Clone ⟨⟨s⟩⟩ w (of_decide_eq_true hb)
def Zt:Cl bz:=wv ⟨[⟨155,Vl,Xl⟩],[],[]⟩ 126 f126 func126 call126 [.str] [.str] (fun d=>Be d.1) [] (h:=fun d=>(show Be d.1=(Be d.1).bind fun r=>some (r.1,()) by unfold Be;cases decide (d.1.length≤281474976710656)<;>rfl).trans (by kernel_rfl))
def RC(s:an):Bool:=s.all fun b=>decide (48≤b.toNat) && decide (b.toNat≤57)
def M7(s:an):Int:=s.foldl (fun n b=>n * 10 + ((b.toNat:Int) - 48)) 0
def pd(s:an):Option (Int×Bool×Unit):=
 bif !(RC s) || s.isEmpty then none else
 bif (decide (1 < s.length) && (s.headD 0 == 48)) || decide (10 < s.length) then some (0,false,()) else
 bif decide (2147483647 < M7 s) then some (0,false,()) else some (M7 s,true,())
def SN:iX:=AP [.str] [I,.bool] (fun d=>pd d.1) id
theorem Uz:∀(s:an) (n:Nat),RC s=true→∃ m:Nat,Lib.decFrom n s=some m∧(m:Int)=s.foldl (fun n b=>n * 10 + ((b.toNat:Int) - 48)) (n:Int)
 |[],n,_=>⟨n,rfl,rfl⟩
 |b :: s,n,h=>by
  simp only [RC,List.all_cons,Bool.and_eq_true,decide_eq_true_eq] at h;obtain⟨m,h1,h2⟩:=Uz s (n * 10 + (b.toNat - 48)) (by simpa only [RC] using h.2)
  refine⟨m,by simp only [Lib.decFrom,Lib.digitVal,h.1,and_self,if_true];exact h1,h2.trans ?_⟩
  rw [List.foldl_cons]
  congr 1
  omega
theorem WW(s:an)(h:RC s=true)(hs:s≠[]):Lib.atoi s=some (M7 s):=by
 obtain⟨m,h1,h2⟩:=Uz s 0 h;cases s with
 |nil=>exact absurd rfl hs
 |cons b r=>
  have hb:48≤b.toNat:=by simp only [RC,List.all_cons,Bool.and_eq_true,decide_eq_true_eq] at h;exact h.1.1
  have n1:(b == 45)=false:=by simp only [beq_eq_false_iff_ne];rintro rfl;revert hb;decide
  have n2:(b == 43)=false:=by simp only [beq_eq_false_iff_ne];rintro rfl;revert hb;decide
  show Lib.atoi (b :: r)=_;simp only [Lib.atoi,n1,n2,Lib.decNat,h1,List.isEmpty_cons,Bool.false_eq_true,if_false,Option.map_some];exact congrArg some h2
theorem RK:l8 prog gt 127 SN:=by
 refine⟨DN (ts:=[.str]) (rs:=[I,.bool]) (dec:=id) rfl rfl call127 fun d y w hg h=>?_,AQ _ _ _ _,wW _ _ _ _⟩;obtain⟨s,u⟩:=d;have h:pd s=some y:=h;unfold pd at h;cases hd:RC s with
 |false=>rw [hd] at h;cases h
 |true=>
 cases s with
 |nil=>cases h
 |cons b r=>
 simp only [hd,Bool.not_true,List.isEmpty_cons,Bool.or_self,cond_false,List.headD_cons] at h;have hs:0 < (⟨⟨b :: r⟩⟩:ByteArray).size:=Nat.succ_pos _;have h48:((⟨⟨b :: r⟩⟩:ByteArray)[0]'hs).toNat=48↔(b == 48)=true:=by rw [beq_iff_eq];exact⟨fun hh=>UInt8.toNat_inj.1 hh,fun hh=>by subst hh;rfl⟩
 cases hb:decide (1 < (b :: r).length) && (b == 48) || decide (10 < (b :: r).length) with
 |true=>rw [hb] at h;cases h;refine(Mk ⟨⟨b :: r⟩⟩ w hs ?_).mono fun e w' ⟨h1,h2⟩=>⟨h1,h2 ▸ Go.RowKit.Below.refl _ _⟩;simp only [Bool.or_eq_true,Bool.and_eq_true,decide_eq_true_eq] at hb;exact hb.imp (fun q=>⟨q.1,h48.2 q.2⟩) id
 |false=>
  rw [hb] at h;simp only [Bool.or_eq_false_iff,Bool.and_eq_false_iff,decide_eq_false_iff_not] at hb;have hl:¬ 10 < (⟨⟨b :: r⟩⟩:ByteArray).size:=hb.2;refine(Kx ⟨⟨b :: r⟩⟩ w hs (fun g1 g2=>?_) (by omega) _ (WW (b :: r) hd (by simp))).mono fun e w' ⟨h1,t,h2⟩=>?_
  ·rcases hb.1 with q | q
   ·exact q g1
   ·rw [h48.1 g2] at q;cases q
  ·have aeJ:Go.RowKit.Below w.heap.size w w':=by subst h2;exact⟨rfl,rfl,rfl,by rw [Lib.bytesWorld_size];omega,fun j hj=>Lib.bytesWorld_at_old w 5 t j hj⟩
   refine⟨?_,aeJ⟩;subst h1;cases hv:decide (2147483647 < M7 (b :: r)) with
   |true=>rw [hv] at h;cases h;rfl
   |false=>rw [hv] at h;cases h;rfl
def Rq:Cl bz:=⟨_,_,RK⟩
end
end Go.Fx.R5
namespace Go.Fx.R5
open Go Go.Fx Go.Proofs Go.Proofs.Tryz
noncomputable section
def eL(ak:XT)(jj aaH:Int)(bF:an):Option (Bool×Unit):=
 aa (fun(v:Bool)=>
  some (v,())) fun cD=>
 bif decide ((dq (jj + aaH)) < (ak.length:Int)) then
  (bH ak (dq (jj + aaH))).bind fun x1=>
  cD (x1.2.2.1 == bF)
 else
  cD false
def mw:Cl bz:=mX ⟨[],[],[]⟩ 129 f129 func129 call129 [500000] ⟨⟨33,[(126,5)],[lD 126 0 sT,lI 126 1,lI 126 2,lI 126 3,lF 126 4 tN],[rP 0 126,rI 1,rD 2 .str],[]⟩,[.ret [rD 500000 .bool] []],fun c v=>eL c.1 c.2.2.1 v.2.1 v.2.2.1⟩ []
def aG(ak:XT)(jj:Int)(bF:an):Option (Bool×Int×Unit):=
 (eL ak jj 0 bF).bind fun r1=>
 bif !r1.1 then
  some (false,jj,())
 else
  some (true,(dq (jj + 1)),())
def fC:Cl bz:=mX ⟨[mw],[],[]⟩ 106 f106 func106 call106 [500000] ⟨⟨16,[(126,5)],[lD 126 0 sT,lI 126 1,lI 126 3,lF 126 4 tN],[rP 0 126,rD 1 .str,lI 126 2],[]⟩,[.ret [rD 500000 .bool,lI 126 2] []],fun c v=>aG c.1 v.2.2.1 v.2.1⟩ []
def dc(ak:XT)(aE jj:Int):Option (Int×Unit):=
 bif decide (jj < (ak.length:Int)) then
  (bH ak jj).bind fun x1=>
  some (x1.2.1,())
 else
  some (aE,())
def eB:Cl bz:=mX ⟨[],[],[]⟩ 131 f131 func131 call131 [500000] ⟨⟨28,[(126,5)],[lD 126 0 sT,lI 126 1,lI 126 2,lI 126 3,lF 126 4 tN],[rP 0 126],[]⟩,[.ret [rI 500000] []],fun c v=>dc c.1 c.2.1 c.2.2.1⟩ []
def gN(ak:XT)(aE jj code:Int):Option (Int×Int×Unit):=
 (dc ak aE jj).bind fun r1=>
 some (code,r1.1,())
def jk:Cl bz:=mX ⟨[eB],[],[]⟩ 112 f112 func112 call112 [] ⟨⟨10,[(126,5)],[lD 126 0 sT,lI 126 1,lI 126 2,lI 126 3,lF 126 4 tN],[rP 0 126,rI 1],[]⟩,[.zM 128 [I,I]],fun c v=>gN c.1 c.2.1 c.2.2.1 v.2.1⟩ []
def il(ak:XT)(jj Dm:Int):Option (Bool×Unit):=
 aa (fun(v:Bool)=>
  some (v,())) fun cD=>
 bif decide (jj < (ak.length:Int)) then
  (bH ak jj).bind fun x1=>
  cD (x1.1 == Dm)
 else
  cD false
def l9:Cl bz:=mX ⟨[],[],[]⟩ 130 f130 func130 call130 [500000] ⟨⟨30,[(126,5)],[lD 126 0 sT,lI 126 1,lI 126 2,lI 126 3,lF 126 4 tN],[rP 0 126,rI 1],[]⟩,[.ret [rD 500000 .bool] []],fun c v=>il c.1 c.2.2.1 v.2.1⟩ []
def de(ak:XT)(aE jj Dm:Int):Option ((((Int×Int×an×Int)×Int×Unit)⊕(Int×Int×Unit))):=
 (il ak jj Dm).bind fun r1=>
 bif !r1.1 then
  (gN ak aE jj 6).bind fun r2=>
  some (.inr (r2.1,r2.2.1,()))
 else
  (bH ak (dq ((dq (jj + 1)) - 1))).bind fun x1=>
  some (.inl (x1,(dq (jj + 1)),()))
def gS:Cl bz:=mX ⟨[jk,l9],[],[(4,110)]⟩ 107 f107 func107 call107 [500000] ⟨⟨29,[(126,5)],[lD 126 0 sT,lI 126 1,lI 126 3,lF 126 4 tN],[rP 0 126,rI 1,lI 126 2],[]⟩,[.ret [rD 500000 tT,lI 126 2] [],.zM 128 [I,I]],fun c v=>de c.1 c.2.1 v.2.2.1 v.2.1⟩ []
def a8(ak:XT)(aE jj:Int)(bF:an):Option (((Int×Unit)⊕(Int×Int×Unit))):=
 (aG ak jj bF).bind fun r1=>
 bif !r1.1 then
  (gN ak aE r1.2.1 6).bind fun r2=>
  some (.inr (r2.1,r2.2.1,()))
 else
  some (.inl (r1.2.1,()))
def gB:Cl bz:=mX ⟨[fC,jk],[],[]⟩ 108 f108 func108 call108 [] ⟨⟨10,[(126,5)],[lD 126 0 sT,lI 126 1,lI 126 3,lF 126 4 tN],[rP 0 126,rD 1 .str,lI 126 2],[]⟩,[.ret [lI 126 2] [],.zM 128 [I,I]],fun c v=>a8 c.1 c.2.1 v.2.2.1 v.2.1⟩ []
def bC(aA:XN)(nE:Int×Int×Int×an×XI):Option (Int×XN×Unit):=
 (lq aA ([nE])).bind fun l=>
 some ((dq ((l.length:Int) - 1)),l,())
def dF:Cl bz:=mX ⟨[],[],[(3,47)]⟩ 109 f109 func109 call109 [500000] ⟨⟨21,[(126,5)],[lD 126 0 sT,lI 126 1,lI 126 2,lI 126 3],[rP 0 126,rD 1 tN,lF 126 4 tN],[]⟩,[.ret [rI 500000,lF 126 4 tN] []],fun c v=>bC v.2.2.1 v.2.1⟩ []
def eR(ak:XT)(aE jj:Int)(aA:XN)(Dm:Int):Option (((Int×Int×XN×Unit)⊕(Int×Int×Unit))):=
 (de ak aE jj 1).bind fun r=>match r with
 |.inl r1=>
  (bC aA (Dm,r1.1.2.1,0,r1.1.2.2.1,[])).bind fun r3=>
  some (.inl (r3.1,r1.2.1,r3.2.1,()))
 |.inr r2=>
  some (.inr (r2.1,r2.2.1,()))
def qX:Cl bz:=mX ⟨[gS,dF],[],[(5,110)]⟩ 110 f110 func110 call110 [500000] ⟨⟨16,[(126,5)],[lD 126 0 sT,lI 126 1,lI 126 3],[rP 0 126,rI 1,lI 126 2,lF 126 4 tN],[]⟩,[.ret [rI 500000,lI 126 2,lF 126 4 tN] [],.zM 128 [I,I]],fun c v=>eR c.1 c.2.1 v.2.2.1 v.2.2.2.1 v.2.1⟩ []
def fF(ak:XT)(aE jj depth:Int):Option (((Int×Unit)⊕(Int×Int×Unit))):=
 bif decide ((dq (depth + 1)) > 10) then
  (gN ak aE jj 7).bind fun r1=>
  some (.inr (r1.1,r1.2.1,()))
 else
  some (.inl ((dq (depth + 1)),()))
def kS:Cl bz:=mX ⟨[jk],[],[]⟩ 132 f132 func132 call132 [] ⟨⟨16,[(126,5)],[lD 126 0 sT,lI 126 1,lI 126 2,lF 126 4 tN],[rP 0 126,lI 126 3],[]⟩,[.ret [lI 126 3] [],.zM 128 [I,I]],fun c v=>fF c.1 c.2.1 c.2.2.1 v.2.1⟩ []
def mb(q:Nat):Nat→an→XS→Int→Option (((Unit)⊕(Int×Unit)))
 |0,_,_,_=>none
 |k + 1,SQ,t51,t61=>
  bif decide (t61 < 14) then
   (bH t51 t61).bind fun b=>
   aa (fun(v:Bool)=>
    bif v then
     some (.inr (t61,()))
    else
     mb q k SQ t51 (dq (t61 + 1))) fun cD=>
   bif decide (t61 > 0) then
    cD (b == SQ)
   else
    cD false
  else
   some (.inl ())
def D5(k:Nat)(wN:an):Option (Int×Unit):=
 (mb k k wN Nx 0).bind fun r=>match r with
 |.inl o=>
  some (0,())
 |.inr o2=>
  some (o2.1,())
def Dq(k:Nat):mg:=⟨⟨19,[],[rD 0 .str,rD 5 (.arr 14 .str)],[rI 6],[]⟩,[.ex (.exit 0) [],.ex .ret [rI 2]],fun q c v=>mb k q c.1 c.2.1 v.1⟩
def Jt(k:Nat):Ev bz:=⟨[],[lp 0 (Dq k) k],[]⟩
def Lg(k q:Nat):Cd bz:=nD (Jt k) f178 0 (Dq k) q []
def Rp(k:Nat):Cl bz:=wv (Jt k) 178 f178 func178 call178 [.str] [I] (fun d=>D5 k d.1) [Lg k k]
def wD(op:Int):Option (Int×Unit):=
 bif op == 7 then
  some (1,())
 else
  bif op == 8 then
   some (2,())
  else
   bif op == 6 then
    some (3,())
   else
    aa (fun(v:Bool)=>
     bif v then
      some (4,())
     else
      aa (fun(v2:Bool)=>
       bif v2 then
        some (5,())
       else
        some (6,())) fun jH=>
      bif op == 1 then
       jH (op == 1)
      else
       bif op == 2 then
        jH (op == 2)
       else
        bif op == 11 then
         jH (op == 11)
        else
         jH (op == 12)) fun cD=>
    bif op == 9 then
     cD (op == 9)
    else
     cD (op == 10)
def Lt:Cl bz:=wv ⟨[],[],[]⟩ 179 f179 func179 call179 [I] [I] (fun d=>wD d.1) []
abbrev ij:=XT→Int→Int→Int→XN→Int→Option (((Int×Int×Int×XN×Unit)⊕(Int×Int×Unit)))
def oR(f:ij):DU:=⟨⟨67,[(126,5)],[lD 126 0 sT,lI 126 1],[rP 0 126,rI 1,lI 126 2,lI 126 3,lF 126 4 tN],[]⟩,[.ret [rI 500000,lI 126 2,lI 126 3,lF 126 4 tN] [],.zM 128 [I,I]],fun c v=>f c.1 c.2.1 v.2.2.1 v.2.2.2.1 v.2.2.2.2.1 v.2.1⟩
def xq(f:ij):iX:=mI (oR f).L (oR f).F (AW [500000] (oR f).V)
abbrev gR:=XT→Int→Int→Int→XN→Option (((Int×Int×Int×XN×Unit)⊕(Int×Int×Unit)))
def n9(f:gR):DU:=⟨⟨35,[(126,5)],[lD 126 0 sT,lI 126 1],[rP 0 126,lI 126 2,lI 126 3,lF 126 4 tN],[]⟩,[.ret [rI 500000,lI 126 2,lI 126 3,lF 126 4 tN] [],.zM 128 [I,I]],fun c v=>f c.1 c.2.1 v.2.1 v.2.2.1 v.2.2.2.1⟩
def vY(f:gR):iX:=mI (n9 f).L (n9 f).F (AW [500000] (n9 f).V)
abbrev fM:=XT→Int→Int→Int→XN→Option (((Int×Int×Int×XN×Unit)⊕(Int×Int×Unit)))
def mQ(f:fM):DU:=⟨⟨78,[(126,5)],[lD 126 0 sT,lI 126 1],[rP 0 126,lI 126 2,lI 126 3,lF 126 4 tN],[]⟩,[.ret [rI 500000,lI 126 2,lI 126 3,lF 126 4 tN] [],.zM 128 [I,I]],fun c v=>f c.1 c.2.1 v.2.1 v.2.2.1 v.2.2.2.1⟩
def ud(f:fM):iX:=mI (mQ f).L (mQ f).F (AW [500000] (mQ f).V)
def dN(bB:ij)(bJ:gR)(bG:fM)(q:Nat):Nat→XT→Int→Int→Int→Int→XN→Int→Option (((Int×Int×XN×Int×Unit)⊕(Int×Int×Unit)))
 |0,_,_,_,_,_,_,_=>none
 |k + 1,cL,fK,TF,sR,ol,bX,left=>
  bif decide (sR < (cL.length:Int)) then
   (bH cL sR).bind fun x1=>
   (D5 q x1.2.2.1).bind fun r5=>
   aa (fun(v:Bool)=>
    bif v then
     some (.inl (sR,ol,bX,left,()))
    else
     (dc cL fK sR).bind fun r7=>
     (bB cL fK (dq (sR + 1)) ol bX (dq (TF + 1))).bind fun r=>match r with
     |.inl r8=>
      (bC r8.2.2.2.1 (28,r7.1,r5.1,([]:an),[left,r8.1])).bind fun mY=>
      dN bB bJ bG q k cL fK TF r8.2.1 r8.2.2.1 mY.2.1 mY.1
     |.inr r9=>
      some (.inr (r9.1,r9.2.1,()))) fun cD=>
   bif r5.1 == 0 then
    cD true
   else
    (wD r5.1).bind fun r6=>
    cD (r6.1 != TF)
  else
   some (.inl (sR,ol,bX,left,()))
def im(bB:ij)(bJ:gR)(bG:fM)(k:Nat)(ak:XT)(aE jj depth:Int)(aA:XN)(vz:Int):Option (((Int×Int×Int×XN×Unit)⊕(Int×Int×Unit))):=
 bif decide (vz > 6) then
  (bJ ak aE jj depth aA).bind fun r=>match r with
  |.inl r1=>
   some (.inl (r1.1,r1.2.1,r1.2.2.1,r1.2.2.2.1,()))
  |.inr r2=>
   some (.inr (r2.1,r2.2.1,()))
 else
  (bB ak aE jj depth aA (dq (vz + 1))).bind fun r=>match r with
  |.inl r3=>
   (dN bB bJ bG k k ak aE vz r3.2.1 r3.2.2.1 r3.2.2.2.1 r3.1).bind fun r=>match r with
   |.inl o=>
    some (.inl (o.2.2.2.1,o.1,o.2.1,o.2.2.1,()))
   |.inr o2=>
    some (.inr (o2.1,o2.2.1,()))
  |.inr r4=>
   some (.inr (r4.1,r4.2.1,()))
def gV(bB:ij)(bJ:gR)(bG:fM)(k:Nat)(ak:XT)(aE jj depth:Int)(aA:XN):Option (((Int×Int×Int×XN×Unit)⊕(Int×Int×Unit))):=
 (dc ak aE jj).bind fun r1=>
 (aG ak jj ([45]:an)).bind fun r2=>
 bif !r2.1 then
  (bG ak aE r2.2.1 depth aA).bind fun r=>match r with
  |.inl r3=>
   some (.inl (r3.1,r3.2.1,r3.2.2.1,r3.2.2.2.1,()))
  |.inr r4=>
   some (.inr (r4.1,r4.2.1,()))
 else
  (fF ak aE r2.2.1 depth).bind fun r=>match r with
  |.inl r5=>
   (bC aA (24,r1.1,0,([]:an),[])).bind fun r7=>
   (bJ ak aE r2.2.1 r5.1 r7.2.1).bind fun r=>match r with
   |.inl r8=>
    (bC r8.2.2.2.1 (28,r1.1,2,([]:an),[r7.1,r8.1])).bind fun mY=>
    some (.inl (mY.1,r8.2.1,(dq (r8.2.2.1 - 1)),mY.2.1,()))
   |.inr r9=>
    some (.inr (r9.1,r9.2.1,()))
  |.inr r6=>
   some (.inr (r6.1,r6.2.1,()))
def bQ(bB:ij)(bJ:gR)(bG:fM)(k:Nat)(ak:XT)(aE jj depth:Int)(aA:XN):Option (((Int×Int×Int×XN×Unit)⊕(Int×Int×Unit))):=
 (dc ak aE jj).bind fun r1=>
 (il ak jj 2).bind fun r2=>
 bif r2.1 then
  (de ak aE jj 2).bind fun r=>match r with
  |.inl r3=>
   (bC aA (24,r1.1,r3.1.2.2.2,([]:an),[])).bind fun r5=>
   some (.inl (r5.1,r3.2.1,depth,r5.2.1,()))
  |.inr r4=>
   some (.inr (r4.1,r4.2.1,()))
 else
  (aG ak jj ([42]:an)).bind fun r6=>
  bif r6.1 then
   (de ak aE r6.2.1 1).bind fun r=>match r with
   |.inl r7=>
    (bC aA (27,r1.1,0,r7.1.2.2.1,[])).bind fun r9=>
    some (.inl (r9.1,r7.2.1,depth,r9.2.1,()))
   |.inr r8=>
    some (.inr (r8.1,r8.2.1,()))
  else
   (aG ak r6.2.1 ([40]:an)).bind fun mY=>
   bif mY.1 then
    (fF ak aE mY.2.1 depth).bind fun r=>match r with
    |.inl pT=>
     (bB ak aE mY.2.1 pT.1 aA 1).bind fun r=>match r with
     |.inl sM=>
      (a8 ak aE sM.2.1 ([41]:an)).bind fun r=>match r with
      |.inl sa=>
       some (.inl (sM.1,sa.1,(dq (sM.2.2.1 - 1)),sM.2.2.2.1,()))
      |.inr tZ=>
       some (.inr (tZ.1,tZ.2.1,()))
     |.inr sX=>
      some (.inr (sX.1,sX.2.1,()))
    |.inr rh=>
     some (.inr (rh.1,rh.2.1,()))
   else
    (de ak aE mY.2.1 1).bind fun r=>match r with
    |.inl wL=>
     (aG ak wL.2.1 ([91]:an)).bind fun sY=>
     bif !sY.1 then
      (bC aA (25,r1.1,0,wL.1.2.2.1,[])).bind fun yp=>
      some (.inl (yp.1,sY.2.1,depth,yp.2.1,()))
     else
      (fF ak aE sY.2.1 depth).bind fun r=>match r with
      |.inl AY=>
       (bB ak aE sY.2.1 AY.1 aA 1).bind fun r=>match r with
       |.inl Nh=>
        (a8 ak aE Nh.2.1 ([93]:an)).bind fun r=>match r with
        |.inl r25=>
         (bC Nh.2.2.2.1 (26,r1.1,0,wL.1.2.2.1,[Nh.1])).bind fun r27=>
         some (.inl (r27.1,r25.1,(dq (Nh.2.2.1 - 1)),r27.2.1,()))
        |.inr r26=>
         some (.inr (r26.1,r26.2.1,()))
       |.inr Im=>
        some (.inr (Im.1,Im.2.1,()))
      |.inr NX=>
       some (.inr (NX.1,NX.2.1,()))
    |.inr sO=>
     some (.inr (sO.1,sO.2.1,()))
def du:Nat→ij×gR×fM
 |0=>(fun _ _ _ _ _ _=>none,fun _ _ _ _ _=>none,fun _ _ _ _ _=>none)
 |k + 1=>(im (du k).1 (du k).2.1 (du k).2.2 k,gV (du k).1 (du k).2.1 (du k).2.2 k,bQ (du k).1 (du k).2.1 (du k).2.2 k)
def aj(k:Nat):ij:=(du k).1
def fv(k:Nat):gR:=(du k).2.1
def fR(k:Nat):fM:=(du k).2.2
section
variable (bB:Gd bz 166 xq) (bJ:Gd bz 177 vY) (bG:Gd bz 184 ud)
def ul(k:Nat):mg:=⟨⟨67,[(126,5)],[lD 126 0 sT,lI 126 1,rP 0 126,rI 1],[lI 126 2,lI 126 3,lF 126 4 tN,rI 5],[]⟩,[.ex (.exit 0) [lI 126 2,lI 126 3,lF 126 4 tN,rI 5],.zM 128 [I,I]],fun q c v=>dN bB.1 bJ.1 bG.1 k q c.1 c.2.1 c.2.2.2.1 v.1 v.2.1 v.2.2.1 v.2.2.2.1⟩
def xf(k:Nat):Ev bz:=⟨[dF,eB,bB.cl,bJ.cl,Rp k,Lt],[lp 0 (ul bB bJ bG k) k],[]⟩
def Ct(k q:Nat):Cd bz:=nD (xf bB bJ bG k) f166 0 (ul bB bJ bG k) q []
def F6(k:Nat):Cl bz:=mX (xf bB bJ bG k) 166 f166 func166 call166 [500000] (oR (im bB.1 bJ.1 bG.1 k)) [Ct bB bJ bG k k]
def EH(k:Nat):Cl bz:=mX ⟨[fC,dF,eB,kS,bJ.cl,bG.cl],[],[]⟩ 177 f177 func177 call177 [500000] (n9 (gV bB.1 bJ.1 bG.1 k)) []
def CC(k:Nat):Cl bz:=mX ⟨[fC,gS,gB,dF,l9,eB,kS,bB.cl],[],[(5,110)]⟩ 184 f184 func184 call184 [500000] (mQ (bQ bB.1 bJ.1 bG.1 k)) []
end
theorem lj:∀ k,l8 prog gt 166 (xq (aj k))∧l8 prog gt 177 (vY (fv k))∧l8 prog gt 184 (ud (fR k))
 |0=>⟨dh (fun _ _=>rfl),dh (fun _ _=>rfl),dh (fun _ _=>rfl)⟩
 |k + 1=>have ih:=lj k;⟨(F6 ⟨_,ih.1⟩ ⟨_,ih.2.1⟩ ⟨_,ih.2.2⟩ k).ok,(EH ⟨_,ih.1⟩ ⟨_,ih.2.1⟩ ⟨_,ih.2.2⟩ k).ok,(CC ⟨_,ih.1⟩ ⟨_,ih.2.1⟩ ⟨_,ih.2.2⟩ k).ok⟩
def my(k:Nat):Cl bz:=⟨_,_,(lj k).1⟩
def Tc(k:Nat):Cl bz:=⟨_,_,(lj k).2.1⟩
def QW(k:Nat):Cl bz:=⟨_,_,(lj k).2.2⟩
def cV(q:Nat):Nat→XT→Int→XI→Int→Int→XN→Option (((XI×Int×Int×XN×Unit)⊕(Int×Int×Unit)))
 |0,_,_,_,_,_,_=>none
 |k + 1,cL,fK,aaE,sR,ol,bX=>
  (aG cL sR ([44]:an)).bind fun sY=>
  bif sY.1 then
   (aj q cL fK sY.2.1 ol bX 1).bind fun r=>match r with
   |.inl yp=>
    (lq aaE ([yp.1])).bind fun l2=>
    cV q k cL fK l2 yp.2.1 yp.2.2.1 yp.2.2.2.1
   |.inr AY=>
    some (.inr (AY.1,AY.2.1,()))
  else
   some (.inl (aaE,sY.2.1,ol,bX,()))
def ee(k:Nat)(ak:XT)(aE jj depth:Int)(aA:XN):Option (((Int×XI×Int×Int×XN×Unit)⊕(Int×Int×Unit))):=
 (aG ak jj ([38]:an)).bind fun r1=>
 bif r1.1 then
  (eR ak aE r1.2.1 aA 23).bind fun r=>match r with
  |.inl r2=>
   (a8 ak aE r2.2.1 ([91]:an)).bind fun r=>match r with
   |.inl r4=>
    (aj k ak aE r4.1 depth r2.2.2.1 1).bind fun r=>match r with
    |.inl r6=>
     (a8 ak aE r6.2.1 ([93]:an)).bind fun r=>match r with
     |.inl r8=>
      some (.inl (12,[r2.1,r6.1],r8.1,r6.2.2.1,r6.2.2.2.1,()))
     |.inr r9=>
      some (.inr (r9.1,r9.2.1,()))
    |.inr r7=>
     some (.inr (r7.1,r7.2.1,()))
   |.inr r5=>
    some (.inr (r5.1,r5.2.1,()))
  |.inr r3=>
   some (.inr (r3.1,r3.2.1,()))
 else
  (il ak r1.2.1 1).bind fun mY=>
  aa (fun(v:Bool)=>
   bif v then
    (eR ak aE r1.2.1 aA 23).bind fun r=>match r with
    |.inl rh=>
     (a8 ak aE rh.2.1 ([40]:an)).bind fun r=>match r with
     |.inl sX=>
      (aG ak sX.1 ([41]:an)).bind fun tZ=>
      bif tZ.1 then
       some (.inl (22,[rh.1],tZ.2.1,depth,rh.2.2.1,()))
      else
       (aj k ak aE tZ.2.1 depth rh.2.2.1 1).bind fun r=>match r with
       |.inl wL=>
        (lq ([rh.1]) ([wL.1])).bind fun l=>
        (cV k k ak aE l wL.2.1 wL.2.2.1 wL.2.2.2.1).bind fun r=>match r with
        |.inl o=>
         (a8 ak aE o.2.1 ([41]:an)).bind fun r=>match r with
         |.inl sY=>
          some (.inl (22,o.1,sY.1,o.2.2.1,o.2.2.2.1,()))
         |.inr yp=>
          some (.inr (yp.1,yp.2.1,()))
        |.inr o2=>
         some (.inr (o2.1,o2.2.1,()))
       |.inr sO=>
        some (.inr (sO.1,sO.2.1,()))
     |.inr sa=>
      some (.inr (sa.1,sa.2.1,()))
    |.inr sM=>
     some (.inr (sM.1,sM.2.1,()))
   else
    (eL ak r1.2.1 0 ([110,117,108,108]:an)).bind fun AY=>
    bif AY.1 then
     (dc ak aE r1.2.1).bind fun NX=>
     (bC aA (29,NX.1,0,([]:an),[])).bind fun Nh=>
     some (.inl (9,[Nh.1],(dq (r1.2.1 + 1)),depth,Nh.2.1,()))
    else
     (aj k ak aE r1.2.1 depth aA 1).bind fun r=>match r with
     |.inl Im=>
      some (.inl (9,[Im.1],Im.2.1,Im.2.2.1,Im.2.2.2.1,()))
     |.inr r25=>
      some (.inr (r25.1,r25.2.1,()))) fun cD=>
  bif mY.1 then
   (eL ak r1.2.1 1 ([40]:an)).bind fun pT=>
   cD pT.1
  else
   cD false
def tr(k:Nat):mg:=⟨⟨101,[(47,5),(126,5)],[lI 47 0,lI 47 1,lI 47 2,lD 47 3 .str,lD 126 0 sT,lI 126 1,rP 0 126,rP 1 47],[lF 47 4 I,lI 126 2,lI 126 3,lF 126 4 tN],[]⟩,[.ex (.exit 1) [lF 47 4 I,lI 126 2,lI 126 3,lF 126 4 tN],.zM 128 [I,I]],fun q c v=>cV k q c.2.2.2.2.1 c.2.2.2.2.2.1 v.1 v.2.1 v.2.2.1 v.2.2.2.1⟩
def vV(k:Nat):Ev bz:=⟨[fC,gB,dF,qX,mw,l9,eB,my k],[lp 1 (tr k) k],[]⟩
def AZ(k q:Nat):Cd bz:=nD (vV k) f176 1 (tr k) q []
def EC(k:Nat):Cl bz:=mX (vV k) 176 f176 func176 call176 [] ⟨⟨101,[(126,5),(47,5)],[lD 126 0 sT,lI 126 1,lI 47 1,lI 47 2,lD 47 3 .str],[rP 0 126,rP 1 47,lI 126 2,lI 126 3,lF 126 4 tN,lI 47 0,lF 47 4 I],[]⟩,[.ret [lI 47 0,lF 47 4 I,lI 126 2,lI 126 3,lF 126 4 tN] [],.zM 128 [I,I]],fun c v=>ee k c.1 c.2.1 v.2.2.1 v.2.2.2.1 v.2.2.2.2.1⟩ [AZ k k]
def cm(k:Nat)(ak:XT)(aE jj depth:Int)(aA:XN):Option (((Int×Int×Int×XN×Unit)⊕(Int×Int×Unit))):=
 (de ak aE jj 1).bind fun r=>match r with
 |.inl r1=>
  aa (fun(jv:Int×Int×XN×Int×XI)=>
   (a8 ak aE (jv.1) ([59]:an)).bind fun r=>match r with
   |.inl sY=>
    (bC (jv.2.2.1) ((jv.2.2.2.1),r1.1.2.1,0,r1.1.2.2.1,(jv.2.2.2.2))).bind fun AY=>
    some (.inl (AY.1,sY.1,(jv.2.1),AY.2.1,()))
   |.inr yp=>
    some (.inr (yp.1,yp.2.1,()))) fun cD=>
  (aG ak r1.2.1 ([61]:an)).bind fun r3=>
  bif r3.1 then
   (ee k ak aE r3.2.1 depth aA).bind fun r=>match r with
   |.inl r4=>
    cD (r4.2.2.1,r4.2.2.2.1,r4.2.2.2.2.1,r4.1,r4.2.1)
   |.inr r5=>
    some (.inr (r5.1,r5.2.1,()))
  else
   (aG ak r3.2.1 ([43,61]:an)).bind fun r6=>
   bif r6.1 then
    (aj k ak aE r6.2.1 depth aA 1).bind fun r=>match r with
    |.inl r7=>
     cD (r7.2.1,r7.2.2.1,r7.2.2.2.1,13,[r7.1])
    |.inr r8=>
     some (.inr (r8.1,r8.2.1,()))
   else
    (aG ak r6.2.1 ([91]:an)).bind fun r9=>
    bif r9.1 then
     (aj k ak aE r9.2.1 depth aA 1).bind fun r=>match r with
     |.inl mY=>
      (a8 ak aE mY.2.1 ([93]:an)).bind fun r=>match r with
      |.inl rh=>
       (a8 ak aE rh.1 ([61]:an)).bind fun r=>match r with
       |.inl sX=>
        (aj k ak aE sX.1 mY.2.2.1 mY.2.2.2.1 1).bind fun r=>match r with
        |.inl tZ=>
         cD (tZ.2.1,tZ.2.2.1,tZ.2.2.2.1,10,[mY.1,tZ.1])
        |.inr wL=>
         some (.inr (wL.1,wL.2.1,()))
       |.inr sa=>
        some (.inr (sa.1,sa.2.1,()))
      |.inr sM=>
       some (.inr (sM.1,sM.2.1,()))
     |.inr pT=>
      some (.inr (pT.1,pT.2.1,()))
    else
     (gN ak aE r9.2.1 6).bind fun sO=>
     some (.inr (sO.1,sO.2.1,()))
 |.inr r2=>
  some (.inr (r2.1,r2.2.1,()))
def Cy(k:Nat):Cl bz:=mX ⟨[fC,gS,gB,dF,jk,my k,EC k],[],[(3,110),(4,47)]⟩ 165 f165 func165 call165 [500000] ⟨⟨48,[(126,5)],[lD 126 0 sT,lI 126 1],[rP 0 126,lI 126 2,lI 126 3,lF 126 4 tN],[]⟩,[.ret [rI 500000,lI 126 2,lI 126 3,lF 126 4 tN] [],.zM 128 [I,I]],fun c v=>cm k c.1 c.2.1 v.2.1 v.2.2.1 v.2.2.2.1⟩ []
def kI(q:Nat):Nat→an→XS→Int→Option (((Unit)⊕(Int×Unit)))
 |0,_,_,_=>none
 |k + 1,SQ,t51,t61=>
  bif decide (t61 < 7) then
   (bH t51 t61).bind fun b=>
   aa (fun(v:Bool)=>
    bif v then
     some (.inr (t61,()))
    else
     kI q k SQ t51 (dq (t61 + 1))) fun cD=>
   bif decide (t61 > 0) then
    cD (b == SQ)
   else
    cD false
  else
   some (.inl ())
def Bo(k:Nat)(wN:an):Option (Int×Unit):=
 (kI k k wN gl4 0).bind fun r=>match r with
 |.inl o=>
  some (0,())
 |.inr o2=>
  some (o2.1,())
def Ca(k:Nat):mg:=⟨⟨19,[],[rD 0 .str,rD 5 (.arr 7 .str)],[rI 6],[]⟩,[.ex (.exit 0) [],.ex .ret [rI 2]],fun q c v=>kI k q c.1 c.2.1 v.1⟩
def GQ(k:Nat):Ev bz:=⟨[],[lp 0 (Ca k) k],[]⟩
def JU(k q:Nat):Cd bz:=nD (GQ k) f189 0 (Ca k) q []
def Pu(k:Nat):Cl bz:=wv (GQ k) 189 f189 func189 call189 [.str] [I] (fun d=>Bo k d.1) [JU k k]
end
end Go.Fx.R5
namespace Go.Fx.R5
open Go Go.Fx Go.Proofs Go.Proofs.Tryz
noncomputable section
abbrev gz:=XT→Int→Int→Int→XN→Option (((Int×Int×Int×XN×Unit)⊕(Int×Int×Unit)))
def oP(f:gz):DU:=⟨⟨27,[(126,5)],[lD 126 0 sT,lI 126 1],[rP 0 126,lI 126 2,lI 126 3,lF 126 4 tN],[]⟩,[.ret [rI 500000,lI 126 2,lI 126 3,lF 126 4 tN] [],.zM 128 [I,I]],fun c v=>f c.1 c.2.1 v.2.1 v.2.2.1 v.2.2.2.1⟩
def xo(f:gz):iX:=mI (oP f).L (oP f).F (AW [500000] (oP f).V)
abbrev gy:=XT→Int→Int→Int→XN→Option (((Int×Int×Int×XN×Unit)⊕(Int×Int×Unit)))
def oO(f:gy):DU:=⟨⟨27,[(126,5)],[lD 126 0 sT,lI 126 1],[rP 0 126,lI 126 2,lI 126 3,lF 126 4 tN],[]⟩,[.ret [rI 500000,lI 126 2,lI 126 3,lF 126 4 tN] [],.zM 128 [I,I]],fun c v=>f c.1 c.2.1 v.2.1 v.2.2.1 v.2.2.2.1⟩
def xm(f:gy):iX:=mI (oO f).L (oO f).F (AW [500000] (oO f).V)
abbrev gA:=XT→Int→Int→Int→XN→Option (((Int×Int×Int×XN×Unit)⊕(Int×Int×Unit)))
def oQ(f:gA):DU:=⟨⟨103,[(126,5)],[lD 126 0 sT,lI 126 1],[rP 0 126,lI 126 2,lI 126 3,lF 126 4 tN],[]⟩,[.ret [rI 500000,lI 126 2,lI 126 3,lF 126 4 tN] [],.zM 128 [I,I]],fun c v=>f c.1 c.2.1 v.2.1 v.2.2.1 v.2.2.2.1⟩
def xp(f:gA):iX:=mI (oQ f).L (oQ f).F (AW [500000] (oQ f).V)
def fe(aV:gz)(aP:gy)(aJ:gA)(q:Nat):Nat→XT→Int→Int→Int→XN→Int→Option (((Int×Int×XN×Int×Unit)⊕(Int×Int×Unit)))
 |0,_,_,_,_,_,_=>none
 |k + 1,cL,fK,sR,ol,bX,left=>
  (eL cL sR 0 ([111,114]:an)).bind fun r3=>
  bif r3.1 then
   (dc cL fK sR).bind fun r4=>
   (aP cL fK (dq (sR + 1)) ol bX).bind fun r=>match r with
   |.inl r5=>
    (bC r5.2.2.2.1 (32,r4.1,0,([]:an),[left,r5.1])).bind fun r7=>
    fe aV aP aJ q k cL fK r5.2.1 r5.2.2.1 r7.2.1 r7.1
   |.inr r6=>
    some (.inr (r6.1,r6.2.1,()))
  else
   some (.inl (sR,ol,bX,left,()))
def ky(aV:gz)(aP:gy)(aJ:gA)(k:Nat)(ak:XT)(aE jj depth:Int)(aA:XN):Option (((Int×Int×Int×XN×Unit)⊕(Int×Int×Unit))):=
 (aP ak aE jj depth aA).bind fun r=>match r with
 |.inl r1=>
  (fe aV aP aJ k k ak aE r1.2.1 r1.2.2.1 r1.2.2.2.1 r1.1).bind fun r=>match r with
  |.inl o=>
   some (.inl (o.2.2.2.1,o.1,o.2.1,o.2.2.1,()))
  |.inr o2=>
   some (.inr (o2.1,o2.2.1,()))
 |.inr r2=>
  some (.inr (r2.1,r2.2.1,()))
def fd(aV:gz)(aP:gy)(aJ:gA)(q:Nat):Nat→XT→Int→Int→Int→XN→Int→Option (((Int×Int×XN×Int×Unit)⊕(Int×Int×Unit)))
 |0,_,_,_,_,_,_=>none
 |k + 1,cL,fK,sR,ol,bX,left=>
  (eL cL sR 0 ([97,110,100]:an)).bind fun r3=>
  bif r3.1 then
   (dc cL fK sR).bind fun r4=>
   (aJ cL fK (dq (sR + 1)) ol bX).bind fun r=>match r with
   |.inl r5=>
    (bC r5.2.2.2.1 (31,r4.1,0,([]:an),[left,r5.1])).bind fun r7=>
    fd aV aP aJ q k cL fK r5.2.1 r5.2.2.1 r7.2.1 r7.1
   |.inr r6=>
    some (.inr (r6.1,r6.2.1,()))
  else
   some (.inl (sR,ol,bX,left,()))
def kx(aV:gz)(aP:gy)(aJ:gA)(k:Nat)(ak:XT)(aE jj depth:Int)(aA:XN):Option (((Int×Int×Int×XN×Unit)⊕(Int×Int×Unit))):=
 (aJ ak aE jj depth aA).bind fun r=>match r with
 |.inl r1=>
  (fd aV aP aJ k k ak aE r1.2.1 r1.2.2.1 r1.2.2.2.1 r1.1).bind fun r=>match r with
  |.inl o=>
   some (.inl (o.2.2.2.1,o.1,o.2.1,o.2.2.1,()))
  |.inr o2=>
   some (.inr (o2.1,o2.2.1,()))
 |.inr r2=>
  some (.inr (r2.1,r2.2.1,()))
def cv(aV:gz)(aP:gy)(aJ:gA)(k:Nat)(ak:XT)(aE jj depth:Int)(aA:XN):Option (((Int×Int×Int×XN×Unit)⊕(Int×Int×Unit))):=
 (dc ak aE jj).bind fun r1=>
 (aG ak jj ([110,111,116]:an)).bind fun r2=>
 bif r2.1 then
  (fF ak aE r2.2.1 depth).bind fun r=>match r with
  |.inl r3=>
   (aJ ak aE r2.2.1 r3.1 aA).bind fun r=>match r with
   |.inl r5=>
    (bC r5.2.2.2.1 (33,r1.1,0,([]:an),[r5.1])).bind fun r7=>
    some (.inl (r7.1,r5.2.1,(dq (r5.2.2.1 - 1)),r7.2.1,()))
   |.inr r6=>
    some (.inr (r6.1,r6.2.1,()))
  |.inr r4=>
   some (.inr (r4.1,r4.2.1,()))
 else
  (aG ak r2.2.1 ([91]:an)).bind fun r8=>
  bif r8.1 then
   (fF ak aE r8.2.1 depth).bind fun r=>match r with
   |.inl r9=>
    (aV ak aE r8.2.1 r9.1 aA).bind fun r=>match r with
    |.inl pT=>
     (a8 ak aE pT.2.1 ([93]:an)).bind fun r=>match r with
     |.inl sM=>
      some (.inl (pT.1,sM.1,(dq (pT.2.2.1 - 1)),pT.2.2.2.1,()))
     |.inr sX=>
      some (.inr (sX.1,sX.2.1,()))
    |.inr rh=>
     some (.inr (rh.1,rh.2.1,()))
   |.inr mY=>
    some (.inr (mY.1,mY.2.1,()))
  else
   (aG ak r8.2.1 ([110,117,108,108]:an)).bind fun sa=>
   bif sa.1 then
    (de ak aE sa.2.1 1).bind fun r=>match r with
    |.inl tZ=>
     (bC aA (34,r1.1,0,tZ.1.2.2.1,[])).bind fun sO=>
     some (.inl (sO.1,tZ.2.1,depth,sO.2.1,()))
    |.inr wL=>
     some (.inr (wL.1,wL.2.1,()))
   else
    (aj k ak aE sa.2.1 depth aA 1).bind fun r=>match r with
    |.inl sY=>
     (dc ak aE sY.2.1).bind fun AY=>
     aa (fun(cmp:Int)=>
      bif cmp == 0 then
       (gN ak aE sY.2.1 6).bind fun Nh=>
       some (.inr (Nh.1,Nh.2.1,()))
      else
       (aj k ak aE (dq (sY.2.1 + 1)) sY.2.2.1 sY.2.2.2.1 1).bind fun r=>match r with
       |.inl Im=>
        (bC Im.2.2.2.1 (30,AY.1,cmp,([]:an),[sY.1,Im.1])).bind fun r26=>
        some (.inl (r26.1,Im.2.1,Im.2.2.1,r26.2.1,()))
       |.inr r25=>
        some (.inr (r25.1,r25.2.1,()))) fun cD=>
     bif decide (sY.2.1 < (ak.length:Int)) then
      (bH ak sY.2.1).bind fun x1=>
      (Bo k x1.2.2.1).bind fun NX=>
      cD NX.1
     else
      cD 0
    |.inr yp=>
     some (.inr (yp.1,yp.2.1,()))
def dr:Nat→gz×gy×gA
 |0=>(fun _ _ _ _ _=>none,fun _ _ _ _ _=>none,fun _ _ _ _ _=>none)
 |k + 1=>(ky (dr k).1 (dr k).2.1 (dr k).2.2 k,kx (dr k).1 (dr k).2.1 (dr k).2.2 k,cv (dr k).1 (dr k).2.1 (dr k).2.2 k)
def dK(k:Nat):gz:=(dr k).1
def eK(k:Nat):gy:=(dr k).2.1
def dL(k:Nat):gA:=(dr k).2.2
section
variable (aV:Gd bz 167 xo) (aP:Gd bz 180 xm) (aJ:Gd bz 185 xp)
def uk(k:Nat):mg:=⟨⟨27,[(126,5)],[lD 126 0 sT,lI 126 1,rP 0 126],[lI 126 2,lI 126 3,lF 126 4 tN,rI 3],[]⟩,[.ex (.exit 0) [lI 126 2,lI 126 3,lF 126 4 tN,rI 3],.zM 128 [I,I]],fun q c v=>fe aV.1 aP.1 aJ.1 k q c.1 c.2.1 v.1 v.2.1 v.2.2.1 v.2.2.2.1⟩
def xe(k:Nat):Ev bz:=⟨[dF,mw,eB,aP.cl],[lp 0 (uk aV aP aJ k) k],[]⟩
def Cs(k q:Nat):Cd bz:=nD (xe aV aP aJ k) f167 0 (uk aV aP aJ k) q []
def F4(k:Nat):Cl bz:=mX (xe aV aP aJ k) 167 f167 func167 call167 [500000] (oP (ky aV.1 aP.1 aJ.1 k)) [Cs aV aP aJ k k]
def uj(k:Nat):mg:=⟨⟨27,[(126,5)],[lD 126 0 sT,lI 126 1,rP 0 126],[lI 126 2,lI 126 3,lF 126 4 tN,rI 3],[]⟩,[.ex (.exit 0) [lI 126 2,lI 126 3,lF 126 4 tN,rI 3],.zM 128 [I,I]],fun q c v=>fd aV.1 aP.1 aJ.1 k q c.1 c.2.1 v.1 v.2.1 v.2.2.1 v.2.2.2.1⟩
def xd(k:Nat):Ev bz:=⟨[dF,mw,eB,aJ.cl],[lp 0 (uj aV aP aJ k) k],[]⟩
def Cr(k q:Nat):Cd bz:=nD (xd aV aP aJ k) f180 0 (uj aV aP aJ k) q []
def F3(k:Nat):Cl bz:=mX (xd aV aP aJ k) 180 f180 func180 call180 [500000] (oO (kx aV.1 aP.1 aJ.1 k)) [Cr aV aP aJ k k]
def F5(k:Nat):Cl bz:=mX ⟨[fC,gS,gB,dF,jk,eB,kS,my k,aV.cl,aJ.cl,Pu k],[],[]⟩ 185 f185 func185 call185 [500000] (oQ (cv aV.1 aP.1 aJ.1 k)) []
end
theorem li:∀ k,l8 prog gt 167 (xo (dK k))∧l8 prog gt 180 (xm (eK k))∧l8 prog gt 185 (xp (dL k))
 |0=>⟨dh (fun _ _=>rfl),dh (fun _ _=>rfl),dh (fun _ _=>rfl)⟩
 |k + 1=>have ih:=li k;⟨(F4 ⟨_,ih.1⟩ ⟨_,ih.2.1⟩ ⟨_,ih.2.2⟩ k).ok,(F3 ⟨_,ih.1⟩ ⟨_,ih.2.1⟩ ⟨_,ih.2.2⟩ k).ok,(F5 ⟨_,ih.1⟩ ⟨_,ih.2.1⟩ ⟨_,ih.2.2⟩ k).ok⟩
def FT(k:Nat):Cl bz:=⟨_,_,(li k).1⟩
def Tl(k:Nat):Cl bz:=⟨_,_,(li k).2.1⟩
def Tm(k:Nat):Cl bz:=⟨_,_,(li k).2.2⟩
abbrev dP:=XT→Int→Int→Int→XN→Int→Option (((Int×Int×Int×XN×Unit)⊕(Int×Int×Unit)))
def kH(f:dP):DU:=⟨⟨26,[(126,5)],[lD 126 0 sT,lI 126 1],[rP 0 126,rI 1,lI 126 2,lI 126 3,lF 126 4 tN],[]⟩,[.ret [rI 500000,lI 126 2,lI 126 3,lF 126 4 tN] [],.zM 128 [I,I]],fun c v=>f c.1 c.2.1 v.2.2.1 v.2.2.2.1 v.2.2.2.2.1 v.2.1⟩
def rp(f:dP):iX:=mI (kH f).L (kH f).F (AW [500000] (kH f).V)
abbrev dZ:=XT→Int→Int→Int→XN→Option (((Int×Int×Int×XN×Unit)⊕(Int×Int×Unit)))
def ld(f:dZ):DU:=⟨⟨128,[(126,5)],[lD 126 0 sT,lI 126 1],[rP 0 126,lI 126 2,lI 126 3,lF 126 4 tN],[]⟩,[.ret [rI 500000,lI 126 2,lI 126 3,lF 126 4 tN] [],.zM 128 [I,I]],fun c v=>f c.1 c.2.1 v.2.1 v.2.2.1 v.2.2.2.1⟩
def su(f:dZ):iX:=mI (ld f).L (ld f).F (AW [500000] (ld f).V)
abbrev fO:=XT→Int→Int→Int→XN→Option (((Int×Int×Int×XN×Unit)⊕(Int×Int×Unit)))
def n8(f:fO):DU:=⟨⟨13,[(126,5)],[lD 126 0 sT,lI 126 1],[rP 0 126,lI 126 2,lI 126 3,lF 126 4 tN],[]⟩,[.ret [rI 500000,lI 126 2,lI 126 3,lF 126 4 tN] [],.zM 128 [I,I]],fun c v=>f c.1 c.2.1 v.2.1 v.2.2.1 v.2.2.2.1⟩
def vX(f:fO):iX:=mI (n8 f).L (n8 f).F (AW [500000] (n8 f).V)
abbrev eC:=XT→Int→Int→Int→XN→Option (((Int×Int×Int×XN×Unit)⊕(Int×Int×Unit)))
def l6(f:eC):DU:=⟨⟨30,[(126,5)],[lD 126 0 sT,lI 126 1],[rP 0 126,lI 126 2,lI 126 3,lF 126 4 tN],[]⟩,[.ret [rI 500000,lI 126 2,lI 126 3,lF 126 4 tN] [],.zM 128 [I,I]],fun c v=>f c.1 c.2.1 v.2.1 v.2.2.1 v.2.2.2.1⟩
def td(f:eC):iX:=mI (l6 f).L (l6 f).F (AW [500000] (l6 f).V)
def bS(aT:dP)(aZ:dZ)(a7:fO)(bf:eC)(q:Nat):Nat→XT→Int→Int→Int→XN→XI→Option (((Int×Int×XN×XI×Unit)⊕(Int×Int×Unit)))
 |0,_,_,_,_,_,_=>none
 |k + 1,cL,fK,at3,ol,bX,cB=>
  (aG cL at3 ([125]:an)).bind fun r1=>
  bif !r1.1 then
   (aZ cL fK r1.2.1 ol bX).bind fun r=>match r with
   |.inl r2=>
    (lq cB ([r2.1])).bind fun l=>
    bS aT aZ a7 bf q k cL fK r2.2.1 r2.2.2.1 r2.2.2.2.1 l
   |.inr r3=>
    some (.inr (r3.1,r3.2.1,()))
  else
   some (.inl (r1.2.1,ol,bX,cB,()))
def fG(aT:dP)(aZ:dZ)(a7:fO)(bf:eC)(k:Nat)(ak:XT)(aE jj depth:Int)(aA:XN)(sR:Int):Option (((Int×Int×Int×XN×Unit)⊕(Int×Int×Unit))):=
 (bS aT aZ a7 bf k k ak aE jj depth aA []).bind fun r=>match r with
 |.inl o=>
  (bC o.2.2.1 (8,sR,0,([]:an),o.2.2.2.1)).bind fun r1=>
  some (.inl (r1.1,o.1,(dq (o.2.1 - 1)),r1.2.1,()))
 |.inr o2=>
  some (.inr (o2.1,o2.2.1,()))
def bt(aT:dP)(aZ:dZ)(a7:fO)(bf:eC)(k:Nat)(ak:XT)(aE jj depth:Int)(aA:XN):Option (((Int×Int×Int×XN×Unit)⊕(Int×Int×Unit))):=
 (il ak jj 1).bind fun r1=>
 bif r1.1 then
  (cm k ak aE jj depth aA).bind fun r=>match r with
  |.inl r2=>
   some (.inl (r2.1,r2.2.1,r2.2.2.1,r2.2.2.2.1,()))
  |.inr r3=>
   some (.inr (r3.1,r3.2.1,()))
 else
  (dc ak aE jj).bind fun r4=>
  aa (fun(jv:Int×Int×Int×XN×Int×an×XI)=>
   (a8 ak aE (jv.2.1) ([59]:an)).bind fun r=>match r with
   |.inl r44=>
    (bC (jv.2.2.2.1) ((jv.2.2.2.2.1),(jv.1),0,(jv.2.2.2.2.2.1),(jv.2.2.2.2.2.2))).bind fun r46=>
    some (.inl (r46.1,r44.1,(jv.2.2.1),r46.2.1,()))
   |.inr r45=>
    some (.inr (r45.1,r45.2.1,()))) fun jH=>
  (aG ak jj ([42]:an)).bind fun r5=>
  bif r5.1 then
   (de ak aE r5.2.1 1).bind fun r=>match r with
   |.inl r6=>
    (a8 ak aE r6.2.1 ([61]:an)).bind fun r=>match r with
    |.inl r8=>
     (aj k ak aE r8.1 depth aA 1).bind fun r=>match r with
     |.inl mY=>
      jH (r4.1,mY.2.1,mY.2.2.1,mY.2.2.2.1,11,r6.1.2.2.1,[mY.1])
     |.inr pT=>
      some (.inr (pT.1,pT.2.1,()))
    |.inr r9=>
     some (.inr (r9.1,r9.2.1,()))
   |.inr r7=>
    some (.inr (r7.1,r7.2.1,()))
  else
   (aG ak r5.2.1 ([105,102]:an)).bind fun rh=>
   bif rh.1 then
    (dK k ak aE rh.2.1 depth aA).bind fun r=>match r with
    |.inl sM=>
     (a7 ak aE sM.2.1 sM.2.2.1 sM.2.2.2.1).bind fun r=>match r with
     |.inl sa=>
      (lq ([sM.1]) ([sa.1])).bind fun l=>
      aa (fun(jv:Int×Int×XN×XI)=>
       (bC (jv.2.2.1) (14,r4.1,0,([]:an),(jv.2.2.2))).bind fun yp=>
       some (.inl (yp.1,(jv.1),(jv.2.1),yp.2.1,()))) fun cD=>
      (aG ak sa.2.1 ([101,108,115,101]:an)).bind fun wL=>
      bif wL.1 then
       (a7 ak aE wL.2.1 sa.2.2.1 sa.2.2.2.1).bind fun r=>match r with
       |.inl sO=>
        (lq l ([sO.1])).bind fun l2=>
        cD (sO.2.1,sO.2.2.1,sO.2.2.2.1,l2)
       |.inr sY=>
        some (.inr (sY.1,sY.2.1,()))
      else
       cD (wL.2.1,sa.2.2.1,sa.2.2.2.1,l)
     |.inr tZ=>
      some (.inr (tZ.1,tZ.2.1,()))
    |.inr sX=>
     some (.inr (sX.1,sX.2.1,()))
   else
    (aG ak rh.2.1 ([119,104,105,108,101]:an)).bind fun AY=>
    bif AY.1 then
     (dK k ak aE AY.2.1 depth aA).bind fun r=>match r with
     |.inl NX=>
      (a7 ak aE NX.2.1 NX.2.2.1 NX.2.2.2.1).bind fun r=>match r with
      |.inl Im=>
       (lq ([NX.1]) ([Im.1])).bind fun l3=>
       (bC Im.2.2.2.1 (15,r4.1,0,([]:an),l3)).bind fun r26=>
       some (.inl (r26.1,Im.2.1,Im.2.2.1,r26.2.1,()))
      |.inr r25=>
       some (.inr (r25.1,r25.2.1,()))
     |.inr Nh=>
      some (.inr (Nh.1,Nh.2.1,()))
    else
     (aG ak AY.2.1 ([102,111,114]:an)).bind fun r27=>
     bif r27.1 then
      (bf ak aE r27.2.1 depth aA).bind fun r=>match r with
      |.inl r28=>
       some (.inl (r28.1,r28.2.1,r28.2.2.1,r28.2.2.2.1,()))
      |.inr r29=>
       some (.inr (r29.1,r29.2.1,()))
     else
      (aG ak r27.2.1 ([114,101,97,100]:an)).bind fun r30=>
      bif r30.1 then
       (de ak aE r30.2.1 1).bind fun r=>match r with
       |.inl r31=>
        (bH ak (dq (r31.2.1 - 1))).bind fun x1=>
        jH (x1.2.1,r31.2.1,depth,aA,17,r31.1.2.2.1,[])
       |.inr r32=>
        some (.inr (r32.1,r32.2.1,()))
      else
       (aG ak r30.2.1 ([112,114,105,110,116]:an)).bind fun r33=>
       bif r33.1 then
        (aj k ak aE r33.2.1 depth aA 1).bind fun r=>match r with
        |.inl r34=>
         jH (r4.1,r34.2.1,r34.2.2.1,r34.2.2.2.1,18,([]:an),[r34.1])
        |.inr r35=>
         some (.inr (r35.1,r35.2.1,()))
       else
        (aG ak r33.2.1 ([97,115,115,101,114,116]:an)).bind fun r36=>
        bif r36.1 then
         (dK k ak aE r36.2.1 depth aA).bind fun r=>match r with
         |.inl r37=>
          jH (r4.1,r37.2.1,r37.2.2.1,r37.2.2.2.1,19,([]:an),[r37.1])
         |.inr r38=>
          some (.inr (r38.1,r38.2.1,()))
        else
         (aG ak r36.2.1 ([115,116,111,112]:an)).bind fun r39=>
         bif r39.1 then
          jH (r4.1,r39.2.1,depth,aA,20,([]:an),[])
         else
          (aG ak r39.2.1 ([114,101,116,117,114,110]:an)).bind fun r40=>
          bif r40.1 then
           (aj k ak aE r40.2.1 depth aA 1).bind fun r=>match r with
           |.inl r41=>
            jH (r4.1,r41.2.1,r41.2.2.1,r41.2.2.2.1,21,([]:an),[r41.1])
           |.inr r42=>
            some (.inr (r42.1,r42.2.1,()))
          else
           (gN ak aE r40.2.1 6).bind fun r43=>
           some (.inr (r43.1,r43.2.1,()))
def iH(aT:dP)(aZ:dZ)(a7:fO)(bf:eC)(k:Nat)(ak:XT)(aE jj depth:Int)(aA:XN):Option (((Int×Int×Int×XN×Unit)⊕(Int×Int×Unit))):=
 (dc ak aE jj).bind fun r1=>
 (a8 ak aE jj ([123]:an)).bind fun r=>match r with
 |.inl r2=>
  (fF ak aE r2.1 depth).bind fun r=>match r with
  |.inl r4=>
   (aT ak aE r2.1 r4.1 aA r1.1).bind fun r=>match r with
   |.inl r6=>
    some (.inl (r6.1,r6.2.1,r6.2.2.1,r6.2.2.2.1,()))
   |.inr r7=>
    some (.inr (r7.1,r7.2.1,()))
  |.inr r5=>
   some (.inr (r5.1,r5.2.1,()))
 |.inr r3=>
  some (.inr (r3.1,r3.2.1,()))
def jS(aT:dP)(aZ:dZ)(a7:fO)(bf:eC)(k:Nat)(ak:XT)(aE jj depth:Int)(aA:XN):Option (((Int×Int×Int×XN×Unit)⊕(Int×Int×Unit))):=
 (de ak aE jj 1).bind fun r=>match r with
 |.inl r1=>
  (a8 ak aE r1.2.1 ([61]:an)).bind fun r=>match r with
  |.inl r3=>
   (aj k ak aE r3.1 depth aA 1).bind fun r=>match r with
   |.inl r5=>
    (a8 ak aE r5.2.1 ([46,46]:an)).bind fun r=>match r with
    |.inl r7=>
     (aj k ak aE r7.1 r5.2.2.1 r5.2.2.2.1 1).bind fun r=>match r with
     |.inl r9=>
      (a7 ak aE r9.2.1 r9.2.2.1 r9.2.2.2.1).bind fun r=>match r with
      |.inl pT=>
       (bC pT.2.2.2.1 (16,r1.1.2.1,0,r1.1.2.2.1,[r5.1,r9.1,pT.1])).bind fun sM=>
       some (.inl (sM.1,pT.2.1,pT.2.2.1,sM.2.1,()))
      |.inr rh=>
       some (.inr (rh.1,rh.2.1,()))
     |.inr mY=>
      some (.inr (mY.1,mY.2.1,()))
    |.inr r8=>
     some (.inr (r8.1,r8.2.1,()))
   |.inr r6=>
    some (.inr (r6.1,r6.2.1,()))
  |.inr r4=>
   some (.inr (r4.1,r4.2.1,()))
 |.inr r2=>
  some (.inr (r2.1,r2.2.1,()))
def aF:Nat→dP×dZ×fO×eC
 |0=>(fun _ _ _ _ _ _=>none,fun _ _ _ _ _=>none,fun _ _ _ _ _=>none,fun _ _ _ _ _=>none)
 |k + 1=>(fG (aF k).1 (aF k).2.1 (aF k).2.2.1 (aF k).2.2.2 k,bt (aF k).1 (aF k).2.1 (aF k).2.2.1 (aF k).2.2.2 k,iH (aF k).1 (aF k).2.1 (aF k).2.2.1 (aF k).2.2.2 k,jS (aF k).1 (aF k).2.1 (aF k).2.2.1 (aF k).2.2.2 k)
def dd(k:Nat):dP:=(aF k).1
def cX(k:Nat):dZ:=(aF k).2.1
def hY(k:Nat):fO:=(aF k).2.2.1
def gp(k:Nat):eC:=(aF k).2.2.2
section
variable (aT:Gd bz 133 rp) (aZ:Gd bz 158 su) (a7:Gd bz 168 vX) (bf:Gd bz 169 td)
def pS(k:Nat):mg:=⟨⟨26,[(126,5)],[lD 126 0 sT,lI 126 1,rP 0 126,rI 1],[lI 126 2,lI 126 3,lF 126 4 tN,(.r 5,.h .dE I)],[]⟩,[.ex (.exit 0) [lI 126 2,lI 126 3,lF 126 4 tN,(.r 5,.h .dE I)],.zM 128 [I,I]],fun q c v=>bS aT.1 aZ.1 a7.1 bf.1 k q c.1 c.2.1 v.1 v.2.1 v.2.2.1 v.2.2.2.1⟩
def rk(k:Nat):Ev bz:=⟨[fC,dF,aZ.cl],[lp 0 (pS aT aZ a7 bf k) k],[]⟩
def wu(k q:Nat):Cd bz:=nD (rk aT aZ a7 bf k) f133 0 (pS aT aZ a7 bf k) q []
def zx(k:Nat):Cl bz:=mX (rk aT aZ a7 bf k) 133 f133 func133 call133 [500000] (kH (fG aT.1 aZ.1 a7.1 bf.1 k)) [wu aT aZ a7 bf k k]
def Ai(k:Nat):Cl bz:=mX ⟨[fC,gS,gB,dF,jk,l9,eB,Cy k,my k,FT k,a7.cl,bf.cl],[],[(4,47)]⟩ 158 f158 func158 call158 [500000] (ld (bt aT.1 aZ.1 a7.1 bf.1 k)) []
def EG(k:Nat):Cl bz:=mX ⟨[gB,eB,kS,aT.cl],[],[]⟩ 168 f168 func168 call168 [500000] (n8 (iH aT.1 aZ.1 a7.1 bf.1 k)) []
def Bh(k:Nat):Cl bz:=mX ⟨[gS,gB,dF,my k,a7.cl],[],[(3,110)]⟩ 169 f169 func169 call169 [500000] (l6 (jS aT.1 aZ.1 a7.1 bf.1 k)) []
end
theorem gm:∀ k,l8 prog gt 133 (rp (dd k))∧l8 prog gt 158 (su (cX k))∧l8 prog gt 168 (vX (hY k))∧l8 prog gt 169 (td (gp k))
 |0=>⟨dh (fun _ _=>rfl),dh (fun _ _=>rfl),dh (fun _ _=>rfl),dh (fun _ _=>rfl)⟩
 |k + 1=>have ih:=gm k;⟨(zx ⟨_,ih.1⟩ ⟨_,ih.2.1⟩ ⟨_,ih.2.2.1⟩ ⟨_,ih.2.2.2⟩ k).ok,(Ai ⟨_,ih.1⟩ ⟨_,ih.2.1⟩ ⟨_,ih.2.2.1⟩ ⟨_,ih.2.2.2⟩ k).ok,(EG ⟨_,ih.1⟩ ⟨_,ih.2.1⟩ ⟨_,ih.2.2.1⟩ ⟨_,ih.2.2.2⟩ k).ok,(Bh ⟨_,ih.1⟩ ⟨_,ih.2.1⟩ ⟨_,ih.2.2.1⟩ ⟨_,ih.2.2.2⟩ k).ok⟩
def zu(k:Nat):Cl bz:=⟨_,_,(gm k).1⟩
def N8(k:Nat):Cl bz:=⟨_,_,(gm k).2.1⟩
def Ta(k:Nat):Cl bz:=⟨_,_,(gm k).2.2.1⟩
def Pw(k:Nat):Cl bz:=⟨_,_,(gm k).2.2.2⟩
end
end Go.Fx.R5
namespace Go.Fx.R5
open Go Go.Fx Go.Proofs Go.Proofs.Tryz
noncomputable section
def bY(q:Nat):Nat→XT→Int→Int→XN→XI→Option (((Int×XN×XI×Unit)⊕(Int×Int×Unit)))
 |0,_,_,_,_,_=>none
 |k + 1,cL,fK,sR,bX,cB=>
  (aG cL sR ([44]:an)).bind fun r8=>
  bif r8.1 then
   (eR cL fK r8.2.1 bX 5).bind fun r=>match r with
   |.inl r9=>
    (lq cB ([r9.1])).bind fun l2=>
    bY q k cL fK r9.2.1 r9.2.2.1 l2
   |.inr mY=>
    some (.inr (mY.1,mY.2.1,()))
  else
   some (.inl (r8.2.1,bX,cB,()))
def cG(q:Nat):Nat→XT→Int→Int→Int→XN→XI→Option (((Int×XN×XI×Unit)⊕(Int×Int×Unit)))
 |0,_,_,_,_,_,_=>none
 |k + 1,QQ,VP,aa6,at5,Yp,aa5=>
  (aG QQ at5 ([44]:an)).bind fun yp=>
  bif yp.1 then
   (eR QQ VP yp.2.1 Yp aa6).bind fun r=>match r with
   |.inl AY=>
    (lq aa5 ([AY.1])).bind fun l3=>
    cG q k QQ VP aa6 AY.2.1 AY.2.2.1 l3
   |.inr NX=>
    some (.inr (NX.1,NX.2.1,()))
  else
   some (.inl (yp.2.1,Yp,aa5,()))
def ct(q:Nat):Nat→XT→Int→Int→XN→XI→Option (((Int×XN×XI×Unit)⊕(Int×Int×Unit)))
 |0,_,_,_,_,_=>none
 |k + 1,cL,fK,at3,Dx,OC=>
  (eL cL at3 0 ([118,97,114]:an)).bind fun sa=>
  aa (fun(v:Bool)=>
   bif v then
    aa (fun(Dm:Int)=>
     (eR cL fK (dq (at3 + 1)) Dx Dm).bind fun r=>match r with
     |.inl sO=>
      (lq OC ([sO.1])).bind fun l2=>
      (cG q q cL fK Dm sO.2.1 sO.2.2.1 l2).bind fun r=>match r with
      |.inl o3=>
       (a8 cL fK o3.1 ([59]:an)).bind fun r=>match r with
       |.inl yp=>
        ct q k cL fK yp.1 o3.2.1 o3.2.2.1
       |.inr AY=>
        some (.inr (AY.1,AY.2.1,()))
      |.inr o4=>
       some (.inr (o4.1,o4.2.1,()))
     |.inr sY=>
      some (.inr (sY.1,sY.2.1,()))) fun jH=>
    (eL cL at3 0 ([114,101,102]:an)).bind fun wL=>
    bif wL.1 then
     jH 7
    else
     jH 6
   else
    some (.inl (at3,Dx,OC,()))) fun cD=>
  bif sa.1 then
   cD true
  else
   (eL cL at3 0 ([114,101,102]:an)).bind fun tZ=>
   cD tZ.1
def cU(k:Nat)(ak:XT)(aE jj depth:Int)(aA:XN):Option (((Int×Int×Int×XN×Unit)⊕(Int×Int×Unit))):=
 (de ak aE jj 1).bind fun r=>match r with
 |.inl r1=>
  (a8 ak aE r1.2.1 ([40]:an)).bind fun r=>match r with
  |.inl r3=>
   aa (fun(jv:XI×Int×XN)=>
    (dc ak aE (jv.2.1)).bind fun mY=>
    (a8 ak aE (jv.2.1) ([123]:an)).bind fun r=>match r with
    |.inl pT=>
     (fF ak aE pT.1 depth).bind fun r=>match r with
     |.inl sM=>
      (ct k k ak aE pT.1 (jv.2.2) (jv.1)).bind fun r=>match r with
      |.inl o3=>
       (dd k ak aE o3.1 sM.1 o3.2.1 mY.1).bind fun r=>match r with
       |.inl sa=>
        (lq o3.2.2.1 ([sa.1])).bind fun l2=>
        (bC sa.2.2.2.1 (4,r1.1.2.1,0,r1.1.2.2.1,l2)).bind fun wL=>
        some (.inl (wL.1,sa.2.1,sa.2.2.1,wL.2.1,()))
       |.inr tZ=>
        some (.inr (tZ.1,tZ.2.1,()))
      |.inr o4=>
       some (.inr (o4.1,o4.2.1,()))
     |.inr sX=>
      some (.inr (sX.1,sX.2.1,()))
    |.inr rh=>
     some (.inr (rh.1,rh.2.1,()))) fun cD=>
   (aG ak r3.1 ([41]:an)).bind fun r5=>
   bif !r5.1 then
    (eR ak aE r5.2.1 aA 5).bind fun r=>match r with
    |.inl r6=>
     (lq ([]:XI) ([r6.1])).bind fun l=>
     (bY k k ak aE r6.2.1 r6.2.2.1 l).bind fun r=>match r with
     |.inl o=>
      (a8 ak aE o.1 ([41]:an)).bind fun r=>match r with
      |.inl r8=>
       cD (o.2.2.1,r8.1,o.2.1)
      |.inr r9=>
       some (.inr (r9.1,r9.2.1,()))
     |.inr o2=>
      some (.inr (o2.1,o2.2.1,()))
    |.inr r7=>
     some (.inr (r7.1,r7.2.1,()))
   else
    cD ([],r5.2.1,aA)
  |.inr r4=>
   some (.inr (r4.1,r4.2.1,()))
 |.inr r2=>
  some (.inr (r2.1,r2.2.1,()))
def qR(k:Nat):mg:=⟨⟨79,[(110,4),(126,5)],[lI 110 0,lI 110 1,lD 110 2 .str,lI 110 3,lD 126 0 sT,lI 126 1,lI 126 3,rP 0 126,rP 3 110],[lI 126 2,lF 126 4 tN,(.r 4,.h .dE I)],[]⟩,[.ex (.exit 0) [lI 126 2,lF 126 4 tN,(.r 4,.h .dE I)],.zM 128 [I,I]],fun q c v=>bY k q c.2.2.2.2.1 c.2.2.2.2.2.1 v.1 v.2.1 v.2.2.1⟩
def qT(k:Nat):mg:=⟨⟨79,[(110,4),(126,5)],[lI 110 0,lI 110 1,lD 110 2 .str,lI 110 3,lD 126 0 sT,lI 126 1,lI 126 3,rP 0 126,rP 3 110,rI 5,rI 6],[lI 126 2,lF 126 4 tN,(.r 4,.h .dE I)],[]⟩,[.ex (.exit 4) [lI 126 2,lF 126 4 tN,(.r 4,.h .dE I)],.zM 128 [I,I]],fun q c v=>cG k q c.2.2.2.2.1 c.2.2.2.2.2.1 c.2.2.2.2.2.2.2.2.2.2.1 v.1 v.2.1 v.2.2.1⟩
def qS(k:Nat):mg:=⟨⟨79,[(110,4),(126,5)],[lI 110 0,lI 110 1,lD 110 2 .str,lI 110 3,lD 126 0 sT,lI 126 1,lI 126 3,rP 0 126,rP 3 110,rI 5],[lI 126 2,lF 126 4 tN,(.r 4,.h .dE I)],[]⟩,[.ex (.exit 2) [lI 126 2,lF 126 4 tN,(.r 4,.h .dE I)],.zM 128 [I,I]],fun q c v=>ct k q c.2.2.2.2.1 c.2.2.2.2.2.1 v.1 v.2.1 v.2.2.1⟩
def l7(k:Nat):Ev bz:=⟨[fC,gS,gB,dF,qX,mw,eB,kS,zu k],[lp 0 (qR k) k,lp 4 (qT k) k,lp 2 (qS k) k],[(3,110)]⟩
def yA(k q:Nat):Cd bz:=nD (l7 k) f111 0 (qR k) q []
def yC(k q:Nat):Cd bz:=nD (l7 k) f111 4 (qT k) q []
def yB(k q:Nat):Cd bz:=nD (l7 k) f111 2 (qS k) q [yC k k]
def Bc(k:Nat):Cl bz:=mX (l7 k) 111 f111 func111 call111 [500000] ⟨⟨79,[(126,5)],[lD 126 0 sT,lI 126 1],[rP 0 126,lI 126 2,lI 126 3,lF 126 4 tN],[]⟩,[.ret [rI 500000,lI 126 2,lI 126 3,lF 126 4 tN] [],.zM 128 [I,I]],fun c v=>cU k c.1 c.2.1 v.2.1 v.2.2.1 v.2.2.2.1⟩ [yA k k,yB k k]
def aK(q:Nat):Nat→XT→Int→Int→Int→XN→XI→Option (((Int×Int×XN×XI×Unit)⊕(Int×Int×Unit)))
 |0,_,_,_,_,_,_=>none
 |k + 1,cL,fK,sR,ol,bX,cB=>
  bif decide (sR < (cL.length:Int)) then
   (aG cL sR ([97,114,114,97,121]:an)).bind fun r1=>
   bif r1.1 then
    (de cL fK r1.2.1 1).bind fun r=>match r with
    |.inl r2=>
     (a8 cL fK r2.2.1 ([91]:an)).bind fun r=>match r with
     |.inl r4=>
      (de cL fK r4.1 2).bind fun r=>match r with
      |.inl r6=>
       (a8 cL fK r6.2.1 ([93]:an)).bind fun r=>match r with
       |.inl r8=>
        (a8 cL fK r8.1 ([59]:an)).bind fun r=>match r with
        |.inl mY=>
         (bC bX (2,r2.1.2.1,r6.1.2.2.2,r2.1.2.2.1,[])).bind fun rh=>
         (lq cB ([rh.1])).bind fun l=>
         aK q k cL fK mY.1 ol rh.2.1 l
        |.inr pT=>
         some (.inr (pT.1,pT.2.1,()))
       |.inr r9=>
        some (.inr (r9.1,r9.2.1,()))
      |.inr r7=>
       some (.inr (r7.1,r7.2.1,()))
     |.inr r5=>
      some (.inr (r5.1,r5.2.1,()))
    |.inr r3=>
     some (.inr (r3.1,r3.2.1,()))
   else
    (aG cL r1.2.1 ([118,97,114]:an)).bind fun sM=>
    bif sM.1 then
     (eR cL fK sM.2.1 bX 3).bind fun r=>match r with
     |.inl sX=>
      (lq cB ([sX.1])).bind fun l2=>
      (a8 cL fK sX.2.1 ([59]:an)).bind fun r=>match r with
      |.inl tZ=>
       aK q k cL fK tZ.1 ol sX.2.2.1 l2
      |.inr wL=>
       some (.inr (wL.1,wL.2.1,()))
     |.inr sa=>
      some (.inr (sa.1,sa.2.1,()))
    else
     (aG cL sM.2.1 ([102,117,110,99]:an)).bind fun sO=>
     bif sO.1 then
      (cU q cL fK sO.2.1 ol bX).bind fun r=>match r with
      |.inl sY=>
       (lq cB ([sY.1])).bind fun l3=>
       aK q k cL fK sY.2.1 sY.2.2.1 sY.2.2.2.1 l3
      |.inr yp=>
       some (.inr (yp.1,yp.2.1,()))
     else
      (gN cL fK sO.2.1 6).bind fun AY=>
      some (.inr (AY.1,AY.2.1,()))
  else
   some (.inl (sR,ol,bX,cB,()))
def od(k:Nat)(ak:XT)(aE jj depth:Int)(aA:XN):Option (((Int×Int×XN×Unit)⊕(Int×Int×Unit))):=
 (aK k k ak aE jj depth aA []).bind fun r=>match r with
 |.inl o=>
  (bC o.2.2.1 (1,0,0,([]:an),o.2.2.2.1)).bind fun r1=>
  some (.inl (o.1,o.2.1,r1.2.1,()))
 |.inr o2=>
  some (.inr (o2.1,o2.2.1,()))
def ry(k:Nat):mg:=⟨⟨64,[(126,5)],[lD 126 0 sT,lI 126 1,rP 0 126],[lI 126 2,lI 126 3,lF 126 4 tN,(.r 2,.h .dE I)],[]⟩,[.ex (.exit 0) [lI 126 2,lI 126 3,lF 126 4 tN,(.r 2,.h .dE I)],.zM 128 [I,I]],fun q c v=>aK k q c.1 c.2.1 v.1 v.2.1 v.2.2.1 v.2.2.2.1⟩
def ua(k:Nat):Ev bz:=⟨[fC,gS,gB,dF,qX,Bc k,jk],[lp 0 (ry k) k],[]⟩
def zm(k q:Nat):Cd bz:=nD (ua k) f71 0 (ry k) q []
def Cx(k:Nat):Cl bz:=mX (ua k) 71 f71 func71 call71 [] ⟨⟨64,[(126,5)],[lD 126 0 sT,lI 126 1],[rP 0 126,lI 126 2,lI 126 3,lF 126 4 tN],[]⟩,[.ret [lI 126 2,lI 126 3,lF 126 4 tN] [],.zM 128 [I,I]],fun c v=>od k c.1 c.2.1 v.2.1 v.2.2.1 v.2.2.2.1⟩ [zm k k]
def pw(q:Nat):Nat→an→Int→Option (Int×Unit)
 |0,_,_=>none
 |k + 1,M2,at3=>
  aa (fun(v2:Bool)=>
   bif v2 then
    pw q k M2 (dq (at3 + 1))
   else
    some (at3,())) fun cD=>
  bif decide (at3 < (M2.length:Int)) then
   (bH M2 at3).bind fun b2=>
   cD ((b2.toNat:Int) != 10)
  else
   cD false
def it(q:Nat):Nat→an→Int→Option (((Int×Unit)⊕(Int×Unit)))
 |0,_,_=>none
 |k + 1,ic,sR=>
  bif decide (sR < (ic.length:Int)) then
   (bH ic sR).bind fun b=>
   aa (fun(v:Bool)=>
    bif v then
     it q k ic (dq (sR + 1))
    else
     bif (b.toNat:Int) == 35 then
      (pw q q ic sR).bind fun o=>
      it q k ic o.1
     else
      some (.inr (sR,()))) fun cD=>
   bif (b.toNat:Int) == 32 then
    cD ((b.toNat:Int) == 32)
   else
    cD ((b.toNat:Int) == 10)
  else
   some (.inl (sR,()))
def nB(k:Nat)(bF:an)(jj:Int):Option (Int×Unit):=
 (it k k bF jj).bind fun r=>match r with
 |.inl o=>
  some (o.1,())
 |.inr o2=>
  some (o2.1,())
def y4(k:Nat):mg:=⟨⟨33,[],[rD 0 .str],[rI 1],[]⟩,[.ex (.exit 3) [rI 1]],fun q c v=>pw k q c.1 v.1⟩
def y0(k:Nat):mg:=⟨⟨33,[],[rD 0 .str],[rI 1],[]⟩,[.ex (.exit 0) [rI 1],.ex .ret [rI 4]],fun q c v=>it k q c.1 v.1⟩
def xa(k:Nat):Ev bz:=⟨[],[lp 3 (y4 k) k,lp 0 (y0 k) k],[]⟩
def GH(k q:Nat):Cd bz:=nD (xa k) f104 3 (y4 k) q []
def GG(k q:Nat):Cd bz:=nD (xa k) f104 0 (y0 k) q [GH k k]
def Ls(k:Nat):Cl bz:=wv (xa k) 104 f104 func104 call104 [.str,I] [I] (fun d=>nB k d.1 d.2.1) [GG k k]
def tj(b:Int):Option (Bool×Unit):=
 aa (fun(v:Bool)=>
  some (v,())) fun cD=>
 bif decide (b≥97) then
  cD (decide (b≤122))
 else
  cD false
def ID:Cl bz:=wv ⟨[],[],[]⟩ 123 f123 func123 call123 [U] [.bool] (fun d=>tj d.1) []
def ru(b:Int):Option (Bool×Unit):=
 aa (fun(v:Bool)=>
  some (v,())) fun cD=>
 bif decide (b≥48) then
  cD (decide (b≤57))
 else
  cD false
def J4:Cl bz:=wv ⟨[],[],[]⟩ 124 f124 func124 call124 [U] [.bool] (fun d=>ru d.1) []
def yY(bF:an):Option (Bool×Unit):=
 aa (fun(v:Bool)=>
  bif v then
   some (true,())
  else
   some (false,())) fun cD=>
 bif bF == ([97,114,114,97,121]:an) then
  cD (bF == ([97,114,114,97,121]:an))
 else
  bif bF == ([118,97,114]:an) then
   cD (bF == ([118,97,114]:an))
  else
   bif bF == ([114,101,102]:an) then
    cD (bF == ([114,101,102]:an))
   else
    bif bF == ([102,117,110,99]:an) then
     cD (bF == ([102,117,110,99]:an))
    else
     bif bF == ([105,102]:an) then
      cD (bF == ([105,102]:an))
     else
      bif bF == ([101,108,115,101]:an) then
       cD (bF == ([101,108,115,101]:an))
      else
       bif bF == ([119,104,105,108,101]:an) then
        cD (bF == ([119,104,105,108,101]:an))
       else
        bif bF == ([102,111,114]:an) then
         cD (bF == ([102,111,114]:an))
        else
         bif bF == ([114,101,97,100]:an) then
          cD (bF == ([114,101,97,100]:an))
         else
          bif bF == ([112,114,105,110,116]:an) then
           cD (bF == ([112,114,105,110,116]:an))
          else
           bif bF == ([97,115,115,101,114,116]:an) then
            cD (bF == ([97,115,115,101,114,116]:an))
           else
            bif bF == ([115,116,111,112]:an) then
             cD (bF == ([115,116,111,112]:an))
            else
             bif bF == ([114,101,116,117,114,110]:an) then
              cD (bF == ([114,101,116,117,114,110]:an))
             else
              bif bF == ([97,110,100]:an) then
               cD (bF == ([97,110,100]:an))
              else
               bif bF == ([111,114]:an) then
                cD (bF == ([111,114]:an))
               else
                bif bF == ([110,111,116]:an) then
                 cD (bF == ([110,111,116]:an))
                else
                 cD (bF == ([110,117,108,108]:an))
def Nn:Cl bz:=wv ⟨[],[],[]⟩ 125 f125 func125 call125 [.str] [.bool] (fun d=>yY d.1) []
def mC(q:Nat):Nat→an→Int→XS→Int→Option (((Unit)⊕(an×Unit)))
 |0,_,_,_,_=>none
 |k + 1,ic,sR,KI,QN=>
  bif decide (QN < 30) then
   (bH KI QN).bind fun b=>
   (sub ic sR (ic.length:Int)).bind fun l=>
   (F8 l b).bind fun r1=>
   bif r1.1 then
    some (.inr (b,()))
   else
    mC q k ic sR KI (dq (QN + 1))
  else
   some (.inl ())
def yX(k:Nat)(bF:an)(jj:Int):Option (an×Unit):=
 aa (fun(v:Bool)=>
  bif v then
   some (([]:an),())
  else
   (mC k k bF jj wR 0).bind fun r=>match r with
   |.inl o=>
    some (([]:an),())
   |.inr o2=>
    some (o2.1,())) fun cD=>
 bif decide (jj < 0) then
  cD true
 else
  cD (decide (jj≥(bF.length:Int)))
def Aw(k:Nat):mg:=⟨⟨26,[],[rD 0 .str,rI 1,rD 15 (.arr 30 .str)],[rI 16],[]⟩,[.ex (.exit 0) [],.ex .ret [rD 4 .str]],fun q c v=>mC k q c.1 c.2.1 c.2.2.1 v.1⟩
def ET(k:Nat):Ev bz:=⟨[Rn],[lp 0 (Aw k) k],[]⟩
def In(k q:Nat):Cd bz:=nD (ET k) f128 0 (Aw k) q []
def Nm(k:Nat):Cl bz:=wv (ET k) 128 f128 func128 call128 [.str,I] [.str] (fun d=>yX k d.1 d.2.1) [In k k]
def oz(q:Nat):Nat→an→Int→Option (Int×Unit)
 |0,_,_=>none
 |k + 1,ic,aE=>
  aa (fun(v2:Bool)=>
   bif v2 then
    oz q k ic (dq (aE + 1))
   else
    some (aE,())) fun jH=>
  bif decide (aE < (ic.length:Int)) then
   (bH ic aE).bind fun b2=>
   (tj (b2.toNat:Int)).bind fun r2=>
   aa (fun(v:Bool)=>
    jH v) fun cD=>
   bif r2.1 then
    cD true
   else
    (bH ic aE).bind fun b3=>
    (ru (b3.toNat:Int)).bind fun r3=>
    cD r3.1
  else
   jH false
def oA(q:Nat):Nat→an→Int→Option (Int×Unit)
 |0,_,_=>none
 |k + 1,ic,aE=>
  aa (fun(v:Bool)=>
   bif v then
    oA q k ic (dq (aE + 1))
   else
    some (aE,())) fun cD=>
  bif decide (aE < (ic.length:Int)) then
   (bH ic aE).bind fun b3=>
   (ru (b3.toNat:Int)).bind fun r5=>
   cD r5.1
  else
   cD false
def jJ(k:Nat)(bF:an)(jj:Int):Option ((Int×Int×an×Int)×Int×Unit):=
 (bH bF jj).bind fun b=>
 (tj (b.toNat:Int)).bind fun r1=>
 bif r1.1 then
  (oz k k bF jj).bind fun o=>
  bif decide ((dq (o.1 - jj)) > 8) then
   some ((0,0,([]:an),0),3,())
  else
   aa (fun(Dm:Int)=>
    (sub bF jj o.1).bind fun l2=>
    (Be l2).bind fun r3=>
    some ((Dm,jj,r3.1,0),0,())) fun cD=>
   (sub bF jj o.1).bind fun l=>
   (yY l).bind fun r2=>
   bif r2.1 then
    cD 3
   else
    cD 1
 else
  (bH bF jj).bind fun b2=>
  (ru (b2.toNat:Int)).bind fun r4=>
  bif r4.1 then
   (oA k k bF jj).bind fun o2=>
   (sub bF jj o2.1).bind fun l3=>
   (pd l3).bind fun r5=>
   bif !r5.2.1 then
    some ((0,0,([]:an),0),4,())
   else
    (sub bF jj o2.1).bind fun l4=>
    (Be l4).bind fun r6=>
    some ((2,jj,r6.1,r5.1),0,())
  else
   (yX k bF jj).bind fun r7=>
   bif r7.1 == ([]:an) then
    some ((0,0,([]:an),0),2,())
   else
    some ((4,jj,r7.1,0),0,())
def xS(k:Nat):mg:=⟨⟨98,[(110,4)],[lI 110 0,lI 110 1,lD 110 2 .str,lI 110 3,rD 0 .str,rI 1,rP 4 110],[rI 6],[]⟩,[.ex (.exit 1) [rI 6]],fun q c v=>oz k q c.2.2.2.2.1 v.1⟩
def xT(k:Nat):mg:=⟨⟨98,[(110,4)],[lI 110 0,lI 110 1,lD 110 2 .str,lI 110 3,rD 0 .str,rI 1,rP 4 110],[rI 6],[]⟩,[.ex (.exit 3) [rI 6]],fun q c v=>oA k q c.2.2.2.2.1 v.1⟩
def vH(k:Nat):Ev bz:=⟨[ID,J4,Nn,Zt,Rq,Nm k],[lp 1 (xS k) k,lp 3 (xT k) k],[(4,110)]⟩
def Fv(k q:Nat):Cd bz:=nD (vH k) f105 1 (xS k) q []
def Fw(k q:Nat):Cd bz:=nD (vH k) f105 3 (xT k) q []
def J5(k:Nat):Cl bz:=wv (vH k) 105 f105 func105 call105 [.str,I] [tT,I] (fun d=>jJ k d.1 d.2.1) [Fv k k,Fw k k]
def eQ(q:Nat):Nat→an→Int→Int→XT→Int→Option (((Int×Int×XT×Unit)⊕(Int×Int×Unit)))
 |0,_,_,_,_,_=>none
 |k + 1,ic,w,w2,ak,jj=>
  bif decide (jj < (ic.length:Int)) then
   (jJ q ic jj).bind fun r2=>
   aa (fun(code:Int)=>
    bif code != 0 then
     some (.inr (code,jj,()))
    else
     (lq ak ([r2.1])).bind fun l=>
     (nB q ic (dq (jj + (r2.1.2.2.1.length:Int)))).bind fun r3=>
     eQ q k ic w w2 l r3.1) fun jH=>
   aa (fun(v:Bool)=>
    bif v then
     jH 5
    else
     jH r2.2.1) fun cD=>
   bif r2.2.1 == 0 then
    cD ((ak.length:Int) == 700)
   else
    cD false
  else
   some (.inl (w,w2,ak,()))
def mB(k:Nat)(bF:an):Option (XT×(Int×Int)×Unit):=
 bif decide ((bF.length:Int) > 3000) then
  some ([],(1,0),())
 else
  (nB k bF 0).bind fun r1=>
  (eQ k k bF 0 0 [] r1.1).bind fun r=>match r with
  |.inl o=>
   some (o.2.2.1,(0,0),())
  |.inr o2=>
   some ([],(o2.1,o2.2.1),())
def wc(k:Nat):mg:=⟨⟨50,[(37,2)],[rD 0 .str,rP 3 37],[lI 37 0,lI 37 1,(.r 4,.h .dE tT),rI 5],[]⟩,[.ex (.exit 0) [lI 37 0,lI 37 1,(.r 4,.h .dE tT)],.ex .ret [lI 37 0,lI 37 1,(.r 2,.lit .nil)]],fun q c v=>eQ k q c.1 v.1 v.2.1 v.2.2.1 v.2.2.2.1⟩
def zO(k:Nat):Ev bz:=⟨[Ls k,J5 k],[lp 0 (wc k) k],[(3,37)]⟩
def Eo(k q:Nat):Cd bz:=nD (zO k) f69 0 (wc k) q []
def IC(k:Nat):Cl bz:=wv (zO k) 69 f69 func69 call69 [.str] [sT,tP] (fun d=>mB k d.1) [Eo k k]
def jX(q:Nat):Nat→an→Int→Option (Int×Unit)
 |0,_,_=>none
 |k + 1,M2,at3=>
  aa (fun(v2:Bool)=>
   bif v2 then
    jX q k M2 (dq (at3 + 1))
   else
    some (at3,())) fun cD=>
  bif decide (at3 < (M2.length:Int)) then
   (bH M2 at3).bind fun b4=>
   cD ((b4.toNat:Int) != 10)
  else
   cD false
def iR(q:Nat):Nat→an→Int→Option (((Int×Unit)⊕(Int×Unit)))
 |0,_,_=>none
 |k + 1,ic,sR=>
  bif decide (sR < (ic.length:Int)) then
   (bH ic sR).bind fun b=>
   aa (fun(v:Bool)=>
    bif v then
     iR q k ic (dq (sR + 1))
    else
     (bH ic sR).bind fun b3=>
     bif (b3.toNat:Int) != 35 then
      some (.inr (sR,()))
     else
      (jX q q ic sR).bind fun o=>
      iR q k ic o.1) fun cD=>
   bif (b.toNat:Int) == 32 then
    cD true
   else
    (bH ic sR).bind fun b2=>
    cD ((b2.toNat:Int) == 10)
  else
   some (.inl (sR,()))
def oL(k:Nat)(bF:an)(jj:Int):Option (Int×Unit):=
 (iR k k bF jj).bind fun r=>match r with
 |.inl o=>
  some (o.1,())
 |.inr o2=>
  some (o2.1,())
def AC(k:Nat):mg:=⟨⟨39,[],[rD 0 .str],[rI 1],[]⟩,[.ex (.exit 2) [rI 1]],fun q c v=>jX k q c.1 v.1⟩
def AB(k:Nat):mg:=⟨⟨39,[],[rD 0 .str],[rI 1],[]⟩,[.ex (.exit 0) [rI 1],.ex .ret [rI 4]],fun q c v=>iR k q c.1 v.1⟩
def zp(k:Nat):Ev bz:=⟨[],[lp 2 (AC k) k,lp 0 (AB k) k],[]⟩
def Iu(k q:Nat):Cd bz:=nD (zp k) f58 2 (AC k) q []
def It(k q:Nat):Cd bz:=nD (zp k) f58 0 (AB k) q [Iu k k]
def Nt(k:Nat):Cl bz:=wv (zp k) 58 f58 func58 call58 [.str,I] [I] (fun d=>oL k d.1 d.2.1) [It k k]
def rK(c:Int):Option (Bool×Unit):=
 aa (fun(v:Bool)=>
  some (v,())) fun cD=>
 bif decide (c≥97) then
  cD (decide (c≤122))
 else
  cD false
def B4:Cl bz:=wv ⟨[],[],[]⟩ 88 f88 func88 call88 [U] [.bool] (fun d=>rK d.1) []
def qO(c:Int):Option (Bool×Unit):=
 aa (fun(v:Bool)=>
  some (v,())) fun cD=>
 bif decide (c≥48) then
  cD (decide (c≤57))
 else
  cD false
def xw:Cl bz:=wv ⟨[],[],[]⟩ 91 f91 func91 call91 [U] [.bool] (fun d=>qO d.1) []
def kK(q:Nat):Nat→an→Int→Option (Int×Unit)
 |0,_,_=>none
 |k + 1,ic,sR=>
  aa (fun(v2:Bool)=>
   bif v2 then
    kK q k ic (dq (sR + 1))
   else
    some (sR,())) fun jH=>
  bif decide (sR < (ic.length:Int)) then
   (bH ic sR).bind fun b=>
   (rK (b.toNat:Int)).bind fun r1=>
   aa (fun(v:Bool)=>
    jH v) fun cD=>
   bif r1.1 then
    cD true
   else
    (bH ic sR).bind fun b2=>
    (qO (b2.toNat:Int)).bind fun r2=>
    cD r2.1
  else
   jH false
def BC(k:Nat)(bF:an)(jj:Int):Option (Int×Unit):=
 (kK k k bF jj).bind fun o=>
 some (o.1,())
def Cb(k:Nat):mg:=⟨⟨24,[],[rD 0 .str],[rI 1],[]⟩,[.ex (.exit 0) [rI 1]],fun q c v=>kK k q c.1 v.1⟩
def GR(k:Nat):Ev bz:=⟨[B4,xw],[lp 0 (Cb k) k],[]⟩
def JV(k q:Nat):Cd bz:=nD (GR k) f89 0 (Cb k) q []
def Pz(k:Nat):Cl bz:=wv (GR k) 89 f89 func89 call89 [.str,I] [I] (fun d=>BC k d.1 d.2.1) [JV k k]
def zj(bF:an):Option (Bool×Unit):=
 aa (fun(v:Bool)=>
  aa (fun(v2:Bool)=>
   aa (fun(v3:Bool)=>
    aa (fun(v4:Bool)=>
     aa (fun(v5:Bool)=>
      aa (fun(v6:Bool)=>
       aa (fun(v7:Bool)=>
        aa (fun(v8:Bool)=>
         aa (fun(v9:Bool)=>
          aa (fun(v10:Bool)=>
           aa (fun(v11:Bool)=>
            aa (fun(v12:Bool)=>
             aa (fun(v13:Bool)=>
              aa (fun(v14:Bool)=>
               aa (fun(v15:Bool)=>
                aa (fun(v16:Bool)=>
                 some (v16,())) fun adT=>
                bif v15 then
                 adT true
                else
                 adT (bF == ([110,117,108,108]:an))) fun adS=>
               bif v14 then
                adS true
               else
                adS (bF == ([110,111,116]:an))) fun adR=>
              bif v13 then
               adR true
              else
               adR (bF == ([111,114]:an))) fun X3=>
             bif v12 then
              X3 true
             else
              X3 (bF == ([97,110,100]:an))) fun X2=>
            bif v11 then
             X2 true
            else
             X2 (bF == ([114,101,116,117,114,110]:an))) fun X1=>
           bif v10 then
            X1 true
           else
            X1 (bF == ([115,116,111,112]:an))) fun RZ=>
          bif v9 then
           RZ true
          else
           RZ (bF == ([97,115,115,101,114,116]:an))) fun jx9=>
         bif v8 then
          jx9 true
         else
          jx9 (bF == ([112,114,105,110,116]:an))) fun jx8=>
        bif v7 then
         jx8 true
        else
         jx8 (bF == ([114,101,97,100]:an))) fun jx7=>
       bif v6 then
        jx7 true
       else
        jx7 (bF == ([102,111,114]:an))) fun jx6=>
      bif v5 then
       jx6 true
      else
       jx6 (bF == ([119,104,105,108,101]:an))) fun jx5=>
     bif v4 then
      jx5 true
     else
      jx5 (bF == ([101,108,115,101]:an))) fun jx4=>
    bif v3 then
     jx4 true
    else
     jx4 (bF == ([105,102]:an))) fun xG=>
   bif v2 then
    xG true
   else
    xG (bF == ([102,117,110,99]:an))) fun jH=>
  bif v then
   jH true
  else
   jH (bF == ([114,101,102]:an))) fun cD=>
 bif bF == ([97,114,114,97,121]:an) then
  cD true
 else
  cD (bF == ([118,97,114]:an))
def Nr:Cl bz:=wv ⟨[],[],[]⟩ 90 f90 func90 call90 [.str] [.bool] (fun d=>zj d.1) []
end
end Go.Fx.R5
namespace Go.Fx.R5
open Go Go.Fx Go.Proofs Go.Proofs.Tryz
noncomputable section
def iA(q:Nat):Nat→an→Int→Option (Int×Unit)
 |0,_,_=>none
 |k + 1,ic,sR=>
  aa (fun(v:Bool)=>
   bif v then
    iA q k ic (dq (sR + 1))
   else
    some (sR,())) fun cD=>
  bif decide (sR < (ic.length:Int)) then
   (bH ic sR).bind fun b=>
   (qO (b.toNat:Int)).bind fun r1=>
   cD r1.1
  else
   cD false
def uU(k:Nat)(bF:an)(jj:Int):Option (Int×Unit):=
 (iA k k bF jj).bind fun o=>
 some (o.1,())
def ye(k:Nat):mg:=⟨⟨18,[],[rD 0 .str],[rI 1],[]⟩,[.ex (.exit 0) [rI 1]],fun q c v=>iA k q c.1 v.1⟩
def BL(k:Nat):Ev bz:=⟨[xw],[lp 0 (ye k) k],[]⟩
def FF(k q:Nat):Cd bz:=nD (BL k) f92 0 (ye k) q []
def Kb(k:Nat):Cl bz:=wv (BL k) 92 f92 func92 call92 [.str,I] [I] (fun d=>uU k d.1 d.2.1) [FF k k]
def lC(q:Nat):Nat→an→Int→Int→Option (Int×Unit)
 |0,_,_,_=>none
 |k + 1,s2,v3,i1=>
  bif decide (i1 < (s2.length:Int)) then
   (bH s2 i1).bind fun b2=>
   lC q k s2 (dq ((dq (v3 * 10)) + (dq ((IntKind.u8.wrap ((b2.toNat:Int) - 48)))))) (dq (i1 + 1))
  else
   some (v3,())
def pm(k:Nat)(s:an):Option (Int×Unit):=
 aa (fun(v2:Bool)=>
  bif v2 then
   some ((-1),())
  else
   (lC k k s 0 0).bind fun o=>
   bif decide (o.1 > 2147483647) then
    some ((-1),())
   else
    some (o.1,())) fun jH=>
 bif decide ((s.length:Int) > 10) then
  jH true
 else
  aa (fun(v:Bool)=>
   jH v) fun cD=>
  bif decide ((s.length:Int) > 1) then
   (bH s 0).bind fun b=>
   cD ((b.toNat:Int) == 48)
  else
   cD false
def y6(k:Nat):mg:=⟨⟨35,[],[rD 0 .str],[rI 3,rI 4],[]⟩,[.ex (.exit 0) [rI 3]],fun q c v=>lC k q c.1 v.1 v.2.1⟩
def CP(k:Nat):Ev bz:=⟨[],[lp 0 (y6 k) k],[]⟩
def GJ(k q:Nat):Cd bz:=nD (CP k) f93 0 (y6 k) q []
def Ly(k:Nat):Cl bz:=wv (CP k) 93 f93 func93 call93 [.str] [I] (fun d=>pm k d.1) [GJ k k]
def BD:Option (XS×Unit):=
 some ([([43,37]:an),([45,37]:an),([42,37]:an),([60,60]:an),([62,62]:an),([61,61]:an),([33,61]:an),([60,61]:an),([62,61]:an),([46,46]:an),([43,61]:an),([43]:an),([45]:an),([42]:an),([47]:an),([37]:an),([38]:an),([124]:an),([94]:an),([60]:an),([62]:an),([61]:an),([40]:an),([41]:an),([123]:an),([125]:an),([91]:an),([93]:an),([44]:an),([59]:an)],())
def Lx:Cl bz:=wv ⟨[],[],[]⟩ 117 f117 func117 call117 [] [sS] (fun d=>BD) []
def mL(q:Nat):Nat→an→Int→XS→Int→Option (((Unit)⊕(an×Unit)))
 |0,_,_,_,_=>none
 |k + 1,ic,sR,l,i1=>
  bif decide (i1 < (l.length:Int)) then
   (bH l i1).bind fun x1=>
   aa (fun(v2:Bool)=>
    bif v2 then
     (bH l i1).bind fun x3=>
     some (.inr (x3,()))
    else
     mL q k ic sR l (dq (i1 + 1))) fun cD=>
   bif decide ((x1.length:Int)≤(dq ((ic.length:Int) - sR))) then
    (sub ic sR (dq (sR + (x1.length:Int)))).bind fun l2=>
    (bH l i1).bind fun x2=>
    cD (l2 == x2)
   else
    cD false
  else
   some (.inl ())
def zi(k:Nat)(bF:an)(jj:Int):Option (an×Unit):=
 aa (fun(v:Bool)=>
  bif v then
   some (([]:an),())
  else
   (BD).bind fun r1=>
   (mL k k bF jj r1.1 0).bind fun r=>match r with
   |.inl o=>
    some (([]:an),())
   |.inr o2=>
    some (o2.1,())) fun cD=>
 bif decide (jj < 0) then
  cD true
 else
  cD (decide (jj≥(bF.length:Int)))
def Ay(k:Nat):mg:=⟨⟨51,[],[rD 0 .str,rI 1,rD 5 sS],[rI 6],[]⟩,[.ex (.exit 0) [],.ex .ret [rD 4 .str]],fun q c v=>mL k q c.1 c.2.1 c.2.2.1 v.1⟩
def EV(k:Nat):Ev bz:=⟨[Lx],[lp 0 (Ay k) k],[]⟩
def Ip(k q:Nat):Cd bz:=nD (EV k) f94 0 (Ay k) q []
def Nq(k:Nat):Cl bz:=wv (EV k) 94 f94 func94 call94 [.str,I] [.str] (fun d=>zi k d.1 d.2.1) [Ip k k]
def nU(k:Nat)(bF:an)(jj:Int):Option ((Int×Int×an×Int)×Int×Int×Unit):=
 (bH bF jj).bind fun b=>
 (rK (b.toNat:Int)).bind fun r1=>
 bif r1.1 then
  (BC k bF jj).bind fun r2=>
  (sub bF jj r2.1).bind fun l=>
  aa (fun(v:Int)=>
   bif decide ((l.length:Int) > 8) then
    some ((v,jj,l,0),r2.1,3,())
   else
    some ((v,jj,l,0),r2.1,0,())) fun cD=>
  (zj l).bind fun r3=>
  bif r3.1 then
   cD 3
  else
   cD 1
 else
  (bH bF jj).bind fun b2=>
  (qO (b2.toNat:Int)).bind fun r4=>
  bif r4.1 then
   (uU k bF jj).bind fun r5=>
   (sub bF jj r5.1).bind fun l2=>
   (pm k l2).bind fun r6=>
   bif decide (r6.1 < 0) then
    some ((2,jj,l2,r6.1),r5.1,4,())
   else
    some ((2,jj,l2,r6.1),r5.1,0,())
  else
   (zi k bF jj).bind fun r7=>
   bif r7.1 == ([]:an) then
    some ((4,jj,r7.1,0),jj,2,())
   else
    some ((4,jj,r7.1,0),(dq (jj + (r7.1.length:Int))),0,())
def Py(k:Nat):Cl bz:=wv ⟨[B4,Pz k,Nr,xw,Kb k,Ly k,Nq k],[],[(4,110)]⟩ 59 f59 func59 call59 [.str,I] [tT,I,I] (fun d=>nU k d.1 d.2.1) []
def eS(q:Nat):Nat→an→Int→Int→XT→XT→Int→Option (((Int×Int×XT×Unit)⊕(Int×Int×XT×Unit)))
 |0,_,_,_,_,_,_=>none
 |k + 1,ic,w,w2,Yq,out,jj=>
  bif decide (jj < (ic.length:Int)) then
   (nU q ic jj).bind fun r2=>
   bif r2.2.2.1 != 0 then
    some (.inr (r2.2.2.1,jj,Yq,()))
   else
    bif decide ((out.length:Int)≥700) then
     some (.inr (5,jj,Yq,()))
    else
     (lq out ([r2.1])).bind fun l=>
     (oL q ic r2.2.1).bind fun r3=>
     eS q k ic w w2 Yq l r3.1
  else
   some (.inl (w,w2,out,()))
def mK(k:Nat)(bF:an):Option (XT×(Int×Int)×Unit):=
 bif decide ((bF.length:Int) > 3000) then
  some ([],(1,0),())
 else
  (oL k bF 0).bind fun r1=>
  (eS k k bF 0 0 [] [] r1.1).bind fun r=>match r with
  |.inl o=>
   some (o.2.2.1,(0,0),())
  |.inr o2=>
   some (o2.2.2.1,(o2.1,o2.2.1),())
def wg(k:Nat):mg:=⟨⟨51,[(37,2)],[rD 0 .str,rP 3 37],[lI 37 0,lI 37 1,(.r 4,.h .dE tT),(.r 5,.h .dE tT),rI 6],[]⟩,[.ex (.exit 0) [lI 37 0,lI 37 1,(.r 5,.h .dE tT)],.ex .ret [lI 37 0,lI 37 1,(.r 2,.h .dE tT)]],fun q c v=>eS k q c.1 v.1 v.2.1 v.2.2.1 v.2.2.2.1 v.2.2.2.2.1⟩
def zQ(k:Nat):Ev bz:=⟨[Nt k,Py k],[lp 0 (wg k) k],[(3,37)]⟩
def Et(k q:Nat):Cd bz:=nD (zQ k) f35 0 (wg k) q []
def IF(k:Nat):Cl bz:=wv (zQ k) 35 f35 func35 call35 [.str] [sT,tP] (fun d=>mK k d.1) [Et k k]
def fw(t:XT)(p Code:Int)(bF:an):Option (Bool×Unit):=
 aa (fun(v:Bool)=>
  aa (fun(v2:Bool)=>
   aa (fun(v3:Bool)=>
    some (v3,())) fun xG=>
   bif v2 then
    (bH t p).bind fun x2=>
    xG (decide (x2.1≥3))
   else
    xG false) fun jH=>
  bif v then
   (bH t p).bind fun x1=>
   jH (x1.2.2.1 == bF)
  else
   jH false) fun cD=>
 bif Code == 0 then
  cD (decide (p < (t.length:Int)))
 else
  cD false
def mh:Cl bz:=mX ⟨[],[],[]⟩ 95 f95 func95 call95 [500000] ⟨⟨52,[(77,7)],[lD 77 0 sT,lI 77 1,lI 77 2,lF 77 3 tN,lI 77 4,lI 77 5,lI 77 6],[rP 0 77,rD 1 .str],[]⟩,[.ret [rD 500000 .bool] []],fun c v=>fw c.1 c.2.1 c.2.2.2.2.2.1 v.2.1⟩ []
def bW(t:XT)(p Code:Int)(bF:an):Option (Bool×Int×Unit):=
 (fw t p Code bF).bind fun r1=>
 bif r1.1 then
  some (true,(dq (p + 1)),())
 else
  some (false,p,())
def jf:Cl bz:=mX ⟨[mh],[],[]⟩ 60 f60 func60 call60 [500000] ⟨⟨16,[(77,7)],[lD 77 0 sT,lI 77 2,lF 77 3 tN,lI 77 4,lI 77 5,lI 77 6],[rP 0 77,rD 1 .str,lI 77 1],[]⟩,[.ret [rD 500000 .bool,lI 77 1] []],fun c v=>bW c.1 v.2.2.1 c.2.2.2.2.1 v.2.1⟩ []
def da(t:XT)(p aE:Int):Option (Int×Unit):=
 bif decide (p < (t.length:Int)) then
  (bH t p).bind fun x1=>
  some (x1.2.1,())
 else
  some (aE,())
def fD:Cl bz:=mX ⟨[],[],[]⟩ 61 f61 func61 call61 [500000] ⟨⟨28,[(77,7)],[lD 77 0 sT,lI 77 1,lI 77 2,lF 77 3 tN,lI 77 4,lI 77 5,lI 77 6],[rP 0 77],[]⟩,[.ret [rI 500000] []],fun c v=>da c.1 c.2.1 c.2.2.1⟩ []
def iU(t:XT)(p Code k1:Int):Option (Bool×Unit):=
 aa (fun(v:Bool)=>
  aa (fun(v2:Bool)=>
   some (v2,())) fun jH=>
  bif v then
   (bH t p).bind fun x1=>
   jH (x1.1 == k1)
  else
   jH false) fun cD=>
 bif Code == 0 then
  cD (decide (p < (t.length:Int)))
 else
  cD false
def nj:Cl bz:=mX ⟨[],[],[]⟩ 96 f96 func96 call96 [500000] ⟨⟨38,[(77,7)],[lD 77 0 sT,lI 77 1,lI 77 2,lF 77 3 tN,lI 77 4,lI 77 5,lI 77 6],[rP 0 77,rI 1],[]⟩,[.ret [rD 500000 .bool] []],fun c v=>iU c.1 c.2.1 c.2.2.2.2.2.1 v.2.1⟩ []
def iT(t:XT)(p aE Code At code:Int):Option (Int×Int×Unit):=
 bif Code == 0 then
  (da t p aE).bind fun r1=>
  some (code,r1.1,())
 else
  some (Code,At,())
def ni:Cl bz:=mX ⟨[fD],[],[]⟩ 97 f97 func97 call97 [] ⟨⟨17,[(77,7)],[lD 77 0 sT,lI 77 1,lI 77 2,lF 77 3 tN,lI 77 4],[rP 0 77,rI 1,lI 77 5,lI 77 6],[]⟩,[.ret [lI 77 5,lI 77 6] []],fun c v=>iT c.1 c.2.1 c.2.2.1 v.2.2.1 v.2.2.2.1 v.2.1⟩ []
def dB(t:XT)(p aE Code At:Int):Option (an×Int×Int×Int×Unit):=
 (iU t p Code 1).bind fun r1=>
 bif !r1.1 then
  (iT t p aE Code At 6).bind fun r2=>
  some (([]:an),p,r2.1,r2.2.1,())
 else
  (bH t (dq ((dq (p + 1)) - 1))).bind fun x1=>
  some (x1.2.2.1,(dq (p + 1)),Code,At,())
def je:Cl bz:=mX ⟨[nj,ni],[],[]⟩ 62 f62 func62 call62 [500000] ⟨⟨28,[(77,7)],[lD 77 0 sT,lI 77 2,lF 77 3 tN,lI 77 4],[rP 0 77,lI 77 1,lI 77 5,lI 77 6],[]⟩,[.ret [rD 500000 .str,lI 77 1,lI 77 5,lI 77 6] []],fun c v=>dB c.1 v.2.1 c.2.1 v.2.2.1 v.2.2.2.1⟩ []
def aO(t:XT)(p aE Code At:Int)(bF:an):Option (Int×Int×Int×Unit):=
 (bW t p Code bF).bind fun r1=>
 bif !r1.1 then
  (iT t r1.2.1 aE Code At 6).bind fun r2=>
  some (r1.2.1,r2.1,r2.2.1,())
 else
  some (r1.2.1,Code,At,())
def jd:Cl bz:=mX ⟨[jf,ni],[],[]⟩ 63 f63 func63 call63 [] ⟨⟨10,[(77,7)],[lD 77 0 sT,lI 77 2,lF 77 3 tN,lI 77 4],[rP 0 77,rD 1 .str,lI 77 1,lI 77 5,lI 77 6],[]⟩,[.ret [lI 77 1,lI 77 5,lI 77 6] []],fun c v=>aO c.1 v.2.2.1 c.2.1 v.2.2.2.1 v.2.2.2.2.1 v.2.1⟩ []
def lK(t:XT)(p aE Code At:Int):Option (Int×Int×Int×Int×Unit):=
 (iU t p Code 2).bind fun r1=>
 bif !r1.1 then
  (iT t p aE Code At 6).bind fun r2=>
  some (0,p,r2.1,r2.2.1,())
 else
  (bH t (dq ((dq (p + 1)) - 1))).bind fun x1=>
  some (x1.2.2.2,(dq (p + 1)),Code,At,())
def yT:Cl bz:=mX ⟨[nj,ni],[],[]⟩ 64 f64 func64 call64 [500000] ⟨⟨28,[(77,7)],[lD 77 0 sT,lI 77 2,lF 77 3 tN,lI 77 4],[rP 0 77,lI 77 1,lI 77 5,lI 77 6],[]⟩,[.ret [rI 500000,lI 77 1,lI 77 5,lI 77 6] []],fun c v=>lK c.1 v.2.1 c.2.1 v.2.2.1 v.2.2.2.1⟩ []
def aW(aA:XN)(Code:Int)(n:Int×Int×Int×an×XI):Option (Int×XN×Unit):=
 bif Code != 0 then
  some (0,aA,())
 else
  (lq aA ([n])).bind fun l=>
  some ((dq ((l.length:Int) - 1)),l,())
def eN:Cl bz:=mX ⟨[],[],[(3,47)]⟩ 65 f65 func65 call65 [500000] ⟨⟨27,[(77,7)],[lD 77 0 sT,lI 77 1,lI 77 2,lI 77 4,lI 77 5,lI 77 6],[rP 0 77,rD 1 tN,lF 77 3 tN],[]⟩,[.ret [rI 500000,lF 77 3 tN] []],fun c v=>aW v.2.2.1 c.2.2.2.2.1 v.2.1⟩ []
def iv(t:XT)(p aE bR Code At:Int):Option (Bool×Int×Int×Int×Unit):=
 aa (fun(jv:Int×Int)=>
  some ((jv.1) == 0,(dq (bR + 1)),(jv.1),(jv.2),())) fun cD=>
 bif decide ((dq (bR + 1)) > 10) then
  (iT t p aE Code At 7).bind fun r1=>
  cD (r1.1,r1.2.1)
 else
  cD (Code,At)
def pr:Cl bz:=mX ⟨[ni],[],[]⟩ 98 f98 func98 call98 [500000] ⟨⟨24,[(77,7)],[lD 77 0 sT,lI 77 1,lI 77 2,lF 77 3 tN],[rP 0 77,lI 77 4,lI 77 5,lI 77 6],[]⟩,[.ret [rD 500000 .bool,lI 77 4,lI 77 5,lI 77 6] []],fun c v=>iv c.1 c.2.1 c.2.2.1 v.2.1 v.2.2.1 v.2.2.2.1⟩ []
def cS(q:Nat):Nat→XT→Int→Int→Int→XN→Int→Int→XI→Option (Int×XN×Int×Int×XI×Unit)
 |0,_,_,_,_,_,_,_,_=>none
 |k + 1,t3,VP,k2,p3,Dx,GP,At3,tK=>
  (bW t3 p3 GP ([44]:an)).bind fun r7=>
  bif r7.1 then
   (da t3 r7.2.1 VP).bind fun r8=>
   (dB t3 r7.2.1 VP GP At3).bind fun r9=>
   (aW Dx r9.2.2.1 (k2,r8.1,0,r9.1,[])).bind fun mY=>
   (lq tK ([mY.1])).bind fun l2=>
   cS q k t3 VP k2 r9.2.1 mY.2.1 r9.2.2.1 r9.2.2.2.1 l2
  else
   some (r7.2.1,Dx,GP,At3,tK,())
def cR(q:Nat):Nat→XT→Int→Int→XN→Int→Int→XI→Option (Int×XN×Int×Int×XI×Unit)
 |0,_,_,_,_,_,_,_=>none
 |k + 1,t2,fK,p2,bX,gZ,GD,out=>
  (fw t2 p2 gZ ([118,97,114]:an)).bind fun r1=>
  aa (fun(v:Bool)=>
   bif v then
    aa (fun(k1:Int)=>
     (da t2 (dq (p2 + 1)) fK).bind fun r4=>
     (dB t2 (dq (p2 + 1)) fK gZ GD).bind fun r5=>
     (aW bX r5.2.2.1 (k1,r4.1,0,r5.1,[])).bind fun r6=>
     (lq out ([r6.1])).bind fun l=>
     (cS q q t2 fK k1 r5.2.1 r6.2.1 r5.2.2.1 r5.2.2.2.1 l).bind fun o=>
     (aO t2 o.1 fK o.2.2.1 o.2.2.2.1 ([59]:an)).bind fun r7=>
     cR q k t2 fK r7.1 o.2.1 r7.2.1 r7.2.2.1 o.2.2.2.2.1) fun jH=>
    (fw t2 p2 gZ ([114,101,102]:an)).bind fun r3=>
    bif r3.1 then
     jH 7
    else
     jH 6
   else
    some (p2,bX,gZ,GD,out,())) fun cD=>
  bif r1.1 then
   cD true
  else
   (fw t2 p2 gZ ([114,101,102]:an)).bind fun r2=>
   cD r2.1
def pA(k:Nat)(t:XT)(p aE:Int)(aA:XN)(Code At:Int):Option (XI×Int×XN×Int×Int×Unit):=
 (cR k k t aE p aA Code At []).bind fun o=>
 some (o.2.2.2.2.1,o.1,o.2.1,o.2.2.1,o.2.2.2.1,())
def vq(k:Nat):mg:=⟨⟨55,[(77,7)],[lD 77 0 sT,lI 77 2,lI 77 4,rP 0 77,rI 4],[lI 77 1,lF 77 3 tN,lI 77 5,lI 77 6,(.r 3,.h .dE I)],[]⟩,[.ex (.exit 2) [lI 77 1,lF 77 3 tN,lI 77 5,lI 77 6,(.r 3,.h .dE I)]],fun q c v=>cS k q c.1 c.2.1 c.2.2.2.2.1 v.1 v.2.1 v.2.2.1 v.2.2.2.1 v.2.2.2.2.1⟩
def vp(k:Nat):mg:=⟨⟨55,[(77,7)],[lD 77 0 sT,lI 77 2,lI 77 4,rP 0 77],[lI 77 1,lF 77 3 tN,lI 77 5,lI 77 6,(.r 3,.h .dE I)],[]⟩,[.ex (.exit 0) [lI 77 1,lF 77 3 tN,lI 77 5,lI 77 6,(.r 3,.h .dE I)]],fun q c v=>cR k q c.1 c.2.1 v.1 v.2.1 v.2.2.1 v.2.2.2.1 v.2.2.2.2.1⟩
def ta(k:Nat):Ev bz:=⟨[jf,fD,je,jd,eN,mh],[lp 2 (vq k) k,lp 0 (vp k) k],[]⟩
def CM(k q:Nat):Cd bz:=nD (ta k) f99 2 (vq k) q []
def CL(k q:Nat):Cd bz:=nD (ta k) f99 0 (vp k) q [CM k k]
def Hg(k:Nat):Cl bz:=mX (ta k) 99 f99 func99 call99 [500000] ⟨⟨55,[(77,7)],[lD 77 0 sT,lI 77 2,lI 77 4],[rP 0 77,lI 77 1,lF 77 3 tN,lI 77 5,lI 77 6],[]⟩,[.ret [(.r 500000,.h .dE I),lI 77 1,lF 77 3 tN,lI 77 5,lI 77 6] []],fun c v=>pA k c.1 v.2.1 c.2.1 v.2.2.1 v.2.2.2.1 v.2.2.2.2.1⟩ [CL k k]
def uK(wN:an)(vz:Int):Option (Int×Unit):=
 aa (fun(v:Bool)=>
  bif v then
   some (7,())
  else
   aa (fun(v2:Bool)=>
    bif v2 then
     some (8,())
    else
     aa (fun(v3:Bool)=>
      bif v3 then
       some (6,())
      else
       aa (fun(v4:Bool)=>
        bif v4 then
         some (9,())
        else
         aa (fun(v5:Bool)=>
          bif v5 then
           some (10,())
          else
           aa (fun(v6:Bool)=>
            bif v6 then
             some (1,())
            else
             aa (fun(v7:Bool)=>
              bif v7 then
               some (2,())
              else
               aa (fun(v8:Bool)=>
                bif v8 then
                 some (11,())
                else
                 aa (fun(v9:Bool)=>
                  bif v9 then
                   some (12,())
                  else
                   aa (fun(v10:Bool)=>
                    bif v10 then
                     some (3,())
                    else
                     aa (fun(v11:Bool)=>
                      bif v11 then
                       some (4,())
                      else
                       aa (fun(v12:Bool)=>
                        bif v12 then
                         some (5,())
                        else
                         aa (fun(v13:Bool)=>
                          bif v13 then
                           some (13,())
                          else
                           some (0,())) fun X3=>
                         bif vz == 6 then
                          X3 (wN == ([42,37]:an))
                         else
                          X3 false) fun X2=>
                       bif vz == 6 then
                        X2 (wN == ([37]:an))
                       else
                        X2 false) fun X1=>
                     bif vz == 6 then
                      X1 (wN == ([47]:an))
                     else
                      X1 false) fun RZ=>
                   bif vz == 6 then
                    RZ (wN == ([42]:an))
                   else
                    RZ false) fun jx9=>
                 bif vz == 5 then
                  jx9 (wN == ([45,37]:an))
                 else
                  jx9 false) fun jx8=>
               bif vz == 5 then
                jx8 (wN == ([43,37]:an))
               else
                jx8 false) fun jx7=>
             bif vz == 5 then
              jx7 (wN == ([45]:an))
             else
              jx7 false) fun jx6=>
           bif vz == 5 then
            jx6 (wN == ([43]:an))
           else
            jx6 false) fun jx5=>
         bif vz == 4 then
          jx5 (wN == ([62,62]:an))
         else
          jx5 false) fun jx4=>
       bif vz == 4 then
        jx4 (wN == ([60,60]:an))
       else
        jx4 false) fun xG=>
     bif vz == 3 then
      xG (wN == ([38]:an))
     else
      xG false) fun jH=>
   bif vz == 2 then
    jH (wN == ([94]:an))
   else
    jH false) fun cD=>
 bif vz == 1 then
  cD (wN == ([124]:an))
 else
  cD false
theorem lvl{P:Int→Prop}(h0:P 0)(h1:P 1)(h2:P 2)(h3:P 3)(h4:P 4)(h5:P 5)(h6:P 6)(hn:∀ n:Nat,P (.ofNat (n + 7)))(hm:∀ n:Nat,P (.negSucc n)):∀ l,P l
 |.ofNat 0=>h0 | .ofNat 1=>h1 | .ofNat 2=>h2 | .ofNat 3=>h3 | .ofNat 4=>h4 | .ofNat 5=>h5 | .ofNat 6=>h6 | .ofNat (n + 7)=>hn n | .negSucc n=>hm n
def Td:Ev bz:=⟨[],[],[]⟩
def Rt:Cl bz:=wv Td 150 f150 func150 call150 [.str,I] [I] (fun d=>uK d.1 d.2.1) [] (h:=fun d=>lvl (P:=fun l=>∀ s,uK s l=so Td.e (qV f150) (stD f150.ntmps [.str,I] (s,l,())) (kD Td.e f150.results.toList [I]) (fun _ _=>none)) (fun s=>by kernel_rfl) (fun s=>by kernel_rfl) (fun s=>by kernel_rfl) (fun s=>by kernel_rfl) (fun s=>by kernel_rfl) (fun s=>by kernel_rfl) (fun s=>by kernel_rfl) (fun n s=>by kernel_rfl) (fun n s=>by kernel_rfl) d.2.1 d.1)
def mm(t:XT)(p Code:Int):Option (an×Unit):=
 (iU t p Code 4).bind fun r1=>
 bif r1.1 then
  (bH t p).bind fun x1=>
  some (x1.2.2.1,())
 else
  some (([]:an),())
def B6:Cl bz:=mX ⟨[nj],[],[]⟩ 151 f151 func151 call151 [500000] ⟨⟨16,[(77,7)],[lD 77 0 sT,lI 77 1,lI 77 2,lF 77 3 tN,lI 77 4,lI 77 5,lI 77 6],[rP 0 77],[]⟩,[.ret [rD 500000 .str] []],fun c v=>mm c.1 c.2.1 c.2.2.2.2.2.1⟩ []
end
end Go.Fx.R5
namespace Go.Fx.R5
open Go Go.Fx Go.Proofs Go.Proofs.Tryz
noncomputable section
abbrev jn:=XT→Int→Int→XN→Int→Int→Int→Int→Option (Int×Int×XN×Int×Int×Int×Unit)
def qy(f:jn):DU:=⟨⟨57,[(77,7)],[lD 77 0 sT,lI 77 2],[rP 0 77,rI 1,lI 77 1,lF 77 3 tN,lI 77 4,lI 77 5,lI 77 6],[]⟩,[.ret [rI 500000,lI 77 1,lF 77 3 tN,lI 77 4,lI 77 5,lI 77 6] []],fun c v=>f c.1 v.2.2.1 c.2.1 v.2.2.2.1 v.2.2.2.2.1 v.2.2.2.2.2.1 v.2.2.2.2.2.2.1 v.2.1⟩
def zY(f:jn):iX:=mI (qy f).L (qy f).F (AW [500000] (qy f).V)
abbrev jo:=XT→Int→Int→XN→Int→Int→Int→Option (Int×Int×XN×Int×Int×Int×Unit)
def qA(f:jo):DU:=⟨⟨36,[(77,7)],[lD 77 0 sT,lI 77 2],[rP 0 77,lI 77 1,lF 77 3 tN,lI 77 4,lI 77 5,lI 77 6],[]⟩,[.ret [rI 500000,lI 77 1,lF 77 3 tN,lI 77 4,lI 77 5,lI 77 6] []],fun c v=>f c.1 v.2.1 c.2.1 v.2.2.1 v.2.2.2.1 v.2.2.2.2.1 v.2.2.2.2.2.1⟩
def zZ(f:jo):iX:=mI (qA f).L (qA f).F (AW [500000] (qA f).V)
abbrev ik:=XT→Int→Int→XN→Int→Int→Int→Option (Int×Int×XN×Int×Int×Int×Unit)
def oS(f:ik):DU:=⟨⟨78,[(77,7)],[lD 77 0 sT,lI 77 2],[rP 0 77,lI 77 1,lF 77 3 tN,lI 77 4,lI 77 5,lI 77 6],[]⟩,[.ret [rI 500000,lI 77 1,lF 77 3 tN,lI 77 4,lI 77 5,lI 77 6] []],fun c v=>f c.1 v.2.1 c.2.1 v.2.2.1 v.2.2.2.1 v.2.2.2.2.1 v.2.2.2.2.2.1⟩
def xr(f:ik):iX:=mI (oS f).L (oS f).F (AW [500000] (oS f).V)
def fy(cg:jn)(cC:jo)(cw:ik)(q:Nat):Nat→XT→Int→Int→Int→XN→Int→Int→Int→Int→Option (Int×XN×Int×Int×Int×Int×Unit)
 |0,_,_,_,_,_,_,_,_,_=>none
 |k + 1,t2,fK,n2,p2,bX,mz,gZ,GD,x1=>
  aa (fun(v:Bool)=>
   bif v then
    (da t2 p2 fK).bind fun r5=>
    (mm t2 p2 gZ).bind fun r6=>
    (uK r6.1 n2).bind fun r7=>
    (cg t2 (dq (p2 + 1)) fK bX mz gZ GD (dq (n2 + 1))).bind fun r8=>
    (aW r8.2.2.1 r8.2.2.2.2.1 (28,r5.1,r7.1,([]:an),[x1,r8.1])).bind fun r9=>
    fy cg cC cw q k t2 fK n2 r8.2.1 r9.2.1 r8.2.2.2.1 r8.2.2.2.2.1 r8.2.2.2.2.2.1 r9.1
   else
    some (p2,bX,mz,gZ,GD,x1,())) fun cD=>
  bif gZ == 0 then
   (mm t2 p2 gZ).bind fun r3=>
   (uK r3.1 n2).bind fun r4=>
   cD (r4.1 != 0)
  else
   cD false
def gO(cg:jn)(cC:jo)(cw:ik)(k:Nat)(t:XT)(p aE:Int)(aA:XN)(bR Code At n:Int):Option (Int×Int×XN×Int×Int×Int×Unit):=
 bif decide (n > 6) then
  (cC t p aE aA bR Code At).bind fun r1=>
  some (r1.1,r1.2.1,r1.2.2.1,r1.2.2.2.1,r1.2.2.2.2.1,r1.2.2.2.2.2.1,())
 else
  (cg t p aE aA bR Code At (dq (n + 1))).bind fun r2=>
  (fy cg cC cw k k t aE n r2.2.1 r2.2.2.1 r2.2.2.2.1 r2.2.2.2.2.1 r2.2.2.2.2.2.1 r2.1).bind fun o=>
  some (o.2.2.2.2.2.1,o.1,o.2.1,o.2.2.1,o.2.2.2.1,o.2.2.2.2.1,())
def iB(cg:jn)(cC:jo)(cw:ik)(k:Nat)(t:XT)(p aE:Int)(aA:XN)(bR Code At:Int):Option (Int×Int×XN×Int×Int×Int×Unit):=
 (da t p aE).bind fun r1=>
 (bW t p Code ([45]:an)).bind fun r2=>
 bif r2.1 then
  (iv t r2.2.1 aE bR Code At).bind fun r3=>
  bif !r3.1 then
   some (0,r2.2.1,aA,r3.2.1,r3.2.2.1,r3.2.2.2.1,())
  else
   (aW aA r3.2.2.1 (24,r1.1,0,([]:an),[])).bind fun r4=>
   (cC t r2.2.1 aE r4.2.1 r3.2.1 r3.2.2.1 r3.2.2.2.1).bind fun r5=>
   (aW r5.2.2.1 r5.2.2.2.2.1 (28,r1.1,2,([]:an),[r4.1,r5.1])).bind fun r6=>
   some (r6.1,r5.2.1,r6.2.1,(dq (r5.2.2.2.1 - 1)),r5.2.2.2.2.1,r5.2.2.2.2.2.1,())
 else
  (cw t r2.2.1 aE aA bR Code At).bind fun r7=>
  some (r7.1,r7.2.1,r7.2.2.1,r7.2.2.2.1,r7.2.2.2.2.1,r7.2.2.2.2.2.1,())
def cz(cg:jn)(cC:jo)(cw:ik)(k:Nat)(t:XT)(p aE:Int)(aA:XN)(bR Code At:Int):Option (Int×Int×XN×Int×Int×Int×Unit):=
 (da t p aE).bind fun r1=>
 (iU t p Code 2).bind fun r2=>
 bif r2.1 then
  (lK t p aE Code At).bind fun r3=>
  (aW aA r3.2.2.1 (24,r1.1,r3.1,([]:an),[])).bind fun r4=>
  some (r4.1,r3.2.1,r4.2.1,bR,r3.2.2.1,r3.2.2.2.1,())
 else
  (bW t p Code ([40]:an)).bind fun r5=>
  bif r5.1 then
   (iv t r5.2.1 aE bR Code At).bind fun r6=>
   bif !r6.1 then
    some (0,r5.2.1,aA,r6.2.1,r6.2.2.1,r6.2.2.2.1,())
   else
    (cg t r5.2.1 aE aA r6.2.1 r6.2.2.1 r6.2.2.2.1 1).bind fun r7=>
    (aO t r7.2.1 aE r7.2.2.2.2.1 r7.2.2.2.2.2.1 ([41]:an)).bind fun r8=>
    some (r7.1,r8.1,r7.2.2.1,(dq (r7.2.2.2.1 - 1)),r8.2.1,r8.2.2.1,())
  else
   (bW t r5.2.1 Code ([42]:an)).bind fun r9=>
   bif r9.1 then
    (dB t r9.2.1 aE Code At).bind fun mY=>
    (aW aA mY.2.2.1 (27,r1.1,0,mY.1,[])).bind fun pT=>
    some (pT.1,mY.2.1,pT.2.1,bR,mY.2.2.1,mY.2.2.2.1,())
   else
    (dB t r9.2.1 aE Code At).bind fun rh=>
    (bW t rh.2.1 rh.2.2.1 ([91]:an)).bind fun sM=>
    bif sM.1 then
     (iv t sM.2.1 aE bR rh.2.2.1 rh.2.2.2.1).bind fun sX=>
     bif !sX.1 then
      some (0,sM.2.1,aA,sX.2.1,sX.2.2.1,sX.2.2.2.1,())
     else
      (cg t sM.2.1 aE aA sX.2.1 sX.2.2.1 sX.2.2.2.1 1).bind fun sa=>
      (aO t sa.2.1 aE sa.2.2.2.2.1 sa.2.2.2.2.2.1 ([93]:an)).bind fun tZ=>
      (aW sa.2.2.1 tZ.2.1 (26,r1.1,0,rh.1,[sa.1])).bind fun wL=>
      some (wL.1,tZ.1,wL.2.1,(dq (sa.2.2.2.1 - 1)),tZ.2.1,tZ.2.2.1,())
    else
     (aW aA rh.2.2.1 (25,r1.1,0,rh.1,[])).bind fun sO=>
     some (sO.1,sM.2.1,sO.2.1,bR,rh.2.2.1,rh.2.2.2.1,())
def et:Nat→jn×jo×ik
 |0=>(fun _ _ _ _ _ _ _ _=>none,fun _ _ _ _ _ _ _=>none,fun _ _ _ _ _ _ _=>none)
 |k + 1=>(gO (et k).1 (et k).2.1 (et k).2.2 k,iB (et k).1 (et k).2.1 (et k).2.2 k,cz (et k).1 (et k).2.1 (et k).2.2 k)
def ao(k:Nat):jn:=(et k).1
def ip(k:Nat):jo:=(et k).2.1
def gP(k:Nat):ik:=(et k).2.2
section
variable (cg:Gd bz 120 zY) (cC:Gd bz 149 zZ) (cw:Gd bz 160 xr)
def wm(k:Nat):mg:=⟨⟨57,[(77,7)],[lD 77 0 sT,lI 77 2,rP 0 77,rI 1],[lI 77 1,lF 77 3 tN,lI 77 4,lI 77 5,lI 77 6,rI 5],[]⟩,[.ex (.exit 0) [lI 77 1,lF 77 3 tN,lI 77 4,lI 77 5,lI 77 6,rI 5]],fun q c v=>fy cg.1 cC.1 cw.1 k q c.1 c.2.1 c.2.2.2.1 v.1 v.2.1 v.2.2.1 v.2.2.2.1 v.2.2.2.2.1 v.2.2.2.2.2.1⟩
def zS(k:Nat):Ev bz:=⟨[fD,eN,cg.cl,cC.cl,Rt,B6],[lp 0 (wm cg cC cw k) k],[]⟩
def Ez(k q:Nat):Cd bz:=nD (zS cg cC cw k) f120 0 (wm cg cC cw k) q []
def IU(k:Nat):Cl bz:=mX (zS cg cC cw k) 120 f120 func120 call120 [500000] (qy (gO cg.1 cC.1 cw.1 k)) [Ez cg cC cw k k]
def IV(k:Nat):Cl bz:=mX ⟨[jf,fD,eN,pr,cC.cl,cw.cl],[],[]⟩ 149 f149 func149 call149 [500000] (qA (iB cg.1 cC.1 cw.1 k)) []
def F7(k:Nat):Cl bz:=mX ⟨[jf,fD,je,jd,yT,eN,nj,pr,cg.cl],[],[]⟩ 160 f160 func160 call160 [500000] (oS (cz cg.1 cC.1 cw.1 k)) []
end
theorem mT:∀ k,l8 prog gt 120 (zY (ao k))∧l8 prog gt 149 (zZ (ip k))∧l8 prog gt 160 (xr (gP k))
 |0=>⟨dh (fun _ _=>rfl),dh (fun _ _=>rfl),dh (fun _ _=>rfl)⟩
 |k + 1=>have ih:=mT k;⟨(IU ⟨_,ih.1⟩ ⟨_,ih.2.1⟩ ⟨_,ih.2.2⟩ k).ok,(IV ⟨_,ih.1⟩ ⟨_,ih.2.1⟩ ⟨_,ih.2.2⟩ k).ok,(F7 ⟨_,ih.1⟩ ⟨_,ih.2.1⟩ ⟨_,ih.2.2⟩ k).ok⟩
def qD(k:Nat):Cl bz:=⟨_,_,(mT k).1⟩
def VI(k:Nat):Cl bz:=⟨_,_,(mT k).2.1⟩
def Tn(k:Nat):Cl bz:=⟨_,_,(mT k).2.2⟩
def nK(t:XT)(p aE:Int)(aA:XN)(Code At:Int):Option (Int×Int×XN×Int×Int×Unit):=
 (da t p aE).bind fun r1=>
 (dB t p aE Code At).bind fun r2=>
 (aW aA r2.2.2.1 (23,r1.1,0,r2.1,[])).bind fun r3=>
 some (r3.1,r2.2.1,r3.2.1,r2.2.2.1,r2.2.2.2.1,())
def Lz:Cl bz:=mX ⟨[fD,je,eN],[],[]⟩ 146 f146 func146 call146 [500000] ⟨⟨14,[(77,7)],[lD 77 0 sT,lI 77 2,lI 77 4],[rP 0 77,lI 77 1,lF 77 3 tN,lI 77 5,lI 77 6],[]⟩,[.ret [rI 500000,lI 77 1,lF 77 3 tN,lI 77 5,lI 77 6] []],fun c v=>nK c.1 v.2.1 c.2.1 v.2.2.1 v.2.2.2.1 v.2.2.2.2.1⟩ []
def uV(t:XT)(p:Int)(bF:an):Option (Bool×Unit):=
 aa (fun(v:Bool)=>
  aa (fun(v2:Bool)=>
   some (v2,())) fun jH=>
  bif v then
   (bH t (dq (p + 1))).bind fun x2=>
   jH (x2.1 == 4)
  else
   jH false) fun cD=>
 bif decide ((dq (p + 1)) < (t.length:Int)) then
  (bH t (dq (p + 1))).bind fun x1=>
  cD (x1.2.2.1 == bF)
 else
  cD false
def Kc:Cl bz:=mX ⟨[],[],[]⟩ 147 f147 func147 call147 [500000] ⟨⟨47,[(77,7)],[lD 77 0 sT,lI 77 1,lI 77 2,lF 77 3 tN,lI 77 4,lI 77 5,lI 77 6],[rP 0 77,rD 1 .str],[]⟩,[.ret [rD 500000 .bool] []],fun c v=>uV c.1 c.2.1 v.2.1⟩ []
def bw(q:Nat):Nat→XT→Int→Int→XN→Int→Int→Int→XI→Option (Int×XN×Int×Int×Int×XI×Unit)
 |0,_,_,_,_,_,_,_,_=>none
 |k + 1,t2,fK,p2,bX,mz,gZ,GD,cB=>
  aa (fun(v2:Bool)=>
   bif v2 then
    aa (fun(jv:Int×Int×Int)=>
     (ao q t2 (jv.1) fK bX mz (jv.2.1) (jv.2.2) 1).bind fun r28=>
     (lq cB ([r28.1])).bind fun l=>
     bw q k t2 fK r28.2.1 r28.2.2.1 r28.2.2.2.1 r28.2.2.2.2.1 r28.2.2.2.2.2.1 l) fun jH=>
    bif decide ((cB.length:Int) > 1) then
     (aO t2 p2 fK gZ GD ([44]:an)).bind fun r27=>
     jH (r27.1,r27.2.1,r27.2.2.1)
    else
     jH (p2,gZ,GD)
   else
    some (p2,bX,mz,gZ,GD,cB,())) fun cD=>
  bif gZ == 0 then
   (fw t2 p2 gZ ([41]:an)).bind fun r26=>
   cD (!r26.1)
  else
   cD false
def dX(k:Nat)(t:XT)(p aE:Int)(aA:XN)(bR Code At:Int):Option (Int×Int×XN×Int×Int×Int×Unit):=
 (da t p aE).bind fun r1=>
 (dB t p aE Code At).bind fun r2=>
 (bW t r2.2.1 r2.2.2.1 ([91]:an)).bind fun r3=>
 bif r3.1 then
  (ao k t r3.2.1 aE aA bR r2.2.2.1 r2.2.2.2.1 1).bind fun r4=>
  (aO t r4.2.1 aE r4.2.2.2.2.1 r4.2.2.2.2.2.1 ([93]:an)).bind fun r5=>
  (aO t r5.1 aE r5.2.1 r5.2.2.1 ([61]:an)).bind fun r6=>
  (ao k t r6.1 aE r4.2.2.1 r4.2.2.2.1 r6.2.1 r6.2.2.1 1).bind fun r7=>
  (aO t r7.2.1 aE r7.2.2.2.2.1 r7.2.2.2.2.2.1 ([59]:an)).bind fun r8=>
  (aW r7.2.2.1 r8.2.1 (10,r1.1,0,r2.1,[r4.1,r7.1])).bind fun r9=>
  some (r9.1,r8.1,r9.2.1,r7.2.2.2.1,r8.2.1,r8.2.2.1,())
 else
  (bW t r3.2.1 r2.2.2.1 ([43,61]:an)).bind fun mY=>
  bif mY.1 then
   (ao k t mY.2.1 aE aA bR r2.2.2.1 r2.2.2.2.1 1).bind fun pT=>
   (aO t pT.2.1 aE pT.2.2.2.2.1 pT.2.2.2.2.2.1 ([59]:an)).bind fun rh=>
   (aW pT.2.2.1 rh.2.1 (13,r1.1,0,r2.1,[pT.1])).bind fun sM=>
   some (sM.1,rh.1,sM.2.1,pT.2.2.2.1,rh.2.1,rh.2.2.1,())
  else
   (aO t mY.2.1 aE r2.2.2.1 r2.2.2.2.1 ([61]:an)).bind fun sX=>
   (bW t sX.1 sX.2.1 ([38]:an)).bind fun sa=>
   bif sa.1 then
    (nK t sa.2.1 aE aA sX.2.1 sX.2.2.1).bind fun tZ=>
    (aO t tZ.2.1 aE tZ.2.2.2.1 tZ.2.2.2.2.1 ([91]:an)).bind fun wL=>
    (ao k t wL.1 aE tZ.2.2.1 bR wL.2.1 wL.2.2.1 1).bind fun sO=>
    (aO t sO.2.1 aE sO.2.2.2.2.1 sO.2.2.2.2.2.1 ([93]:an)).bind fun sY=>
    (aO t sY.1 aE sY.2.1 sY.2.2.1 ([59]:an)).bind fun yp=>
    (aW sO.2.2.1 yp.2.1 (12,r1.1,0,r2.1,[tZ.1,sO.1])).bind fun AY=>
    some (AY.1,yp.1,AY.2.1,sO.2.2.2.1,yp.2.1,yp.2.2.1,())
   else
    (iU t sa.2.1 sX.2.1 1).bind fun NX=>
    aa (fun(v:Bool)=>
     bif v then
      (nK t sa.2.1 aE aA sX.2.1 sX.2.2.1).bind fun Im=>
      (aO t Im.2.1 aE Im.2.2.2.1 Im.2.2.2.2.1 ([40]:an)).bind fun r25=>
      (bw k k t aE r25.1 Im.2.2.1 bR r25.2.1 r25.2.2.1 ([Im.1])).bind fun o=>
      (aO t o.1 aE o.2.2.2.1 o.2.2.2.2.1 ([41]:an)).bind fun r26=>
      (aO t r26.1 aE r26.2.1 r26.2.2.1 ([59]:an)).bind fun r27=>
      (aW o.2.1 r27.2.1 (22,r1.1,0,r2.1,o.2.2.2.2.2.1)).bind fun r28=>
      some (r28.1,r27.1,r28.2.1,o.2.2.1,r27.2.1,r27.2.2.1,())
     else
      aa (fun(jv:Int×Int×XN×Int×Int×Int)=>
       (aO t (jv.2.1) aE (jv.2.2.2.2.1) (jv.2.2.2.2.2) ([59]:an)).bind fun r33=>
       (aW (jv.2.2.1) r33.2.1 (9,r1.1,0,r2.1,[(jv.1)])).bind fun r34=>
       some (r34.1,r33.1,r34.2.1,(jv.2.2.2.1),r33.2.1,r33.2.2.1,())) fun jH=>
      (fw t sa.2.1 sX.2.1 ([110,117,108,108]:an)).bind fun r29=>
      bif r29.1 then
       (da t sa.2.1 aE).bind fun r30=>
       (aW aA sX.2.1 (29,r30.1,0,([]:an),[])).bind fun r31=>
       jH (r31.1,(dq (sa.2.1 + 1)),r31.2.1,bR,sX.2.1,sX.2.2.1)
      else
       (ao k t sa.2.1 aE aA bR sX.2.1 sX.2.2.1 1).bind fun r32=>
       jH (r32.1,r32.2.1,r32.2.2.1,r32.2.2.2.1,r32.2.2.2.2.1,r32.2.2.2.2.2.1)) fun cD=>
    bif NX.1 then
     (uV t sa.2.1 ([40]:an)).bind fun Nh=>
     cD Nh.1
    else
     cD false
def wn(k:Nat):mg:=⟨⟨139,[(77,7)],[lD 77 0 sT,lI 77 2,rP 0 77,rI 3,rD 4 .str],[lI 77 1,lF 77 3 tN,lI 77 4,lI 77 5,lI 77 6,(.r 10,.h .dE I)],[]⟩,[.ex (.exit 0) [lI 77 1,lF 77 3 tN,lI 77 4,lI 77 5,lI 77 6,(.r 10,.h .dE I)]],fun q c v=>bw k q c.1 c.2.1 v.1 v.2.1 v.2.2.1 v.2.2.2.1 v.2.2.2.2.1 v.2.2.2.2.2.1⟩
def zT(k:Nat):Ev bz:=⟨[jf,fD,je,jd,eN,mh,nj,qD k,Lz,Kc],[lp 0 (wn k) k],[]⟩
def EA(k q:Nat):Cd bz:=nD (zT k) f118 0 (wn k) q []
def IG(k:Nat):Cl bz:=mX (zT k) 118 f118 func118 call118 [500000] ⟨⟨139,[(77,7)],[lD 77 0 sT,lI 77 2],[rP 0 77,lI 77 1,lF 77 3 tN,lI 77 4,lI 77 5,lI 77 6],[]⟩,[.ret [rI 500000,lI 77 1,lF 77 3 tN,lI 77 4,lI 77 5,lI 77 6] []],fun c v=>dX k c.1 v.2.1 c.2.1 v.2.2.1 v.2.2.2.1 v.2.2.2.2.1 v.2.2.2.2.2.1⟩ [EA k k]
def BE(wN:an):Option (Int×Unit):=
 bif wN == ([61,61]:an) then
  some (1,())
 else
  bif wN == ([33,61]:an) then
   some (2,())
  else
   bif wN == ([60]:an) then
    some (3,())
   else
    bif wN == ([60,61]:an) then
     some (4,())
    else
     bif wN == ([62]:an) then
      some (5,())
     else
      bif wN == ([62,61]:an) then
       some (6,())
      else
       some (0,())
def PA:Cl bz:=wv ⟨[],[],[]⟩ 170 f170 func170 call170 [.str] [I] (fun d=>BE d.1) []
abbrev iZ:=XT→Int→Int→XN→Int→Int→Int→Option (Int×Int×XN×Int×Int×Int×Unit)
def rM(f:iZ):DU:=⟨⟨30,[(77,7)],[lD 77 0 sT,lI 77 2],[rP 0 77,lI 77 1,lF 77 3 tN,lI 77 4,lI 77 5,lI 77 6],[]⟩,[.ret [rI 500000,lI 77 1,lF 77 3 tN,lI 77 4,lI 77 5,lI 77 6] []],fun c v=>f c.1 v.2.1 c.2.1 v.2.2.1 v.2.2.2.1 v.2.2.2.2.1 v.2.2.2.2.2.1⟩
def BT(f:iZ):iX:=mI (rM f).L (rM f).F (AW [500000] (rM f).V)
abbrev iY:=XT→Int→Int→XN→Int→Int→Int→Option (Int×Int×XN×Int×Int×Int×Unit)
def rL(f:iY):DU:=⟨⟨30,[(77,7)],[lD 77 0 sT,lI 77 2],[rP 0 77,lI 77 1,lF 77 3 tN,lI 77 4,lI 77 5,lI 77 6],[]⟩,[.ret [rI 500000,lI 77 1,lF 77 3 tN,lI 77 4,lI 77 5,lI 77 6] []],fun c v=>f c.1 v.2.1 c.2.1 v.2.2.1 v.2.2.2.1 v.2.2.2.2.1 v.2.2.2.2.2.1⟩
def BR(f:iY):iX:=mI (rL f).L (rL f).F (AW [500000] (rL f).V)
abbrev ja:=XT→Int→Int→XN→Int→Int→Int→Option (Int×Int×XN×Int×Int×Int×Unit)
def rN(f:ja):DU:=⟨⟨89,[(77,7)],[lD 77 0 sT,lI 77 2],[rP 0 77,lI 77 1,lF 77 3 tN,lI 77 4,lI 77 5,lI 77 6],[]⟩,[.ret [rI 500000,lI 77 1,lF 77 3 tN,lI 77 4,lI 77 5,lI 77 6] []],fun c v=>f c.1 v.2.1 c.2.1 v.2.2.1 v.2.2.2.1 v.2.2.2.2.1 v.2.2.2.2.2.1⟩
def BU(f:ja):iX:=mI (rN f).L (rN f).F (AW [500000] (rN f).V)
def fZ(bD:iZ)(bA:iY)(bg:ja)(q:Nat):Nat→XT→Int→Int→XN→Int→Int→Int→Int→Option (Int×XN×Int×Int×Int×Int×Unit)
 |0,_,_,_,_,_,_,_,_=>none
 |k + 1,t2,fK,p2,bX,mz,gZ,GD,x1=>
  (fw t2 p2 gZ ([111,114]:an)).bind fun r2=>
  bif r2.1 then
   (da t2 p2 fK).bind fun r3=>
   (bA t2 (dq (p2 + 1)) fK bX mz gZ GD).bind fun r4=>
   (aW r4.2.2.1 r4.2.2.2.2.1 (32,r3.1,0,([]:an),[x1,r4.1])).bind fun r5=>
   fZ bD bA bg q k t2 fK r4.2.1 r5.2.1 r4.2.2.2.1 r4.2.2.2.2.1 r4.2.2.2.2.2.1 r5.1
  else
   some (p2,bX,mz,gZ,GD,x1,())
def lJ(bD:iZ)(bA:iY)(bg:ja)(k:Nat)(t:XT)(p aE:Int)(aA:XN)(bR Code At:Int):Option (Int×Int×XN×Int×Int×Int×Unit):=
 (bA t p aE aA bR Code At).bind fun r1=>
 (fZ bD bA bg k k t aE r1.2.1 r1.2.2.1 r1.2.2.2.1 r1.2.2.2.2.1 r1.2.2.2.2.2.1 r1.1).bind fun o=>
 some (o.2.2.2.2.2.1,o.1,o.2.1,o.2.2.1,o.2.2.2.1,o.2.2.2.2.1,())
def fY(bD:iZ)(bA:iY)(bg:ja)(q:Nat):Nat→XT→Int→Int→XN→Int→Int→Int→Int→Option (Int×XN×Int×Int×Int×Int×Unit)
 |0,_,_,_,_,_,_,_,_=>none
 |k + 1,t2,fK,p2,bX,mz,gZ,GD,x1=>
  (fw t2 p2 gZ ([97,110,100]:an)).bind fun r2=>
  bif r2.1 then
   (da t2 p2 fK).bind fun r3=>
   (bg t2 (dq (p2 + 1)) fK bX mz gZ GD).bind fun r4=>
   (aW r4.2.2.1 r4.2.2.2.2.1 (31,r3.1,0,([]:an),[x1,r4.1])).bind fun r5=>
   fY bD bA bg q k t2 fK r4.2.1 r5.2.1 r4.2.2.2.1 r4.2.2.2.2.1 r4.2.2.2.2.2.1 r5.1
  else
   some (p2,bX,mz,gZ,GD,x1,())
def lE(bD:iZ)(bA:iY)(bg:ja)(k:Nat)(t:XT)(p aE:Int)(aA:XN)(bR Code At:Int):Option (Int×Int×XN×Int×Int×Int×Unit):=
 (bg t p aE aA bR Code At).bind fun r1=>
 (fY bD bA bg k k t aE r1.2.1 r1.2.2.1 r1.2.2.2.1 r1.2.2.2.2.1 r1.2.2.2.2.2.1 r1.1).bind fun o=>
 some (o.2.2.2.2.2.1,o.1,o.2.1,o.2.2.1,o.2.2.2.1,o.2.2.2.2.1,())
def dy(bD:iZ)(bA:iY)(bg:ja)(k:Nat)(t:XT)(p aE:Int)(aA:XN)(bR Code At:Int):Option (Int×Int×XN×Int×Int×Int×Unit):=
 (da t p aE).bind fun r1=>
 (bW t p Code ([110,111,116]:an)).bind fun r2=>
 bif r2.1 then
  (iv t r2.2.1 aE bR Code At).bind fun r3=>
  bif !r3.1 then
   some (0,r2.2.1,aA,r3.2.1,r3.2.2.1,r3.2.2.2.1,())
  else
   (bg t r2.2.1 aE aA r3.2.1 r3.2.2.1 r3.2.2.2.1).bind fun r4=>
   (aW r4.2.2.1 r4.2.2.2.2.1 (33,r1.1,0,([]:an),[r4.1])).bind fun r5=>
   some (r5.1,r4.2.1,r5.2.1,(dq (r4.2.2.2.1 - 1)),r4.2.2.2.2.1,r4.2.2.2.2.2.1,())
 else
  (bW t r2.2.1 Code ([91]:an)).bind fun r6=>
  bif r6.1 then
   (iv t r6.2.1 aE bR Code At).bind fun r7=>
   bif !r7.1 then
    some (0,r6.2.1,aA,r7.2.1,r7.2.2.1,r7.2.2.2.1,())
   else
    (bD t r6.2.1 aE aA r7.2.1 r7.2.2.1 r7.2.2.2.1).bind fun r8=>
    (aO t r8.2.1 aE r8.2.2.2.2.1 r8.2.2.2.2.2.1 ([93]:an)).bind fun r9=>
    some (r8.1,r9.1,r8.2.2.1,(dq (r8.2.2.2.1 - 1)),r9.2.1,r9.2.2.1,())
  else
   (bW t r6.2.1 Code ([110,117,108,108]:an)).bind fun mY=>
   bif mY.1 then
    (dB t mY.2.1 aE Code At).bind fun pT=>
    (aW aA pT.2.2.1 (34,r1.1,0,pT.1,[])).bind fun rh=>
    some (rh.1,pT.2.1,rh.2.1,bR,pT.2.2.1,pT.2.2.2.1,())
   else
    (ao k t mY.2.1 aE aA bR Code At 1).bind fun sM=>
    (da t sM.2.1 aE).bind fun sX=>
    (mm t sM.2.1 sM.2.2.2.2.1).bind fun sa=>
    (BE sa.1).bind fun tZ=>
    bif tZ.1 == 0 then
     (iT t sM.2.1 aE sM.2.2.2.2.1 sM.2.2.2.2.2.1 6).bind fun wL=>
     some (0,sM.2.1,sM.2.2.1,sM.2.2.2.1,wL.1,wL.2.1,())
    else
     (ao k t (dq (sM.2.1 + 1)) aE sM.2.2.1 sM.2.2.2.1 sM.2.2.2.2.1 sM.2.2.2.2.2.1 1).bind fun sO=>
     (aW sO.2.2.1 sO.2.2.2.2.1 (30,sX.1,tZ.1,([]:an),[sM.1,sO.1])).bind fun sY=>
     some (sY.1,sO.2.1,sY.2.1,sO.2.2.2.1,sO.2.2.2.2.1,sO.2.2.2.2.2.1,())
def eO:Nat→iZ×iY×ja
 |0=>(fun _ _ _ _ _ _ _=>none,fun _ _ _ _ _ _ _=>none,fun _ _ _ _ _ _ _=>none)
 |k + 1=>(lJ (eO k).1 (eO k).2.1 (eO k).2.2 k,lE (eO k).1 (eO k).2.1 (eO k).2.2 k,dy (eO k).1 (eO k).2.1 (eO k).2.2 k)
def dR(k:Nat):iZ:=(eO k).1
def gj(k:Nat):iY:=(eO k).2.1
def fh(k:Nat):ja:=(eO k).2.2
section
variable (bD:Gd bz 121 BT) (bA:Gd bz 152 BR) (bg:Gd bz 161 BU)
def yg(k:Nat):mg:=⟨⟨30,[(77,7)],[lD 77 0 sT,lI 77 2,rP 0 77],[lI 77 1,lF 77 3 tN,lI 77 4,lI 77 5,lI 77 6,rI 3],[]⟩,[.ex (.exit 0) [lI 77 1,lF 77 3 tN,lI 77 4,lI 77 5,lI 77 6,rI 3]],fun q c v=>fZ bD.1 bA.1 bg.1 k q c.1 c.2.1 v.1 v.2.1 v.2.2.1 v.2.2.2.1 v.2.2.2.2.1 v.2.2.2.2.2.1⟩
def BN(k:Nat):Ev bz:=⟨[fD,eN,mh,bA.cl],[lp 0 (yg bD bA bg k) k],[]⟩
def FI(k q:Nat):Cd bz:=nD (BN bD bA bg k) f121 0 (yg bD bA bg k) q []
def Kj(k:Nat):Cl bz:=mX (BN bD bA bg k) 121 f121 func121 call121 [500000] (rM (lJ bD.1 bA.1 bg.1 k)) [FI bD bA bg k k]
def yf(k:Nat):mg:=⟨⟨30,[(77,7)],[lD 77 0 sT,lI 77 2,rP 0 77],[lI 77 1,lF 77 3 tN,lI 77 4,lI 77 5,lI 77 6,rI 3],[]⟩,[.ex (.exit 0) [lI 77 1,lF 77 3 tN,lI 77 4,lI 77 5,lI 77 6,rI 3]],fun q c v=>fY bD.1 bA.1 bg.1 k q c.1 c.2.1 v.1 v.2.1 v.2.2.1 v.2.2.2.1 v.2.2.2.2.1 v.2.2.2.2.2.1⟩
def BM(k:Nat):Ev bz:=⟨[fD,eN,mh,bg.cl],[lp 0 (yf bD bA bg k) k],[]⟩
def FH(k q:Nat):Cd bz:=nD (BM bD bA bg k) f152 0 (yf bD bA bg k) q []
def Ki(k:Nat):Cl bz:=mX (BM bD bA bg k) 152 f152 func152 call152 [500000] (rL (lE bD.1 bA.1 bg.1 k)) [FH bD bA bg k k]
def Kk(k:Nat):Cl bz:=mX ⟨[jf,fD,je,jd,eN,ni,pr,qD k,bD.cl,B6,bg.cl,PA],[],[]⟩ 161 f161 func161 call161 [500000] (rN (dy bD.1 bA.1 bg.1 k)) []
end
theorem nw:∀ k,l8 prog gt 121 (BT (dR k))∧l8 prog gt 152 (BR (gj k))∧l8 prog gt 161 (BU (fh k))
 |0=>⟨dh (fun _ _=>rfl),dh (fun _ _=>rfl),dh (fun _ _=>rfl)⟩
 |k + 1=>have ih:=nw k;⟨(Kj ⟨_,ih.1⟩ ⟨_,ih.2.1⟩ ⟨_,ih.2.2⟩ k).ok,(Ki ⟨_,ih.1⟩ ⟨_,ih.2.1⟩ ⟨_,ih.2.2⟩ k).ok,(Kk ⟨_,ih.1⟩ ⟨_,ih.2.1⟩ ⟨_,ih.2.2⟩ k).ok⟩
def B5(k:Nat):Cl bz:=⟨_,_,(nw k).1⟩
def Ww(k:Nat):Cl bz:=⟨_,_,(nw k).2.1⟩
def Wx(k:Nat):Cl bz:=⟨_,_,(nw k).2.2⟩
end
end Go.Fx.R5
namespace Go.Fx.R5
open Go Go.Fx Go.Proofs Go.Proofs.Tryz
noncomputable section
abbrev gl:=XT→Int→Int→XN→Int→Int→Int→Option (Int×Int×XN×Int×Int×Int×Unit)
def nv(f:gl):DU:=⟨⟨77,[(77,7)],[lD 77 0 sT,lI 77 2],[rP 0 77,lI 77 1,lF 77 3 tN,lI 77 4,lI 77 5,lI 77 6],[]⟩,[.ret [rI 500000,lI 77 1,lF 77 3 tN,lI 77 4,lI 77 5,lI 77 6] []],fun c v=>f c.1 v.2.1 c.2.1 v.2.2.1 v.2.2.2.1 v.2.2.2.2.1 v.2.2.2.2.2.1⟩
def u6(f:gl):iX:=mI (nv f).L (nv f).F (AW [500000] (nv f).V)
abbrev iI:=XT→Int→Int→XN→Int→Int→Int→Option (Int×Int×XN×Int×Int×Int×Unit)
def pJ(f:iI):DU:=⟨⟨73,[(77,7)],[lD 77 0 sT,lI 77 2],[rP 0 77,lI 77 1,lF 77 3 tN,lI 77 4,lI 77 5,lI 77 6],[]⟩,[.ret [rI 500000,lI 77 1,lF 77 3 tN,lI 77 4,lI 77 5,lI 77 6] []],fun c v=>f c.1 v.2.1 c.2.1 v.2.2.1 v.2.2.2.1 v.2.2.2.2.1 v.2.2.2.2.2.1⟩
def yO(f:iI):iX:=mI (pJ f).L (pJ f).F (AW [500000] (pJ f).V)
abbrev jm:=XT→Int→Int→XN→Int→Int→Int→Option (Int×Int×XN×Int×Int×Int×Unit)
def qx(f:jm):DU:=⟨⟨44,[(77,7)],[lD 77 0 sT,lI 77 2],[rP 0 77,lI 77 1,lF 77 3 tN,lI 77 4,lI 77 5,lI 77 6],[]⟩,[.ret [rI 500000,lI 77 1,lF 77 3 tN,lI 77 4,lI 77 5,lI 77 6] []],fun c v=>f c.1 v.2.1 c.2.1 v.2.2.1 v.2.2.2.1 v.2.2.2.2.1 v.2.2.2.2.2.1⟩
def zX(f:jm):iX:=mI (qx f).L (qx f).F (AW [500000] (qx f).V)
def bP(bO:gl)(cJ:iI)(cu:jm)(k:Nat)(t:XT)(p aE:Int)(aA:XN)(bR Code At:Int):Option (Int×Int×XN×Int×Int×Int×Unit):=
 (da t p aE).bind fun r1=>
 (iU t p Code 1).bind fun r2=>
 bif r2.1 then
  (dX k t p aE aA bR Code At).bind fun r3=>
  some (r3.1,r3.2.1,r3.2.2.1,r3.2.2.2.1,r3.2.2.2.2.1,r3.2.2.2.2.2.1,())
 else
  (fw t p Code ([105,102]:an)).bind fun r4=>
  aa (fun(v:Bool)=>
   aa (fun(v2:Bool)=>
    bif v2 then
     (cJ t p aE aA bR Code At).bind fun r7=>
     some (r7.1,r7.2.1,r7.2.2.1,r7.2.2.2.1,r7.2.2.2.2.1,r7.2.2.2.2.2.1,())
    else
     aa (fun(jv:Int×XN×Int×Int×Int×Int×Int×an×XI)=>
      (aO t (jv.1) aE (jv.2.2.2.1) (jv.2.2.2.2.1) ([59]:an)).bind fun Nh=>
      (aW (jv.2.1) Nh.2.1 ((jv.2.2.2.2.2.1),(jv.2.2.2.2.2.2.1),0,(jv.2.2.2.2.2.2.2.1),(jv.2.2.2.2.2.2.2.2))).bind fun Im=>
      some (Im.1,Nh.1,Im.2.1,(jv.2.2.1),Nh.2.1,Nh.2.2.1,())) fun xG=>
     (bW t p Code ([42]:an)).bind fun r8=>
     bif r8.1 then
      (dB t r8.2.1 aE Code At).bind fun r9=>
      (aO t r9.2.1 aE r9.2.2.1 r9.2.2.2.1 ([61]:an)).bind fun mY=>
      (ao k t mY.1 aE aA bR mY.2.1 mY.2.2.1 1).bind fun pT=>
      xG (pT.2.1,pT.2.2.1,pT.2.2.2.1,pT.2.2.2.2.1,pT.2.2.2.2.2.1,11,r1.1,r9.1,[pT.1])
     else
      (bW t r8.2.1 Code ([114,101,97,100]:an)).bind fun rh=>
      bif rh.1 then
       (da t rh.2.1 aE).bind fun sM=>
       (dB t rh.2.1 aE Code At).bind fun sX=>
       xG (sX.2.1,aA,bR,sX.2.2.1,sX.2.2.2.1,17,sM.1,sX.1,[])
      else
       (bW t rh.2.1 Code ([112,114,105,110,116]:an)).bind fun sa=>
       bif sa.1 then
        (ao k t sa.2.1 aE aA bR Code At 1).bind fun tZ=>
        xG (tZ.2.1,tZ.2.2.1,tZ.2.2.2.1,tZ.2.2.2.2.1,tZ.2.2.2.2.2.1,18,r1.1,([]:an),[tZ.1])
       else
        (bW t sa.2.1 Code ([97,115,115,101,114,116]:an)).bind fun wL=>
        bif wL.1 then
         (dR k t wL.2.1 aE aA bR Code At).bind fun sO=>
         xG (sO.2.1,sO.2.2.1,sO.2.2.2.1,sO.2.2.2.2.1,sO.2.2.2.2.2.1,19,r1.1,([]:an),[sO.1])
        else
         (bW t wL.2.1 Code ([115,116,111,112]:an)).bind fun sY=>
         bif sY.1 then
          xG (sY.2.1,aA,bR,Code,At,20,r1.1,([]:an),[])
         else
          (bW t sY.2.1 Code ([114,101,116,117,114,110]:an)).bind fun yp=>
          bif yp.1 then
           (ao k t yp.2.1 aE aA bR Code At 1).bind fun AY=>
           xG (AY.2.1,AY.2.2.1,AY.2.2.2.1,AY.2.2.2.2.1,AY.2.2.2.2.2.1,21,r1.1,([]:an),[AY.1])
          else
           (iT t yp.2.1 aE Code At 6).bind fun NX=>
           xG (yp.2.1,aA,bR,NX.1,NX.2.1,0,r1.1,([]:an),[])) fun jH=>
   bif v then
    jH true
   else
    (fw t p Code ([102,111,114]:an)).bind fun r6=>
    jH r6.1) fun cD=>
  bif r4.1 then
   cD true
  else
   (fw t p Code ([119,104,105,108,101]:an)).bind fun r5=>
   cD r5.1
def jY(bO:gl)(cJ:iI)(cu:jm)(k:Nat)(t:XT)(p aE:Int)(aA:XN)(bR Code At:Int):Option (Int×Int×XN×Int×Int×Int×Unit):=
 (da t p aE).bind fun r1=>
 (bW t p Code ([105,102]:an)).bind fun r2=>
 bif r2.1 then
  (dR k t r2.2.1 aE aA bR Code At).bind fun r3=>
  (cu t r3.2.1 aE r3.2.2.1 r3.2.2.2.1 r3.2.2.2.2.1 r3.2.2.2.2.2.1).bind fun r4=>
  (lq ([r3.1]) ([r4.1])).bind fun l=>
  aa (fun(jv:XI×Int×XN×Int×Int×Int)=>
   (aW (jv.2.2.1) (jv.2.2.2.2.1) (14,r1.1,0,([]:an),(jv.1))).bind fun r7=>
   some (r7.1,(jv.2.1),r7.2.1,(jv.2.2.2.1),(jv.2.2.2.2.1),(jv.2.2.2.2.2),())) fun cD=>
  (bW t r4.2.1 r4.2.2.2.2.1 ([101,108,115,101]:an)).bind fun r5=>
  bif r5.1 then
   (cu t r5.2.1 aE r4.2.2.1 r4.2.2.2.1 r4.2.2.2.2.1 r4.2.2.2.2.2.1).bind fun r6=>
   (lq l ([r6.1])).bind fun l2=>
   cD (l2,r6.2.1,r6.2.2.1,r6.2.2.2.1,r6.2.2.2.2.1,r6.2.2.2.2.2.1)
  else
   cD (l,r5.2.1,r4.2.2.1,r4.2.2.2.1,r4.2.2.2.2.1,r4.2.2.2.2.2.1)
 else
  (bW t r2.2.1 Code ([119,104,105,108,101]:an)).bind fun r8=>
  bif r8.1 then
   (dR k t r8.2.1 aE aA bR Code At).bind fun r9=>
   (cu t r9.2.1 aE r9.2.2.1 r9.2.2.2.1 r9.2.2.2.2.1 r9.2.2.2.2.2.1).bind fun mY=>
   (aW mY.2.2.1 mY.2.2.2.2.1 (15,r1.1,0,([]:an),[r9.1,mY.1])).bind fun pT=>
   some (pT.1,mY.2.1,pT.2.1,mY.2.2.2.1,mY.2.2.2.2.1,mY.2.2.2.2.2.1,())
  else
   (aO t r8.2.1 aE Code At ([102,111,114]:an)).bind fun rh=>
   (da t rh.1 aE).bind fun sM=>
   (dB t rh.1 aE rh.2.1 rh.2.2.1).bind fun sX=>
   (aO t sX.2.1 aE sX.2.2.1 sX.2.2.2.1 ([61]:an)).bind fun sa=>
   (ao k t sa.1 aE aA bR sa.2.1 sa.2.2.1 1).bind fun tZ=>
   (aO t tZ.2.1 aE tZ.2.2.2.2.1 tZ.2.2.2.2.2.1 ([46,46]:an)).bind fun wL=>
   (ao k t wL.1 aE tZ.2.2.1 tZ.2.2.2.1 wL.2.1 wL.2.2.1 1).bind fun sO=>
   (cu t sO.2.1 aE sO.2.2.1 sO.2.2.2.1 sO.2.2.2.2.1 sO.2.2.2.2.2.1).bind fun sY=>
   (aW sY.2.2.1 sY.2.2.2.2.1 (16,sM.1,0,sX.1,[tZ.1,sO.1,sY.1])).bind fun yp=>
   some (yp.1,sY.2.1,yp.2.1,sY.2.2.2.1,sY.2.2.2.2.1,sY.2.2.2.2.2.1,())
def eg(bO:gl)(cJ:iI)(cu:jm)(q:Nat):Nat→XT→Int→Int→XN→Int→Int→Int→XI→Option (Int×XN×Int×Int×Int×XI×Unit)
 |0,_,_,_,_,_,_,_,_=>none
 |k + 1,t2,fK,p2,bX,mz,gZ,GD,cB=>
  aa (fun(v:Bool)=>
   bif v then
    (bO t2 p2 fK bX mz gZ GD).bind fun r5=>
    (lq cB ([r5.1])).bind fun l=>
    eg bO cJ cu q k t2 fK r5.2.1 r5.2.2.1 r5.2.2.2.1 r5.2.2.2.2.1 r5.2.2.2.2.2.1 l
   else
    some (p2,bX,mz,gZ,GD,cB,())) fun cD=>
  bif gZ == 0 then
   (fw t2 p2 gZ ([125]:an)).bind fun r4=>
   cD (!r4.1)
  else
   cD false
def jB(bO:gl)(cJ:iI)(cu:jm)(k:Nat)(t:XT)(p aE:Int)(aA:XN)(bR Code At:Int):Option (Int×Int×XN×Int×Int×Int×Unit):=
 (da t p aE).bind fun r1=>
 (aO t p aE Code At ([123]:an)).bind fun r2=>
 (iv t r2.1 aE bR r2.2.1 r2.2.2.1).bind fun r3=>
 bif !r3.1 then
  some (0,r2.1,aA,r3.2.1,r3.2.2.1,r3.2.2.2.1,())
 else
  (eg bO cJ cu k k t aE r2.1 aA r3.2.1 r3.2.2.1 r3.2.2.2.1 []).bind fun o=>
  (aO t o.1 aE o.2.2.2.1 o.2.2.2.2.1 ([125]:an)).bind fun r4=>
  (aW o.2.1 r4.2.1 (8,r1.1,0,([]:an),o.2.2.2.2.2.1)).bind fun r5=>
  some (r5.1,r4.1,r5.2.1,(dq (o.2.2.1 - 1)),r4.2.1,r4.2.2.1,())
def cO:Nat→gl×iI×jm
 |0=>(fun _ _ _ _ _ _ _=>none,fun _ _ _ _ _ _ _=>none,fun _ _ _ _ _ _ _=>none)
 |k + 1=>(bP (cO k).1 (cO k).2.1 (cO k).2.2 k,jY (cO k).1 (cO k).2.1 (cO k).2.2 k,jB (cO k).1 (cO k).2.1 (cO k).2.2 k)
def eA(k:Nat):gl:=(cO k).1
def lG(k:Nat):iI:=(cO k).2.1
def iS(k:Nat):jm:=(cO k).2.2
section
variable (bO:Gd bz 100 u6) (cJ:Gd bz 119 yO) (cu:Gd bz 148 zX)
def Db(k:Nat):Cl bz:=mX ⟨[jf,fD,je,jd,eN,mh,nj,ni,IG k,cJ.cl,qD k,B5 k],[],[(4,47)]⟩ 100 f100 func100 call100 [500000] (nv (bP bO.1 cJ.1 cu.1 k)) []
def Hs(k:Nat):Cl bz:=mX ⟨[jf,fD,je,jd,eN,qD k,B5 k,cu.cl],[],[]⟩ 119 f119 func119 call119 [500000] (pJ (jY bO.1 cJ.1 cu.1 k)) []
def wl(k:Nat):mg:=⟨⟨44,[(77,7)],[lD 77 0 sT,lI 77 2,rP 0 77,rI 3],[lI 77 1,lF 77 3 tN,lI 77 4,lI 77 5,lI 77 6,(.r 4,.h .dE I)],[]⟩,[.ex (.exit 0) [lI 77 1,lF 77 3 tN,lI 77 4,lI 77 5,lI 77 6,(.r 4,.h .dE I)]],fun q c v=>eg bO.1 cJ.1 cu.1 k q c.1 c.2.1 v.1 v.2.1 v.2.2.1 v.2.2.2.1 v.2.2.2.2.1 v.2.2.2.2.2.1⟩
def zR(k:Nat):Ev bz:=⟨[fD,jd,eN,mh,pr,bO.cl],[lp 0 (wl bO cJ cu k) k],[]⟩
def Ey(k q:Nat):Cd bz:=nD (zR bO cJ cu k) f148 0 (wl bO cJ cu k) q []
def IS(k:Nat):Cl bz:=mX (zR bO cJ cu k) 148 f148 func148 call148 [500000] (qx (jB bO.1 cJ.1 cu.1 k)) [Ey bO cJ cu k k]
end
theorem kg:∀ k,l8 prog gt 100 (u6 (eA k))∧l8 prog gt 119 (yO (lG k))∧l8 prog gt 148 (zX (iS k))
 |0=>⟨dh (fun _ _=>rfl),dh (fun _ _=>rfl),dh (fun _ _=>rfl)⟩
 |k + 1=>have ih:=kg k;⟨(Db ⟨_,ih.1⟩ ⟨_,ih.2.1⟩ ⟨_,ih.2.2⟩ k).ok,(Hs ⟨_,ih.1⟩ ⟨_,ih.2.1⟩ ⟨_,ih.2.2⟩ k).ok,(IS ⟨_,ih.1⟩ ⟨_,ih.2.1⟩ ⟨_,ih.2.2⟩ k).ok⟩
def C1(k:Nat):Cl bz:=⟨_,_,(kg k).1⟩
def Ux(k:Nat):Cl bz:=⟨_,_,(kg k).2.1⟩
def VH(k:Nat):Cl bz:=⟨_,_,(kg k).2.2⟩
def au(q:Nat):Nat→XT→Int→Int→XN→Int→Int→XI→Option (Int×XN×Int×Int×XI×Unit)
 |0,_,_,_,_,_,_,_=>none
 |k + 1,t2,fK,p2,bX,gZ,GD,cB=>
  aa (fun(v:Bool)=>
   bif v then
    aa (fun(jv:Int×Int×Int)=>
     (da t2 (jv.1) fK).bind fun r6=>
     (dB t2 (jv.1) fK (jv.2.1) (jv.2.2)).bind fun r7=>
     (aW bX r7.2.2.1 (5,r6.1,0,r7.1,[])).bind fun r8=>
     (lq cB ([r8.1])).bind fun l=>
     au q k t2 fK r7.2.1 r8.2.1 r7.2.2.1 r7.2.2.2.1 l) fun jH=>
    bif decide ((cB.length:Int) > 0) then
     (aO t2 p2 fK gZ GD ([44]:an)).bind fun r5=>
     jH (r5.1,r5.2.1,r5.2.2.1)
    else
     jH (p2,gZ,GD)
   else
    some (p2,bX,gZ,GD,cB,())) fun cD=>
  bif gZ == 0 then
   (fw t2 p2 gZ ([41]:an)).bind fun r4=>
   cD (!r4.1)
  else
   cD false
def eE(q:Nat):Nat→XI→XI→Int→Option (XI×Unit)
 |0,_,_,_=>none
 |k + 1,l,cB,i1=>
  bif decide (i1 < (l.length:Int)) then
   (bH l i1).bind fun x1=>
   (bH l (i1.toNat:Int)).bind fun x2=>
   (lq cB ([x2])).bind fun l2=>
   eE q k l l2 (dq (i1 + 1))
  else
   some (cB,())
def eF(q:Nat):Nat→XT→Int→Int→XN→Int→Int→Int→XI→Option (Int×XN×Int×Int×Int×XI×Unit)
 |0,_,_,_,_,_,_,_,_=>none
 |k + 1,t2,fK,p2,bX,mz,gZ,GD,body=>
  aa (fun(v:Bool)=>
   bif v then
    (eA q t2 p2 fK bX mz gZ GD).bind fun mY=>
    (lq body ([mY.1])).bind fun l=>
    eF q k t2 fK mY.2.1 mY.2.2.1 mY.2.2.2.1 mY.2.2.2.2.1 mY.2.2.2.2.2.1 l
   else
    some (p2,bX,mz,gZ,GD,body,())) fun cD=>
  bif gZ == 0 then
   (fw t2 p2 gZ ([125]:an)).bind fun r9=>
   cD (!r9.1)
  else
   cD false
def dg(k:Nat)(t:XT)(p aE:Int)(aA:XN)(bR Code At:Int):Option (Int×Int×XN×Int×Int×Int×Unit):=
 (da t p aE).bind fun r1=>
 (dB t p aE Code At).bind fun r2=>
 (aO t r2.2.1 aE r2.2.2.1 r2.2.2.2.1 ([40]:an)).bind fun r3=>
 (au k k t aE r3.1 aA r3.2.1 r3.2.2.1 []).bind fun o=>
 (aO t o.1 aE o.2.2.1 o.2.2.2.1 ([41]:an)).bind fun r4=>
 (da t r4.1 aE).bind fun r5=>
 (aO t r4.1 aE r4.2.1 r4.2.2.1 ([123]:an)).bind fun r6=>
 (iv t r6.1 aE bR r6.2.1 r6.2.2.1).bind fun r7=>
 bif !r7.1 then
  some (0,r6.1,o.2.1,r7.2.1,r7.2.2.1,r7.2.2.2.1,())
 else
  (pA k t r6.1 aE o.2.1 r7.2.2.1 r7.2.2.2.1).bind fun r8=>
  (eE k k r8.1 o.2.2.2.2.1 0).bind fun o2=>
  (eF k k t aE r8.2.1 r8.2.2.1 r7.2.1 r8.2.2.2.1 r8.2.2.2.2.1 []).bind fun o3=>
  (aO t o3.1 aE o3.2.2.2.1 o3.2.2.2.2.1 ([125]:an)).bind fun r9=>
  (aW o3.2.1 r9.2.1 (8,r5.1,0,([]:an),o3.2.2.2.2.2.1)).bind fun mY=>
  (lq o2.1 ([mY.1])).bind fun l=>
  (aW mY.2.1 r9.2.1 (4,r1.1,0,r2.1,l)).bind fun pT=>
  some (pT.1,r9.1,pT.2.1,(dq (o3.2.2.1 - 1)),r9.2.1,r9.2.2.1,())
def tu(k:Nat):mg:=⟨⟨112,[(77,7)],[lD 77 0 sT,lI 77 2,lI 77 4,rP 0 77,rI 3,rD 4 .str],[lI 77 1,lF 77 3 tN,lI 77 5,lI 77 6,(.r 5,.h .dE I)],[]⟩,[.ex (.exit 0) [lI 77 1,lF 77 3 tN,lI 77 5,lI 77 6,(.r 5,.h .dE I)]],fun q c v=>au k q c.1 c.2.1 v.1 v.2.1 v.2.2.1 v.2.2.2.1 v.2.2.2.2.1⟩
def tw(k:Nat):mg:=⟨⟨112,[(77,7)],[lD 77 0 sT,lI 77 1,lI 77 2,lF 77 3 tN,lI 77 4,lI 77 5,lI 77 6,rP 0 77,rI 3,rD 4 .str,rI 8,(.r 9,.h .dE I)],[(.r 5,.h .dE I),rI 10],[]⟩,[.ex (.exit 2) [(.r 5,.h .dE I)]],fun q c v=>eE k q c.2.2.2.2.2.2.2.2.2.2.2.1 v.1 v.2.1⟩
def tx(k:Nat):mg:=⟨⟨112,[(77,7)],[lD 77 0 sT,lI 77 2,rP 0 77,rI 3,rD 4 .str,(.r 5,.h .dE I),rI 8],[lI 77 1,lF 77 3 tN,lI 77 4,lI 77 5,lI 77 6,(.r 11,.h .dE I)],[]⟩,[.ex (.exit 4) [lI 77 1,lF 77 3 tN,lI 77 4,lI 77 5,lI 77 6,(.r 11,.h .dE I)]],fun q c v=>eF k q c.1 c.2.1 v.1 v.2.1 v.2.2.1 v.2.2.2.1 v.2.2.2.2.1 v.2.2.2.2.2.1⟩
def oc(k:Nat):Ev bz:=⟨[fD,je,jd,eN,mh,pr,Hg k,C1 k],[lp 0 (tu k) k,lp 2 (tw k) k,lp 4 (tx k) k],[]⟩
def A3(k q:Nat):Cd bz:=nD (oc k) f66 0 (tu k) q []
def A4(k q:Nat):Cd bz:=nD (oc k) f66 2 (tw k) q []
def A5(k q:Nat):Cd bz:=nD (oc k) f66 4 (tx k) q []
def EE(k:Nat):Cl bz:=mX (oc k) 66 f66 func66 call66 [500000] ⟨⟨112,[(77,7)],[lD 77 0 sT,lI 77 2],[rP 0 77,lI 77 1,lF 77 3 tN,lI 77 4,lI 77 5,lI 77 6],[]⟩,[.ret [rI 500000,lI 77 1,lF 77 3 tN,lI 77 4,lI 77 5,lI 77 6] []],fun c v=>dg k c.1 v.2.1 c.2.1 v.2.2.1 v.2.2.2.1 v.2.2.2.2.1 v.2.2.2.2.2.1⟩ [A3 k k,A4 k k,A5 k k]
def az(q:Nat):Nat→XT→Int→Int→XN→Int→Int→Int→XI→Option (Int×XN×Int×Int×Int×XI×Unit)
 |0,_,_,_,_,_,_,_,_=>none
 |k + 1,t2,fK,p2,bX,mz,gZ,GD,cB=>
  aa (fun(v:Bool)=>
   bif v then
    (bW t2 p2 gZ ([97,114,114,97,121]:an)).bind fun r1=>
    bif r1.1 then
     (da t2 r1.2.1 fK).bind fun r2=>
     (dB t2 r1.2.1 fK gZ GD).bind fun r3=>
     (aO t2 r3.2.1 fK r3.2.2.1 r3.2.2.2.1 ([91]:an)).bind fun r4=>
     (lK t2 r4.1 fK r4.2.1 r4.2.2.1).bind fun r5=>
     (aO t2 r5.2.1 fK r5.2.2.1 r5.2.2.2.1 ([93]:an)).bind fun r6=>
     (aO t2 r6.1 fK r6.2.1 r6.2.2.1 ([59]:an)).bind fun r7=>
     (aW bX r7.2.1 (2,r2.1,r5.1,r3.1,[])).bind fun r8=>
     (lq cB ([r8.1])).bind fun l=>
     az q k t2 fK r7.1 r8.2.1 mz r7.2.1 r7.2.2.1 l
    else
     (bW t2 r1.2.1 gZ ([118,97,114]:an)).bind fun r9=>
     bif r9.1 then
      (da t2 r9.2.1 fK).bind fun mY=>
      (dB t2 r9.2.1 fK gZ GD).bind fun pT=>
      (aO t2 pT.2.1 fK pT.2.2.1 pT.2.2.2.1 ([59]:an)).bind fun rh=>
      (aW bX rh.2.1 (3,mY.1,0,pT.1,[])).bind fun sM=>
      (lq cB ([sM.1])).bind fun l2=>
      az q k t2 fK rh.1 sM.2.1 mz rh.2.1 rh.2.2.1 l2
     else
      (aO t2 r9.2.1 fK gZ GD ([102,117,110,99]:an)).bind fun sX=>
      (dg q t2 sX.1 fK bX mz sX.2.1 sX.2.2.1).bind fun sa=>
      (lq cB ([sa.1])).bind fun l3=>
      az q k t2 fK sa.2.1 sa.2.2.1 sa.2.2.2.1 sa.2.2.2.2.1 sa.2.2.2.2.2.1 l3
   else
    some (p2,bX,mz,gZ,GD,cB,())) fun cD=>
  bif gZ == 0 then
   cD (decide (p2 < (t2.length:Int)))
  else
   cD false
def qP(k:Nat)(t:XT)(p aE:Int)(aA:XN)(bR Code At:Int):Option (Int×XN×Int×Int×Int×Unit):=
 (az k k t aE p aA bR Code At []).bind fun o=>
 (aW o.2.1 o.2.2.2.1 (1,0,0,([]:an),o.2.2.2.2.2.1)).bind fun r1=>
 some (o.1,r1.2.1,o.2.2.1,o.2.2.2.1,o.2.2.2.2.1,())
def um(k:Nat):mg:=⟨⟨77,[(77,7)],[lD 77 0 sT,lI 77 2,rP 0 77],[lI 77 1,lF 77 3 tN,lI 77 4,lI 77 5,lI 77 6,(.r 2,.h .dE I)],[]⟩,[.ex (.exit 0) [lI 77 1,lF 77 3 tN,lI 77 4,lI 77 5,lI 77 6,(.r 2,.h .dE I)]],fun q c v=>az k q c.1 c.2.1 v.1 v.2.1 v.2.2.1 v.2.2.2.1 v.2.2.2.2.1 v.2.2.2.2.2.1⟩
def xg(k:Nat):Ev bz:=⟨[jf,fD,je,jd,yT,eN,EE k],[lp 0 (um k) k],[]⟩
def Cu(k q:Nat):Cd bz:=nD (xg k) f36 0 (um k) q []
def FV(k:Nat):Cl bz:=mX (xg k) 36 f36 func36 call36 [] ⟨⟨77,[(77,7)],[lD 77 0 sT,lI 77 2],[rP 0 77,lI 77 1,lF 77 3 tN,lI 77 4,lI 77 5,lI 77 6],[]⟩,[.ret [lI 77 1,lF 77 3 tN,lI 77 4,lI 77 5,lI 77 6] []],fun c v=>qP k c.1 v.2.1 c.2.1 v.2.2.1 v.2.2.2.1 v.2.2.2.2.1 v.2.2.2.2.2.1⟩ [Cu k k]
def gK(k:Nat)(bF:an):Option (XN×(Int×Int)×Unit):=
 (mK k bF).bind fun r1=>
 bif r1.2.1.1 != 0 then
  some ([],r1.2.1,())
 else
  (qP k r1.1 0 (bF.length:Int) [] 0 0 0).bind fun r2=>
  bif r2.2.2.2.1 != 0 then
   some ([],(r2.2.2.2.1,r2.2.2.2.2.1),())
  else
   some (r2.2.1,(0,0),())
def Ad(k:Nat):Cl bz:=wv ⟨[IF k,FV k],[],[(3,37),(21,77)]⟩ 18 f18 func18 call18 [.str] [sN,tP] (fun d=>gK k d.1) []
def sP(n low high:Int):Option (Bool×Unit):=
 aa (fun(v:Bool)=>
  some (v,())) fun cD=>
 bif decide (n≥low) then
  cD (decide (n≤high))
 else
  cD false
def C0:Cl bz:=wv ⟨[],[],[]⟩ 25 f25 func25 call25 [I,I,I] [.bool] (fun d=>sP d.1 d.2.1 d.2.2.1) []
def mM(q:Nat):Nat→XF→an→Int→Option (((Unit)⊕(Int×Unit)))
 |0,_,_,_=>none
 |k + 1,w3,un,i1=>
  bif decide (i1 < (w3.length:Int)) then
   (bH w3 i1).bind fun x1=>
   bif x1.1 == un then
    some (.inr (i1,()))
   else
    mM q k w3 un (dq (i1 + 1))
  else
   some (.inl ())
def kc(k:Nat)(t:XA×XS×XF)(name:an):Option (Int×Unit):=
 (mM k k t.2.2 name 0).bind fun r=>match r with
 |.inl o=>
  some ((-1),())
 |.inr o2=>
  some (o2.1,())
def AD(k:Nat):mg:=⟨⟨22,[(35,3)],[lD 35 0 sA,lD 35 1 sS,lD 35 2 sF,rD 1 .str,rP 2 35],[rI 5],[]⟩,[.ex (.exit 0) [],.ex .ret [rI 4]],fun q c v=>mM k q c.2.2.1 c.2.2.2.1 v.1⟩
def EW(k:Nat):Ev bz:=⟨[],[lp 0 (AD k) k],[(2,35)]⟩
def Iv(k q:Nat):Cd bz:=nD (EW k) f33 0 (AD k) q []
def zv(k:Nat):Cl bz:=wv (EW k) 33 f33 func33 call33 [tM,.str] [I] (fun d=>kc k d.1 d.2.1) [Iv k k]
def lM(q:Nat):Nat→XS→an→Int→Option (((Unit)⊕(Int×Unit)))
 |0,_,_,_=>none
 |k + 1,l2,s2,i1=>
  bif decide (i1 < (l2.length:Int)) then
   (bH l2 i1).bind fun x1=>
   bif x1 == s2 then
    some (.inr (i1,()))
   else
    lM q k l2 s2 (dq (i1 + 1))
  else
   some (.inl ())
def hZ(k:Nat)(l:XS)(s:an):Option (Int×Unit):=
 (lM k k l s 0).bind fun r=>match r with
 |.inl o=>
  some ((-1),())
 |.inr o2=>
  some (o2.1,())
def y8(k:Nat):mg:=⟨⟨19,[],[rD 0 sS,rD 1 .str],[rI 5],[]⟩,[.ex (.exit 0) [],.ex .ret [rI 4]],fun q c v=>lM k q c.1 c.2.1 v.1⟩
def CR(k:Nat):Ev bz:=⟨[],[lp 0 (y8 k) k],[]⟩
def GL(k q:Nat):Cd bz:=nD (CR k) f84 0 (y8 k) q []
def xy(k:Nat):Cl bz:=wv (CR k) 84 f84 func84 call84 [sS,.str] [I] (fun d=>hZ k d.1 d.2.1) [GL k k]
def lL(q:Nat):Nat→XA→an→Int→Option (((Unit)⊕(Int×Unit)))
 |0,_,_,_=>none
 |k + 1,w,un,i1=>
  bif decide (i1 < (w.length:Int)) then
   (bH w i1).bind fun x1=>
   bif x1.1 == un then
    some (.inr (i1,()))
   else
    lL q k w un (dq (i1 + 1))
  else
   some (.inl ())
def nL(k:Nat)(t:XA×XS×XF)(name:an):Option (Int×Unit):=
 (lL k k t.1 name 0).bind fun r=>match r with
 |.inl o=>
  some ((-1),())
 |.inr o2=>
  some (o2.1,())
def y7(k:Nat):mg:=⟨⟨22,[(35,3)],[lD 35 0 sA,lD 35 1 sS,lD 35 2 sF,rD 1 .str,rP 2 35],[rI 5],[]⟩,[.ex (.exit 0) [],.ex .ret [rI 4]],fun q c v=>lL k q c.1 c.2.2.2.1 v.1⟩
def CQ(k:Nat):Ev bz:=⟨[],[lp 0 (y7 k) k],[(2,35)]⟩
def GK(k q:Nat):Cd bz:=nD (CQ k) f85 0 (y7 k) q []
def LA(k:Nat):Cl bz:=wv (CQ k) 85 f85 func85 call85 [tM,.str] [I] (fun d=>nL k d.1 d.2.1) [GK k k]
def cM(k:Nat)(t:XA×XS×XF)(fn name:an):Option (Int×Int×Unit):=
 (kc k t fn).bind fun r1=>
 aa (fun(v:Bool)=>
  bif v then
   (bH t.2.2 r1.1).bind fun x2=>
   (hZ k x2.2.2.1 name).bind fun r3=>
   some (3,r3.1,())
  else
   aa (fun(v2:Bool)=>
    bif v2 then
     (bH t.2.2 r1.1).bind fun x4=>
     (hZ k x4.2.2.2.1 name).bind fun r5=>
     some (4,r5.1,())
    else
     (nL k t name).bind fun r6=>
     bif decide (r6.1≥0) then
      (nL k t name).bind fun r7=>
      some (1,r7.1,())
     else
      (hZ k t.2.1 name).bind fun r8=>
      bif decide (r8.1≥0) then
       (hZ k t.2.1 name).bind fun r9=>
       some (2,r9.1,())
      else
       (kc k t name).bind fun mY=>
       bif decide (mY.1≥0) then
        (kc k t name).bind fun pT=>
        some (5,pT.1,())
       else
        some (0,0,())) fun jH=>
   bif decide (r1.1≥0) then
    (bH t.2.2 r1.1).bind fun x3=>
    (hZ k x3.2.2.2.1 name).bind fun r4=>
    jH (decide (r4.1≥0))
   else
    jH false) fun cD=>
 bif decide (r1.1≥0) then
  (bH t.2.2 r1.1).bind fun x1=>
  (hZ k x1.2.2.1 name).bind fun r2=>
  cD (decide (r2.1≥0))
 else
  cD false
def pq(k:Nat):Cl bz:=wv ⟨[zv k,xy k,LA k],[],[(3,35)]⟩ 53 f53 func53 call53 [tM,.str,.str] [I,I] (fun d=>cM k d.1 d.2.1 d.2.2.1) []
def kF(k:Nat)(tV:XA)(qu:XS)(yx:XF)(n:Int×Int×Int×an×XI):Option (XA×XS×XF×Int×Unit):=
 (cM k (tV,qu,yx) ([]:an) n.2.2.2.1).bind fun r1=>
 bif r1.1 != 0 then
  some (tV,qu,yx,9,())
 else
  bif n.1 == 2 then
   aa (fun(v:Bool)=>
    bif v then
     some (tV,qu,yx,8,())
    else
     (lq tV ([(n.2.2.2.1,n.2.2.1)])).bind fun l=>
     some (l,qu,yx,0,())) fun cD=>
   bif decide ((tV.length:Int)≥4) then
    cD true
   else
    (sP n.2.2.1 1 64).bind fun r2=>
    cD (!r2.1)
  else
   bif n.1 == 3 then
    bif decide ((qu.length:Int)≥4) then
     some (tV,qu,yx,8,())
    else
     (lq qu ([n.2.2.2.1])).bind fun l2=>
     some (tV,l2,yx,0,())
   else
    bif decide ((yx.length:Int)≥6) then
     some (tV,qu,yx,8,())
    else
     (bH n.2.2.2.2 (dq ((n.2.2.2.2.length:Int) - 1))).bind fun x1=>
     (lq yx ([(n.2.2.2.1,0,[],[],x1)])).bind fun l3=>
     some (tV,qu,l3,0,())
def PC(k:Nat):Cl bz:=mX ⟨[C0,pq k],[],[(2,35),(3,47),(77,9999)]⟩ 31 f31 func31 call31 [500000,500001] ⟨⟨81,[],[],[(.q 0 0,.h .dE tA),(.q 0 1,.h .dE .str),(.q 0 2,.h .bR tF),rD 1 tN],[]⟩,[.ret [(.q 500000 0,.h .dE tA),(.q 500000 1,.h .dE .str),(.q 500000 2,.h .bR tF),rI 500001] []],fun c v=>kF k v.1 v.2.1 v.2.2.1 v.2.2.2.1⟩ []
end
end Go.Fx.R5
namespace Go.Fx.R5
open Go Go.Fx Go.Proofs Go.Proofs.Tryz
noncomputable section
def dC(q:Nat):Nat→XI→XN→Int→XA→XS→XF→Int→Int→Int→Option (((XA×XS×XF×Int×Int×Unit)⊕(Int×Int×XA×XS×XF×Unit)))
 |0,_,_,_,_,_,_,_,_,_=>none
 |k + 1,Li,pV,f2,w,w2,w3,w4,w5,i1=>
  bif decide ((dq (i1 + 1)) < (Li.length:Int)) then
   (bH Li i1).bind fun x1=>
   (bH pV x1).bind fun x2=>
   (bH w3 f2).bind fun x3=>
   (bH w3 (f2.toNat:Int)).bind fun x4=>
   (cM q (w,w2,w3) x4.1 x2.2.2.2.1).bind fun r1=>
   bif r1.1 != 0 then
    some (.inr (9,x2.2.1,w,w2,w3,()))
   else
    (bH w3 f2).bind fun x5=>
    (bH w3 (f2.toNat:Int)).bind fun x6=>
    aa (fun(v:Bool)=>
     aa (fun(v3:Bool)=>
      aa (fun(v5:Bool)=>
       bif v5 then
        some (.inr (8,x2.2.1,w,w2,w3,()))
       else
        aa (fun(jv:XS×XS×an×Int×Int)=>
         aa (fun(v9:Int)=>
          (bH w3 f2).bind fun x9=>
          bif Nat.beq f2.toNat f2.toNat && true then
           dC q k Li pV f2 w w2 (List.set w3 f2.toNat (x6.1,v9,(jv.1),(jv.2.1),x6.2.2.2.2)) w4 w5 (dq (i1 + 1))
          else
           none) fun jx7=>
         bif x2.1 == 5 then
          jx7 (dq (x6.2.1 + 1))
         else
          jx7 x6.2.1) fun jx6=>
        bif x2.1 == 7 then
         (bH w3 (f2.toNat:Int)).bind fun e=>
         bif (Nat.beq f2.toNat f2.toNat && (Nat.beq f2.toNat f2.toNat && true)) && true then
          (lq e.2.2.2.1 ([x2.2.2.2.1])).bind fun l=>
          jx6 (e.2.2.1,l,e.1,e.2.1,e.2.2.2.2)
         else
          none
        else
         (bH w3 (f2.toNat:Int)).bind fun e2=>
         bif (Nat.beq f2.toNat f2.toNat && (Nat.beq f2.toNat f2.toNat && true)) && true then
          (lq e2.2.2.1 ([x2.2.2.2.1])).bind fun l2=>
          jx6 (l2,e2.2.2.2.1,e2.1,e2.2.1,e2.2.2.2.2)
         else
          none) fun jx5=>
      bif v3 then
       jx5 true
      else
       aa (fun(v4:Bool)=>
        jx5 v4) fun jx4=>
       bif x2.1 == 5 then
        jx4 (decide (x6.2.1≥3))
       else
        jx4 false) fun xG=>
     bif v then
      xG true
     else
      aa (fun(v2:Bool)=>
       xG v2) fun jH=>
      bif x2.1 != 7 then
       (bH w3 (f2.toNat:Int)).bind fun x8=>
       jH (decide ((x8.2.2.1.length:Int)≥8))
      else
       jH false) fun cD=>
    bif x2.1 == 7 then
     (bH w3 (f2.toNat:Int)).bind fun x7=>
     cD (decide ((x7.2.2.2.1.length:Int)≥3))
    else
     cD false
  else
   some (.inl (w,w2,w3,w4,w5,()))
def BF(k:Nat)(tV:XA)(qu:XS)(yx:XF)(jZ:XN)(f:Int)(fn:Int×Int×Int×an×XI):Option (XA×XS×XF×(Int×Int)×Unit):=
 (dC k k fn.2.2.2.2 jZ f tV qu yx 0 0 0).bind fun r=>match r with
 |.inl o=>
  some (o.1,o.2.1,o.2.2.1,(0,0),())
 |.inr o2=>
  some (o2.2.2.1,o2.2.2.2.1,o2.2.2.2.2.1,(o2.1,o2.2.1),())
def Cc(k:Nat):mg:=⟨⟨120,[(35,3),(37,2),(47,5),(10008,3)],[lI 47 0,lI 47 1,lI 47 2,lD 47 3 .str,lD 47 4 sI,rD 1 sN,rI 2,rP 4 35,rP 7 47,rP 8 10008,rP 9 37],[lF 35 0 tA,lF 35 1 .str,lU 35 2 tF,lI 37 0,lI 37 1,lN 10008 0,lN 10008 1,lN 10008 2,rI 10],[]⟩,[.ex (.exit 0) [lF 35 0 tA,lF 35 1 .str,lU 35 2 tF,lI 37 0,lI 37 1,lN 10008 0,lN 10008 1,lN 10008 2],.ex .ret [lI 37 0,lI 37 1,lF 10008 0 tA,lF 10008 1 .str,lU 10008 2 tF]],fun q c v=>dC k q c.2.2.2.2.1 c.2.2.2.2.2.1 c.2.2.2.2.2.2.1 v.1 v.2.1 v.2.2.1 v.2.2.2.1 v.2.2.2.2.1 v.2.2.2.2.2.2.2.2.1⟩
def GS(k:Nat):Ev bz:=⟨[pq k],[lp 0 (Cc k) k],[(4,35),(7,47),(9,37)]⟩
def JW(k q:Nat):Cd bz:=nD (GS k) f32 0 (Cc k) q []
def PB(k:Nat):Cl bz:=mX (GS k) 32 f32 func32 call32 [500000,500001] ⟨⟨120,[],[],[(.q 0 0,.h .dE tA),(.q 0 1,.h .dE .str),(.q 0 2,.h .bR tF),rD 1 sN,rI 2,rD 3 tN],[]⟩,[.ret [(.q 500000 0,.h .dE tA),(.q 500000 1,.h .dE .str),(.q 500000 2,.h .bR tF),rD 500001 tP] []],fun c v=>BF k v.1 v.2.1 v.2.2.1 v.2.2.2.1 v.2.2.2.2.1 v.2.2.2.2.2.1⟩ [JW k k]
def cj(Code At code jj:Int):Option (Int×Int×Unit):=
 bif Code == 0 then
  some (code,jj,())
 else
  some (Code,At,())
def pt:Cl bz:=mX ⟨[],[],[]⟩ 86 f86 func86 call86 [] ⟨⟨18,[(70,8)],[lD 70 0 sA,lD 70 1 sS,lD 70 2 sF,lD 70 3 sN,lD 70 4 .str,lF 70 5 .str],[rP 0 70,rI 1,rI 2,lI 70 6,lI 70 7],[]⟩,[.ret [lI 70 6,lI 70 7] []],fun c v=>cj v.2.2.2.1 v.2.2.2.2.1 v.2.1 v.2.2.1⟩ []
def gQ(k:Nat)(aH:XA)(ax:XS)(bq:XF)(fn:an)(Code At:Int)(name:an)(jj a b:Int):Option (Int×Int×Unit):=
 (cM k (aH,ax,bq) fn name).bind fun r1=>
 bif r1.1 == 0 then
  (cj Code At 10 jj).bind fun r2=>
  some (r2.1,r2.2.1,())
 else
  aa (fun(v:Bool)=>
   bif v then
    (cj Code At 11 jj).bind fun r3=>
    some (r3.1,r3.2.1,())
   else
    some (Code,At,())) fun cD=>
  bif r1.1 != a then
   cD (r1.1 != b)
  else
   cD false
def pu(k:Nat):Cl bz:=mX ⟨[pq k,pt],[],[]⟩ 57 f57 func57 call57 [] ⟨⟨41,[(70,8)],[lD 70 0 sA,lD 70 1 sS,lD 70 2 sF,lD 70 3 sN,lD 70 4 .str,lF 70 5 .str],[rP 0 70,rD 1 .str,rI 2,rI 3,rI 4,lI 70 6,lI 70 7],[]⟩,[.ret [lI 70 6,lI 70 7] []],fun c v=>gQ k c.1 c.2.1 c.2.2.1 c.2.2.2.2.1 v.2.2.2.2.2.1 v.2.2.2.2.2.2.1 v.2.1 v.2.2.1 v.2.2.2.1 v.2.2.2.2.1⟩ []
def tU(k:Nat)(aH:XA)(ax:XS)(bq:XF)(fn:an)(qW:XS)(Code At:Int)(name:an)(jj:Int):Option (XS×Int×Int×Unit):=
 (gQ k aH ax bq fn Code At name jj 3 2).bind fun r1=>
 (hZ k qW name).bind fun r2=>
 bif decide (r2.1≥0) then
  (cj r1.1 r1.2.1 11 jj).bind fun r3=>
  some (qW,r3.1,r3.2.1,())
 else
  some (qW,r1.1,r1.2.1,())
def C2(k:Nat):Cl bz:=mX ⟨[pu k,xy k,pt],[],[]⟩ 87 f87 func87 call87 [] ⟨⟨20,[(70,8)],[lD 70 0 sA,lD 70 1 sS,lD 70 2 sF,lD 70 3 sN,lD 70 4 .str],[rP 0 70,rD 1 .str,rI 2,lF 70 5 .str,lI 70 6,lI 70 7],[]⟩,[.ret [lF 70 5 .str,lI 70 6,lI 70 7] []],fun c v=>tU k c.1 c.2.1 c.2.2.1 c.2.2.2.2.1 v.2.2.2.1 v.2.2.2.2.1 v.2.2.2.2.2.1 v.2.1 v.2.2.1⟩ []
def gE(k:Nat)(aH:XA)(ax:XS)(bq:XF)(jZ:XN)(fn:an)(qW:XS)(Code At i1:Int):Option (XS×Int×Int×Unit):=
 (bH jZ i1).bind fun x1=>
 aa (fun(jv:Int×Int)=>
  aa (fun(jv:Int×Int)=>
   aa (fun(jv:Int×Int)=>
    aa (fun(jv:XS×Int×Int)=>
     bif x1.1 == 16 then
      (gQ k aH ax bq fn (jv.2.1) (jv.2.2) x1.2.2.2.1 x1.2.1 3 3).bind fun r5=>
      (hZ k (jv.1) x1.2.2.2.1).bind fun r6=>
      bif decide (r6.1≥0) then
       (cj r5.1 r5.2.1 11 x1.2.1).bind fun r7=>
       some ((jv.1),r7.1,r7.2.1,())
      else
       some ((jv.1),r5.1,r5.2.1,())
     else
      some ((jv.1),(jv.2.1),(jv.2.2),())) fun RZ=>
    aa (fun(v6:Bool)=>
     bif v6 then
      (tU k aH ax bq fn qW (jv.1) (jv.2) x1.2.2.2.1 x1.2.1).bind fun r4=>
      RZ (r4.1,r4.2.1,r4.2.2.1)
     else
      RZ (qW,(jv.1),(jv.2))) fun jx9=>
    bif x1.1 == 17 then
     jx9 true
    else
     jx9 (x1.1 == 22)) fun jx8=>
   aa (fun(v2:Bool)=>
    aa (fun(v3:Bool)=>
     aa (fun(v4:Bool)=>
      aa (fun(v5:Bool)=>
       bif v5 then
        (gQ k aH ax bq fn (jv.1) (jv.2) x1.2.2.2.1 x1.2.1 4 4).bind fun r3=>
        jx8 (r3.1,r3.2.1)
       else
        jx8 ((jv.1),(jv.2))) fun jx7=>
      bif v4 then
       jx7 true
      else
       jx7 (x1.1 == 12)) fun jx6=>
     bif v3 then
      jx6 true
     else
      jx6 (x1.1 == 34)) fun jx5=>
    bif v2 then
     jx5 true
    else
     jx5 (x1.1 == 13)) fun jx4=>
   bif x1.1 == 27 then
    jx4 true
   else
    jx4 (x1.1 == 11)) fun xG=>
  aa (fun(v:Bool)=>
   bif v then
    (gQ k aH ax bq fn (jv.1) (jv.2) x1.2.2.2.1 x1.2.1 1 1).bind fun r2=>
    xG (r2.1,r2.2.1)
   else
    xG ((jv.1),(jv.2))) fun jH=>
  bif x1.1 == 26 then
   jH true
  else
   jH (x1.1 == 10)) fun cD=>
 bif x1.1 == 25 then
  (gQ k aH ax bq fn Code At x1.2.2.2.1 x1.2.1 3 2).bind fun r1=>
  cD (r1.1,r1.2.1)
 else
  cD (Code,At)
def LB(k:Nat):Cl bz:=mX ⟨[pu k,xy k,pt,C2 k],[],[(4,47)]⟩ 55 f55 func55 call55 [] ⟨⟨99,[(70,8)],[lD 70 0 sA,lD 70 1 sS,lD 70 2 sF,lD 70 3 sN,lD 70 4 .str],[rP 0 70,rI 1,lF 70 5 .str,lI 70 6,lI 70 7],[]⟩,[.ret [lF 70 5 .str,lI 70 6,lI 70 7] []],fun c v=>gE k c.1 c.2.1 c.2.2.1 c.2.2.2.1 c.2.2.2.2.1 v.2.2.1 v.2.2.2.1 v.2.2.2.2.1 v.2.1⟩ []
abbrev jc:=XA→XS→XF→XN→an→XS→Int→Int→Int→Option (XS×Int×Int×Unit)
def rQ(f:jc):DU:=⟨⟨111,[(70,8)],[lD 70 0 sA,lD 70 1 sS,lD 70 2 sF,lD 70 3 sN,lD 70 4 .str],[rP 0 70,rI 1,lF 70 5 .str,lI 70 6,lI 70 7],[]⟩,[.ret [lF 70 5 .str,lI 70 6,lI 70 7] []],fun c v=>f c.1 c.2.1 c.2.2.1 c.2.2.2.1 c.2.2.2.2.1 v.2.2.1 v.2.2.2.1 v.2.2.2.2.1 v.2.1⟩
def BW(f:jc):iX:=mI (rQ f).L (rQ f).F (AW [] (rQ f).V)
abbrev hJ:=XA→XS→XF→XN→an→XS→Int→Int→(Int×Int×Int×an×XI)→Option (XS×Int×Int×Unit)
def pK(f:hJ):DU:=⟨⟨68,[(70,8)],[lD 70 0 sA,lD 70 1 sS,lD 70 2 sF,lD 70 3 sN,lD 70 4 .str],[rP 0 70,rD 1 tN,lF 70 5 .str,lI 70 6,lI 70 7],[]⟩,[.ret [lF 70 5 .str,lI 70 6,lI 70 7] []],fun c v=>f c.1 c.2.1 c.2.2.1 c.2.2.2.1 c.2.2.2.2.1 v.2.2.1 v.2.2.2.1 v.2.2.2.2.1 v.2.1⟩
def yP(f:hJ):iX:=mI (pK f).L (pK f).F (AW [] (pK f).V)
abbrev jb:=XA→XS→XF→XN→an→XS→Int→Int→(Int×Int×Int×an×XI)→Option (XS×Int×Int×Unit)
def rO(f:jb):DU:=⟨⟨74,[(70,8)],[lD 70 0 sA,lD 70 1 sS,lD 70 2 sF,lD 70 3 sN,lD 70 4 .str],[rP 0 70,rD 1 tN,lF 70 5 .str,lI 70 6,lI 70 7],[]⟩,[.ret [lF 70 5 .str,lI 70 6,lI 70 7] []],fun c v=>f c.1 c.2.1 c.2.2.1 c.2.2.2.1 c.2.2.2.2.1 v.2.2.1 v.2.2.2.1 v.2.2.2.2.1 v.2.1⟩
def BV(f:jb):iX:=mI (rO f).L (rO f).F (AW [] (rO f).V)
def bK(be:jc)(bc:hJ)(bE:jb)(q:Nat):Nat→Int→an→XI→XA→XS→XF→XN→an→XS→Int→Int→Int→Option (XS×Int×Int×Unit)
 |0,_,_,_,_,_,_,_,_,_,_,_,_=>none
 |k + 1,acW,rm,Li,gu,gk,jC,pV,FY,B1,GP,At4,k2=>
  bif decide (k2 < (Li.length:Int)) then
   aa (fun(ac4:XS)=>
    (bH Li k2).bind fun x4=>
    (be gu gk jC pV FY ac4 GP At4 x4).bind fun r5=>
    bK be bc bE q k acW rm Li gu gk jC pV FY r5.1 r5.2.1 r5.2.2.1 (dq (k2 + 1))) fun jH=>
   aa (fun(v:Bool)=>
    bif v then
     (lq B1 ([rm])).bind fun l=>
     jH l
    else
     jH B1) fun cD=>
   bif acW == 16 then
    cD (k2 == 2)
   else
    cD false
  else
   some (B1,GP,At4,())
def cH(be:jc)(bc:hJ)(bE:jb)(k:Nat)(aH:XA)(ax:XS)(bq:XF)(jZ:XN)(fn:an)(qW:XS)(Code At i1:Int):Option (XS×Int×Int×Unit):=
 (bH jZ i1).bind fun x1=>
 bif Code != 0 then
  some (qW,Code,At,())
 else
  bif x1.1 == 9 then
   (bc aH ax bq jZ fn qW Code At x1).bind fun r1=>
   some (r1.1,r1.2.1,r1.2.2.1,())
  else
   (gE k aH ax bq jZ fn qW Code At i1).bind fun r2=>
   bif x1.1 == 22 then
    (bE aH ax bq jZ fn r2.1 r2.2.1 r2.2.2.1 x1).bind fun r3=>
    some (r3.1,r3.2.1,r3.2.2.1,())
   else
    aa (fun(jv:Int×Int×Int)=>
     (bK be bc bE k k x1.1 x1.2.2.2.1 x1.2.2.2.2 aH ax bq jZ fn r2.1 (jv.2.1) (jv.2.2) (jv.1)).bind fun o=>
     aa (fun(v:Bool)=>
      bif v then
       (sub o.1 0 (dq ((o.1.length:Int) - 1))).bind fun l=>
       some (l,o.2.1,o.2.2.1,())
      else
       some (o.1,o.2.1,o.2.2.1,())) fun jH=>
     bif x1.1 == 16 then
      jH (o.2.1 == 0)
     else
      jH false) fun cD=>
    bif x1.1 == 12 then
     (bH x1.2.2.2.2 0).bind fun x2=>
     (bH jZ x2).bind fun x3=>
     (gQ k aH ax bq fn r2.2.1 r2.2.2.1 x3.2.2.2.1 x3.2.1 1 1).bind fun r4=>
     cD (1,r4.1,r4.2.1)
    else
     cD (0,r2.2.1,r2.2.2.1)
def ia(be:jc)(bc:hJ)(bE:jb)(k:Nat)(aH:XA)(ax:XS)(bq:XF)(jZ:XN)(fn:an)(qW:XS)(Code At:Int)(n:Int×Int×Int×an×XI):Option (XS×Int×Int×Unit):=
 (cM k (aH,ax,bq) fn n.2.2.2.1).bind fun r1=>
 (bH n.2.2.2.2 0).bind fun x1=>
 (bH jZ x1).bind fun x2=>
 bif r1.1 == 4 then
  aa (fun(jv:Int×Int)=>
   some (qW,(jv.1),(jv.2),())) fun cD=>
  bif x2.1 == 25 then
   (gQ k aH ax bq fn Code At x2.2.2.2.1 x2.2.1 4 4).bind fun r2=>
   cD (r2.1,r2.2.1)
  else
   bif x2.1 != 29 then
    (cj Code At 11 n.2.1).bind fun r3=>
    cD (r3.1,r3.2.1)
   else
    cD (Code,At)
 else
  (tU k aH ax bq fn qW Code At n.2.2.2.1 n.2.1).bind fun r4=>
  aa (fun(jv:Int×Int)=>
   (bH n.2.2.2.2 0).bind fun x3=>
   (be aH ax bq jZ fn r4.1 (jv.1) (jv.2) x3).bind fun r6=>
   some (r6.1,r6.2.1,r6.2.2.1,())) fun jH=>
  bif x2.1 == 29 then
   (cj r4.2.1 r4.2.2.1 11 x2.2.1).bind fun r5=>
   jH (r5.1,r5.2.1)
  else
   jH (r4.2.1,r4.2.2.1)
def iC(be:jc)(bc:hJ)(bE:jb)(q:Nat):Nat→XI→XA→XS→XF→XN→an→XS→Int→Int→Int→Option (XS×Int×Int×Unit)
 |0,_,_,_,_,_,_,_,_,_,_=>none
 |k + 1,Li,gu,gk,jC,pV,FY,B1,GP,At4,i1=>
  bif decide (i1 < (Li.length:Int)) then
   (bH Li i1).bind fun x4=>
   (be gu gk jC pV FY B1 GP At4 x4).bind fun r4=>
   iC be bc bE q k Li gu gk jC pV FY r4.1 r4.2.1 r4.2.2.1 (dq (i1 + 1))
  else
   some (B1,GP,At4,())
def lO(be:jc)(bc:hJ)(bE:jb)(k:Nat)(aH:XA)(ax:XS)(bq:XF)(jZ:XN)(fn:an)(qW:XS)(Code At:Int)(n:Int×Int×Int×an×XI):Option (XS×Int×Int×Unit):=
 (bH n.2.2.2.2 0).bind fun x1=>
 (bH jZ x1).bind fun x2=>
 (gQ k aH ax bq fn Code At x2.2.2.2.1 x2.2.1 5 5).bind fun r1=>
 (cM k (aH,ax,bq) fn x2.2.2.2.1).bind fun r2=>
 aa (fun(jv:Int×Int)=>
  (iC be bc bE k k n.2.2.2.2 aH ax bq jZ fn qW (jv.1) (jv.2) 1).bind fun o=>
  some (o.1,o.2.1,o.2.2.1,())) fun jH=>
 aa (fun(v:Bool)=>
  bif v then
   (cj r1.1 r1.2.1 12 x2.2.1).bind fun r3=>
   jH (r3.1,r3.2.1)
  else
   jH (r1.1,r1.2.1)) fun cD=>
 bif r2.1 == 5 then
  (bH bq r2.2.1).bind fun x3=>
  cD (x3.2.1 != (dq ((n.2.2.2.2.length:Int) - 1)))
 else
  cD false
def eP:Nat→jc×hJ×jb
 |0=>(fun _ _ _ _ _ _ _ _ _=>none,fun _ _ _ _ _ _ _ _ _=>none,fun _ _ _ _ _ _ _ _ _=>none)
 |k + 1=>(cH (eP k).1 (eP k).2.1 (eP k).2.2 k,ia (eP k).1 (eP k).2.1 (eP k).2.2 k,lO (eP k).1 (eP k).2.1 (eP k).2.2 k)
def dD(k:Nat):jc:=(eP k).1
def dz(k:Nat):hJ:=(eP k).2.1
def eG(k:Nat):jb:=(eP k).2.2
section
variable (be:Gd bz 34 BW) (bc:Gd bz 54 yP) (bE:Gd bz 56 BV)
def yi(k:Nat):mg:=⟨⟨111,[(47,5),(70,8)],[lI 47 0,lI 47 1,lI 47 2,lD 47 3 .str,lD 47 4 sI,lD 70 0 sA,lD 70 1 sS,lD 70 2 sF,lD 70 3 sN,lD 70 4 .str,rP 0 70,rP 4 47],[lF 70 5 .str,lI 70 6,lI 70 7,rI 5],[]⟩,[.ex (.exit 0) [lF 70 5 .str,lI 70 6,lI 70 7]],fun q c v=>bK be.1 bc.1 bE.1 k q c.1 c.2.2.2.1 c.2.2.2.2.1 c.2.2.2.2.2.1 c.2.2.2.2.2.2.1 c.2.2.2.2.2.2.2.1 c.2.2.2.2.2.2.2.2.1 c.2.2.2.2.2.2.2.2.2.1 v.1 v.2.1 v.2.2.1 v.2.2.2.1⟩
def BP(k:Nat):Ev bz:=⟨[be.cl,bc.cl,LB k,bE.cl,pu k],[lp 0 (yi be bc bE k) k],[(4,47)]⟩
def FK(k q:Nat):Cd bz:=nD (BP be bc bE k) f34 0 (yi be bc bE k) q []
def Km(k:Nat):Cl bz:=mX (BP be bc bE k) 34 f34 func34 call34 [] (rQ (cH be.1 bc.1 bE.1 k)) [FK be bc bE k k]
def Ht(k:Nat):Cl bz:=mX ⟨[be.cl,pq k,pu k,pt,C2 k],[],[(3,47)]⟩ 54 f54 func54 call54 [] (pK (ia be.1 bc.1 bE.1 k)) []
def yh(k:Nat):mg:=⟨⟨74,[(47,5),(70,8)],[lI 47 0,lI 47 1,lI 47 2,lD 47 3 .str,lD 47 4 sI,lD 70 0 sA,lD 70 1 sS,lD 70 2 sF,lD 70 3 sN,lD 70 4 .str,rP 0 70,rP 3 47],[lF 70 5 .str,lI 70 6,lI 70 7,rI 7],[]⟩,[.ex (.exit 0) [lF 70 5 .str,lI 70 6,lI 70 7]],fun q c v=>iC be.1 bc.1 bE.1 k q c.2.2.2.2.1 c.2.2.2.2.2.1 c.2.2.2.2.2.2.1 c.2.2.2.2.2.2.2.1 c.2.2.2.2.2.2.2.2.1 c.2.2.2.2.2.2.2.2.2.1 v.1 v.2.1 v.2.2.1 v.2.2.2.1⟩
def BO(k:Nat):Ev bz:=⟨[be.cl,pq k,pu k,pt],[lp 0 (yh be bc bE k) k],[(3,47)]⟩
def FJ(k q:Nat):Cd bz:=nD (BO be bc bE k) f56 0 (yh be bc bE k) q []
def Kl(k:Nat):Cl bz:=mX (BO be bc bE k) 56 f56 func56 call56 [] (rO (lO be.1 bc.1 bE.1 k)) [FJ be bc bE k k]
end
theorem ny:∀ k,l8 prog gt 34 (BW (dD k))∧l8 prog gt 54 (yP (dz k))∧l8 prog gt 56 (BV (eG k))
 |0=>⟨dh (fun _ _=>rfl),dh (fun _ _=>rfl),dh (fun _ _=>rfl)⟩
 |k + 1=>have ih:=ny k;⟨(Km ⟨_,ih.1⟩ ⟨_,ih.2.1⟩ ⟨_,ih.2.2⟩ k).ok,(Ht ⟨_,ih.1⟩ ⟨_,ih.2.1⟩ ⟨_,ih.2.2⟩ k).ok,(Kl ⟨_,ih.1⟩ ⟨_,ih.2.1⟩ ⟨_,ih.2.2⟩ k).ok⟩
def Ke(k:Nat):Cl bz:=⟨_,_,(ny k).1⟩
def Uy(k:Nat):Cl bz:=⟨_,_,(ny k).2.1⟩
def Wy(k:Nat):Cl bz:=⟨_,_,(ny k).2.2⟩
def pj(q:Nat)(pV:XN)(OC:XI)(i2:Int)(w8:XA)(w9:XS)(w10:XF):Option (Int×XA×XS×XF×Unit):=
 (bH OC i2).bind fun x2=>
 (bH pV x2).bind fun x3=>
 (kF q w8 w9 w10 x3).bind fun r2=>
 some (r2.2.2.2.1,r2.1,r2.2.1,r2.2.2.1,())
def df(q:Nat):Nat→XN→XI→Int→Int→XA→XS→XF→Int→Option (((Int×Int×XA×XS×XF×Unit)⊕(Int×Int×Unit)))
 |0,_,_,_,_,_,_,_,_=>none
 |k + 1,jZ,cB,w,w2,w3,w4,w5,i1=>
  bif decide (i1 < (cB.length:Int)) then
   (pj q jZ cB i1 w3 w4 w5).bind fun o=>
   bif o.1 != 0 then
    (bH cB i1).bind fun x2=>
    (bH jZ x2).bind fun x3=>
    some (.inr (o.1,x3.2.1,()))
   else
    df q k jZ cB w w2 o.2.1 o.2.2.1 o.2.2.2.1 (dq (i1 + 1))
  else
   some (.inl (w,w2,w3,w4,w5,()))
def pk(q:Nat)(pV:XN)(OC:XI)(FY i2:Int)(w8:XA)(w9:XS)(w10:XF):Option (XA×XS×XF×Int×Int×Unit):=
 (bH OC i2).bind fun x4=>
 (bH pV x4).bind fun x5=>
 (BF q w8 w9 w10 pV FY x5).bind fun r2=>
 some (r2.1,r2.2.1,r2.2.2.1,r2.2.2.2.1.1,r2.2.2.2.1.2,())
def cT(q:Nat):Nat→XN→XI→Int→Int→XA→XS→XF→Int→Int→Option (((Int×Int×XA×XS×XF×Unit)⊕(Int×Int×Unit)))
 |0,_,_,_,_,_,_,_,_,_=>none
 |k + 1,jZ,cB,w,w2,w3,w4,w5,fn,i1=>
  bif decide (i1 < (cB.length:Int)) then
   aa (fun(jv:Int×XA×XS×XF)=>
    cT q k jZ cB w w2 (jv.2.1) (jv.2.2.1) (jv.2.2.2) (jv.1) (dq (i1 + 1))) fun cD=>
   (bH cB i1).bind fun x2=>
   (bH jZ x2).bind fun x3=>
   bif x3.1 == 4 then
    (pk q jZ cB fn i1 w3 w4 w5).bind fun o3=>
    bif o3.2.2.2.1 != 0 then
     some (.inr (o3.2.2.2.1,o3.2.2.2.2.1,()))
    else
     cD ((dq (fn + 1)),o3.1,o3.2.1,o3.2.2.1)
   else
    cD (fn,w3,w4,w5)
  else
   some (.inl (w,w2,w3,w4,w5,()))
def eT(q:Nat):Nat→XN→Int→Int→XA→XS→XF→Int→Option (((Int×Int×XA×XS×XF×Unit)⊕(Int×Int×Unit)))
 |0,_,_,_,_,_,_,_=>none
 |k + 1,jZ,w,w2,w3,w4,w5,i1=>
  bif decide (i1 < (w5.length:Int)) then
   (bH w5 i1).bind fun x4=>
   (bH w5 i1).bind fun x5=>
   (dD q w3 w4 w5 jZ x4.1 [] 0 0 x5.2.2.2.2).bind fun r3=>
   bif r3.2.1 != 0 then
    some (.inr (r3.2.1,r3.2.2.1,()))
   else
    eT q k jZ w w2 w3 w4 w5 (dq (i1 + 1))
  else
   some (.inl (w,w2,w3,w4,w5,()))
def dW(k:Nat)(bF:an):Option ((XA×XS×XF)×(Int×Int)×Unit):=
 (gK k bF).bind fun r1=>
 bif r1.2.1.1 != 0 then
  some (([],[],[]),r1.2.1,())
 else
  (bH r1.1 (dq ((r1.1.length:Int) - 1))).bind fun x1=>
  (df k k r1.1 x1.2.2.2.2 0 0 [] [] [] 0).bind fun r=>match r with
  |.inl o=>
   (cT k k r1.1 x1.2.2.2.2 o.1 o.2.1 o.2.2.1 o.2.2.2.1 o.2.2.2.2.1 0 0).bind fun r=>match r with
   |.inl o3=>
    (kc k (o3.2.2.1,o3.2.2.2.1,o3.2.2.2.2.1) ([109,97,105,110]:an)).bind fun r2=>
    aa (fun(v:Bool)=>
     bif v then
      some (([],[],[]),(13,0),())
     else
      (eT k k r1.1 o3.1 o3.2.1 o3.2.2.1 o3.2.2.2.1 o3.2.2.2.2.1 0).bind fun r=>match r with
      |.inl o5=>
       some ((o5.2.2.1,o5.2.2.2.1,o5.2.2.2.2.1),(0,0),())
      |.inr o6=>
       some (([],[],[]),(o6.1,o6.2.1),())) fun cD=>
    bif decide (r2.1 < 0) then
     cD true
    else
     (bH o3.2.2.2.2.1 r2.1).bind fun x2=>
     (bH o3.2.2.2.2.1 (r2.1.toNat:Int)).bind fun x3=>
     cD (x3.2.1 != 0)
   |.inr o4=>
    some (([],[],[]),(o4.1,o4.2.1),())
  |.inr o2=>
   some (([],[],[]),(o2.1,o2.2.1),())
def vg(k:Nat):mg:=⟨⟨160,[(35,3),(37,2),(10004,3),(10007,3)],[lN 35 0,lN 35 1,lN 35 2,lI 37 0,lI 37 1,lN 10004 0,lN 10004 1,lN 10004 2,rP 2 35,rP 3 37,rP 4 10004,rD 5 sN,rP 7 10007,rD 8 sI,rI 9],[lF 10007 0 tA,lF 10007 1 .str,lU 10007 2 tF],[]⟩,[.ex .normal [rP 10 10010,rI 11,lF 10010 0 tA,lF 10010 1 .str,lU 10010 2 tF]],fun q c v=>pj k c.2.2.2.2.2.2.2.2.2.2.2.1 c.2.2.2.2.2.2.2.2.2.2.2.2.2.1 c.2.2.2.2.2.2.2.2.2.2.2.2.2.2.1 v.1 v.2.1 v.2.2.1⟩
def wh(k:Nat):mg:=⟨⟨160,[(35,3),(37,2),(10004,3),(10007,3)],[lN 10004 0,lN 10004 1,lN 10004 2,rP 2 35,rP 3 37,rP 4 10004,rD 5 sN,rP 7 10007,rD 8 sI],[lN 35 0,lN 35 1,lN 35 2,lI 37 0,lI 37 1,lF 10007 0 tA,lF 10007 1 .str,lU 10007 2 tF,rI 9],[]⟩,[.ex (.exit 0) [lN 35 0,lN 35 1,lN 35 2,lI 37 0,lI 37 1,lF 10007 0 tA,lF 10007 1 .str,lU 10007 2 tF],.ex .ret [lN 35 0,lN 35 1,lN 35 2,lI 37 0,lI 37 1]],fun q c v=>df k q c.2.2.2.2.2.2.1 c.2.2.2.2.2.2.2.2.1 v.2.2.2.1 v.2.2.2.2.1 v.2.2.2.2.2.1 v.2.2.2.2.2.2.1 v.2.2.2.2.2.2.2.1 v.2.2.2.2.2.2.2.2.1⟩
def vj(k:Nat):mg:=⟨⟨160,[(35,3),(37,2),(10004,3),(10007,3)],[lN 35 0,lN 35 1,lN 35 2,lI 37 0,lI 37 1,lN 10004 0,lN 10004 1,lN 10004 2,rP 2 35,rP 3 37,rP 4 10004,rD 5 sN,rP 7 10007,rD 8 sI,rI 12,rI 13],[lF 10007 0 tA,lF 10007 1 .str,lU 10007 2 tF],[]⟩,[.ex .normal [rP 14 10014,rP 15 10015,lF 10014 0 tA,lF 10014 1 .str,lU 10014 2 tF,lI 10015 0,lI 10015 1]],fun q c v=>pk k c.2.2.2.2.2.2.2.2.2.2.2.1 c.2.2.2.2.2.2.2.2.2.2.2.2.2.1 c.2.2.2.2.2.2.2.2.2.2.2.2.2.2.1 c.2.2.2.2.2.2.2.2.2.2.2.2.2.2.2.1 v.1 v.2.1 v.2.2.1⟩
def wi(k:Nat):mg:=⟨⟨160,[(35,3),(37,2),(10004,3),(10007,3)],[lN 10004 0,lN 10004 1,lN 10004 2,rP 2 35,rP 3 37,rP 4 10004,rD 5 sN,rP 7 10007,rD 8 sI],[lN 35 0,lN 35 1,lN 35 2,lI 37 0,lI 37 1,lF 10007 0 tA,lF 10007 1 .str,lU 10007 2 tF,rI 12,rI 13],[]⟩,[.ex (.exit 2) [lN 35 0,lN 35 1,lN 35 2,lI 37 0,lI 37 1,lF 10007 0 tA,lF 10007 1 .str,lU 10007 2 tF],.ex .ret [lN 35 0,lN 35 1,lN 35 2,lI 37 0,lI 37 1]],fun q c v=>cT k q c.2.2.2.2.2.2.1 c.2.2.2.2.2.2.2.2.1 v.2.2.2.1 v.2.2.2.2.1 v.2.2.2.2.2.1 v.2.2.2.2.2.2.1 v.2.2.2.2.2.2.2.1 v.2.2.2.2.2.2.2.2.1 v.2.2.2.2.2.2.2.2.2.1⟩
def wj(k:Nat):mg:=⟨⟨160,[(35,3),(37,2),(10004,3),(10007,3)],[lN 10004 0,lN 10004 1,lN 10004 2,rP 2 35,rP 3 37,rP 4 10004,rD 5 sN,rP 7 10007],[lN 35 0,lN 35 1,lN 35 2,lI 37 0,lI 37 1,lD 10007 0 sA,lD 10007 1 sS,lD 10007 2 sF,rI 17],[]⟩,[.ex (.exit 4) [lN 35 0,lN 35 1,lN 35 2,lI 37 0,lI 37 1,lD 10007 0 sA,lD 10007 1 sS,lD 10007 2 sF],.ex .ret [lN 35 0,lN 35 1,lN 35 2,lI 37 0,lI 37 1]],fun q c v=>eT k q c.2.2.2.2.2.2.1 v.2.2.2.1 v.2.2.2.2.1 v.2.2.2.2.2.1 v.2.2.2.2.2.2.1 v.2.2.2.2.2.2.2.1 v.2.2.2.2.2.2.2.2.1⟩
def mo(k:Nat):Ev bz:=⟨[Ad k,PC k,PB k,zv k,(Ke k).t7 0 70],[rg 10 (vg k),lp 0 (wh k) k,rg 19 (vj k),lp 2 (wi k) k,lp 4 (wj k) k],[(2,35),(3,37)]⟩
def CH(k:Nat):Cd bz:=rgC (mo k) f16 10 (vg k) [[0,1,2,3,4,5,6,7,8,9,10,11,12,13,14],[0,1,2,3,4,5,6,7,12,8,9,10,11,13,14]]
def Eu(k q:Nat):Cd bz:=nD (mo k) f16 0 (wh k) q [CH k]
def CI(k:Nat):Cd bz:=rgC (mo k) f16 19 (vj k) [[0,1,2,3,4,5,6,7,8,9,10,11,12,13,14,15,16,17],[0,1,2,3,4,5,6,7,8,9,10,11,12,13,15,14,16,17],[0,1,2,3,4,5,6,7,8,9,14,10,11,12,13,15,16,17],[0,1,2,3,4,5,6,7,8,9,14,15,10,11,12,13,16,17],[0,1,2,3,4,5,6,7,8,9,15,10,11,12,13,14,16,17],[0,1,2,3,4,5,6,7,8,9,15,14,10,11,12,13,16,17]]
def Ew(k q:Nat):Cd bz:=nD (mo k) f16 2 (wi k) q [CI k]
def Ex(k q:Nat):Cd bz:=nD (mo k) f16 4 (wj k) q []
def Ac(k:Nat):Cl bz:=wv (mo k) 16 f16 func16 call16 [.str] [tM,tP] (fun d=>dW k d.1) [Eu k k,Ew k k,Ex k k]
end
end Go.Fx.R5
namespace Go.Fx.R5
open Go Go.Fx Go.Proofs Go.Proofs.Tryz
noncomputable section
def gb(fn:Int)(hG:XI)(kZ:XB)(abR:Bool):Option (Int×XI×XB×Unit):=
 (lq hG ([fn])).bind fun l=>
 (lq kZ ([abR])).bind fun l2=>
 some ((dq ((l.length:Int) - 1)),l,l2,())
def oj:Cl bz:=mX ⟨[],[],[]⟩ 101 f101 func101 call101 [500000] ⟨⟨39,[(120,11)],[lD 120 0 sA,lD 120 1 sS,lD 120 2 sF,lD 120 3 sN,lI 120 4,lF 120 6 I,lF 120 8 tE,lF 120 9 I,lF 120 10 I],[rP 0 120,rD 1 .bool,lF 120 5 I,lF 120 7 .bool],[]⟩,[.ret [rI 500000,lF 120 5 I,lF 120 7 .bool] []],fun c v=>gb c.2.2.2.2.1 v.2.2.1 v.2.2.2.1 v.2.1⟩ []
def fj(gF:XE)(lV Ck Dm nE arg:Int):Option (XE×Unit):=
 (lq gF ([(lV,Ck,Dm,nE,arg)])).bind fun l=>
 some (l,())
def pv:Cl bz:=mX ⟨[],[],[]⟩ 103 f103 func103 call103 [] ⟨⟨29,[(120,11)],[lD 120 0 sA,lD 120 1 sS,lD 120 2 sF,lD 120 3 sN,lI 120 4,lF 120 5 I,lF 120 6 I,lF 120 7 .bool,lF 120 9 I,lF 120 10 I],[rP 0 120,rI 1,rI 2,rI 3,rI 4,rI 5,lF 120 8 tE],[]⟩,[.ret [lF 120 8 tE] []],fun c v=>fj v.2.2.2.2.2.2.1 v.2.1 v.2.2.1 v.2.2.2.1 v.2.2.2.2.1 v.2.2.2.2.2.1⟩ []
abbrev rX:=XA→XS→XF→XN→Int→XI→XI→XB→XE→XI→XI→Int→Int→Int→Int→Option (XI×XB×XE×Unit)
def rR(f:rX):DU:=⟨⟨88,[(120,11)],[lD 120 0 sA,lD 120 1 sS,lD 120 2 sF,lD 120 3 sN,lI 120 4,lF 120 6 I,lF 120 9 I,lF 120 10 I],[rP 0 120,rI 1,rI 2,rI 3,rI 4,lF 120 5 I,lF 120 7 .bool,lF 120 8 tE],[]⟩,[.ret [lF 120 5 I,lF 120 7 .bool,lF 120 8 tE] []],fun c v=>f c.1 c.2.1 c.2.2.1 c.2.2.2.1 c.2.2.2.2.1 v.2.2.2.2.2.1 c.2.2.2.2.2.1 v.2.2.2.2.2.2.1 v.2.2.2.2.2.2.2.1 c.2.2.2.2.2.2.1 c.2.2.2.2.2.2.2.1 v.2.1 v.2.2.1 v.2.2.2.1 v.2.2.2.2.1⟩
def BX(f:rX):iX:=mI (rR f).L (rR f).F (AW [] (rR f).V)
def nt(ka:rX)(k:Nat)(aH:XA)(ax:XS)(bq:XF)(jZ:XN)(fn:Int)(hG iN:XI)(kZ:XB)(gF:XE)(lT to:XI)(i1 lV yes no:Int):Option (XI×XB×XE×Unit):=
 (bH jZ i1).bind fun x1=>
 bif x1.1 == 33 then
  (bH x1.2.2.2.2 0).bind fun x2=>
  (ka aH ax bq jZ fn hG iN kZ gF lT to x2 lV no yes).bind fun r1=>
  some (r1.1,r1.2.1,r1.2.2.1,())
 else
  bif x1.1 == 31 then
   (gb fn hG kZ false).bind fun r2=>
   (bH x1.2.2.2.2 0).bind fun x3=>
   (ka aH ax bq jZ fn r2.2.1 iN r2.2.2.1 gF lT to x3 lV r2.1 no).bind fun r3=>
   (bH x1.2.2.2.2 1).bind fun x4=>
   (ka aH ax bq jZ fn r3.1 iN r3.2.1 r3.2.2.1 lT to x4 r2.1 yes no).bind fun r4=>
   some (r4.1,r4.2.1,r4.2.2.1,())
  else
   bif x1.1 == 32 then
    (gb fn hG kZ false).bind fun r5=>
    (bH x1.2.2.2.2 0).bind fun x5=>
    (ka aH ax bq jZ fn r5.2.1 iN r5.2.2.1 gF lT to x5 lV yes r5.1).bind fun r6=>
    (bH x1.2.2.2.2 1).bind fun x6=>
    (ka aH ax bq jZ fn r6.1 iN r6.2.1 r6.2.2.1 lT to x6 r5.1 yes no).bind fun r7=>
    some (r7.1,r7.2.1,r7.2.2.1,())
   else
    (fj gF lV yes 3 i1 1).bind fun r8=>
    (fj r8.1 lV no 3 i1 0).bind fun r9=>
    some (hG,kZ,r9.1,())
def jK:Nat→rX
 |0=>fun _ _ _ _ _ _ _ _ _ _ _ _ _ _ _=>none
 |k + 1=>nt (jK k) k
section
variable (ka:Gd bz 153 BX)
def Kn(k:Nat):Cl bz:=mX ⟨[oj,pv,ka.cl],[],[(10,47)]⟩ 153 f153 func153 call153 [] (rR (nt ka.1 k)) []
end
theorem Ak:∀ k,l8 prog gt 153 (BX (jK k))
 |0=>dh (fun _ _=>rfl)
 |k + 1=>(Kn ⟨_,Ak k⟩ k).ok
def B7(k:Nat):Cl bz:=⟨_,_,Ak k⟩
abbrev jp:=XA→XS→XF→XN→Int→XI→XI→XB→XE→XI→XI→Int→Int→Int→Option (XI×XB×XE×XI×XI×Unit)
def qB(f:jp):DU:=⟨⟨56,[(120,11)],[lD 120 0 sA,lD 120 1 sS,lD 120 2 sF,lD 120 3 sN,lI 120 4,lF 120 6 I],[rP 0 120,rI 1,rI 2,rI 3,lF 120 5 I,lF 120 7 .bool,lF 120 8 tE,lF 120 9 I,lF 120 10 I],[]⟩,[.ret [lF 120 5 I,lF 120 7 .bool,lF 120 8 tE,lF 120 9 I,lF 120 10 I] []],fun c v=>f c.1 c.2.1 c.2.2.1 c.2.2.2.1 c.2.2.2.2.1 v.2.2.2.2.1 c.2.2.2.2.2.1 v.2.2.2.2.2.1 v.2.2.2.2.2.2.1 v.2.2.2.2.2.2.2.1 v.2.2.2.2.2.2.2.2.1 v.2.1 v.2.2.1 v.2.2.2.1⟩
def z6(f:jp):iX:=mI (qB f).L (qB f).F (AW [] (qB f).V)
abbrev j0:=XA→XS→XF→XN→Int→XI→XI→XB→XE→XI→XI→Int→Int→Int→Option (XI×XB×XE×XI×XI×Unit)
def rS(f:j0):DU:=⟨⟨151,[(120,11)],[lD 120 0 sA,lD 120 1 sS,lD 120 2 sF,lD 120 3 sN,lI 120 4,lF 120 6 I],[rP 0 120,rI 1,rI 2,rI 3,lF 120 5 I,lF 120 7 .bool,lF 120 8 tE,lF 120 9 I,lF 120 10 I],[]⟩,[.ret [lF 120 5 I,lF 120 7 .bool,lF 120 8 tE,lF 120 9 I,lF 120 10 I] []],fun c v=>f c.1 c.2.1 c.2.2.1 c.2.2.2.1 c.2.2.2.2.1 v.2.2.2.2.1 c.2.2.2.2.2.1 v.2.2.2.2.2.1 v.2.2.2.2.2.2.1 v.2.2.2.2.2.2.2.1 v.2.2.2.2.2.2.2.2.1 v.2.1 v.2.2.1 v.2.2.2.1⟩
def BY(f:j0):iX:=mI (rS f).L (rS f).F (AW [] (rS f).V)
abbrev j9:=XA→XS→XF→XN→Int→XI→XI→XB→XE→XI→XI→Int→Int→Int→Option (XI×XB×XE×XI×XI×Unit)
def rT(f:j9):DU:=⟨⟨77,[(120,11)],[lD 120 0 sA,lD 120 1 sS,lD 120 2 sF,lD 120 3 sN,lI 120 4,lF 120 6 I],[rP 0 120,rI 1,rI 2,rI 3,lF 120 5 I,lF 120 7 .bool,lF 120 8 tE,lF 120 9 I,lF 120 10 I],[]⟩,[.ret [lF 120 5 I,lF 120 7 .bool,lF 120 8 tE,lF 120 9 I,lF 120 10 I] []],fun c v=>f c.1 c.2.1 c.2.2.1 c.2.2.2.1 c.2.2.2.2.1 v.2.2.2.2.1 c.2.2.2.2.2.1 v.2.2.2.2.2.1 v.2.2.2.2.2.2.1 v.2.2.2.2.2.2.2.1 v.2.2.2.2.2.2.2.2.1 v.2.1 v.2.2.1 v.2.2.2.1⟩
def BZ(f:j9):iX:=mI (rT f).L (rT f).F (AW [] (rT f).V)
def ib(ci:jp)(dw:j0)(dx:j9)(q:Nat):Nat→XA→XS→XF→XN→Int→XI→Int→XI→XI→XB→XE→XI→XI→Int→Int→Option (XI×XB×XE×XI×XI×Unit)
 |0,_,_,_,_,_,_,_,_,_,_,_,_,_,_,_=>none
 |k + 1,gu,gk,jC,pV,FY,mv,to4,k1,kn,pL,Lh,aaP,to3,adc,j=>
  bif decide (j < (k1.length:Int)) then
   aa (fun(jv:Int×XI×XB)=>
    (bH k1 j).bind fun x4=>
    (dw gu gk jC pV FY (jv.2.1) mv (jv.2.2) Lh aaP to3 x4 adc (jv.1)).bind fun r3=>
    ib ci dw dx q k gu gk jC pV FY mv to4 k1 r3.1 r3.2.1 r3.2.2.1 r3.2.2.2.1 r3.2.2.2.2.1 (jv.1) (dq (j + 1))) fun cD=>
   bif decide ((dq (j + 1)) < (k1.length:Int)) then
    (gb FY kn pL false).bind fun r2=>
    cD (r2.1,r2.2.1,r2.2.2.1)
   else
    cD (to4,kn,pL)
  else
   some (kn,pL,Lh,aaP,to3,())
def oG(ci:jp)(dw:j0)(dx:j9)(k:Nat)(aH:XA)(ax:XS)(bq:XF)(jZ:XN)(fn:Int)(hG iN:XI)(kZ:XB)(gF:XE)(lT to:XI)(i1 lV Ck:Int):Option (XI×XB×XE×XI×XI×Unit):=
 (bH lT i1).bind fun x1=>
 (bH lT (i1.toNat:Int)).bind fun x2=>
 (bH jZ i1).bind fun x3=>
 aa (fun(m6:XE)=>
  (ib ci dw dx k k aH ax bq jZ fn iN Ck x3.2.2.2.2 hG kZ m6 (List.set lT i1.toNat lV) to lV 0).bind fun o=>
  some (o.1,o.2.1,o.2.2.1,o.2.2.2.1,o.2.2.2.2.1,())) fun cD=>
 bif (x3.2.2.2.2.length:Int) == 0 then
  (fj gF lV Ck 1 (-1) 0).bind fun r1=>
  cD r1.1
 else
  cD gF
def fT(ci:jp)(dw:j0)(dx:j9)(k:Nat)(aH:XA)(ax:XS)(bq:XF)(jZ:XN)(fn:Int)(hG iN:XI)(kZ:XB)(gF:XE)(lT to:XI)(i1 lV Ck:Int):Option (XI×XB×XE×XI×XI×Unit):=
 (bH jZ i1).bind fun x1=>
 (bH lT i1).bind fun x2=>
 (bH lT (i1.toNat:Int)).bind fun x3=>
 (bH to i1).bind fun x4=>
 (bH to (i1.toNat:Int)).bind fun x5=>
 bif x1.1 == 14 then
  (gb fn hG kZ false).bind fun r1=>
  aa (fun(jv:Int×XI×XB)=>
   (bH x1.2.2.2.2 0).bind fun x6=>
   (jK k aH ax bq jZ fn (jv.2.1) iN (jv.2.2) gF (List.set lT i1.toNat lV) (List.set to i1.toNat Ck) x6 lV r1.1 (jv.1)).bind fun r3=>
   (bH x1.2.2.2.2 1).bind fun x7=>
   (ci aH ax bq jZ fn r3.1 iN r3.2.1 r3.2.2.1 (List.set lT i1.toNat lV) (List.set to i1.toNat Ck) x7 r1.1 Ck).bind fun r4=>
   aa (fun(jv:XI×XB×XE×XI×XI)=>
    some ((jv.1),(jv.2.1),(jv.2.2.1),(jv.2.2.2.1),(jv.2.2.2.2),())) fun jH=>
   bif decide ((x1.2.2.2.2.length:Int) > 2) then
    (bH x1.2.2.2.2 2).bind fun x8=>
    (ci aH ax bq jZ fn r4.1 iN r4.2.1 r4.2.2.1 r4.2.2.2.1 r4.2.2.2.2.1 x8 (jv.1) Ck).bind fun r5=>
    jH (r5.1,r5.2.1,r5.2.2.1,r5.2.2.2.1,r5.2.2.2.2.1)
   else
    jH (r4.1,r4.2.1,r4.2.2.1,r4.2.2.2.1,r4.2.2.2.2.1)) fun cD=>
  bif decide ((x1.2.2.2.2.length:Int) > 2) then
   (gb fn r1.2.1 r1.2.2.1 false).bind fun r2=>
   cD (r2.1,r2.2.1,r2.2.2.1)
  else
   cD (Ck,r1.2.1,r1.2.2.1)
 else
  aa (fun(v:Bool)=>
   bif v then
    (dx aH ax bq jZ fn hG iN kZ gF (List.set lT i1.toNat lV) (List.set to i1.toNat Ck) i1 lV Ck).bind fun r6=>
    some (r6.1,r6.2.1,r6.2.2.1,r6.2.2.2.1,r6.2.2.2.2.1,())
   else
    bif x1.1 == 19 then
     (gb fn hG kZ false).bind fun r7=>
     (bH x1.2.2.2.2 0).bind fun x9=>
     (jK k aH ax bq jZ fn r7.2.1 iN r7.2.2.1 gF (List.set lT i1.toNat lV) (List.set to i1.toNat Ck) x9 lV Ck r7.1).bind fun r8=>
     (fj r8.2.2.1 r7.1 r7.1 4 i1 0).bind fun r9=>
     some (r8.1,r8.2.1,r9.1,List.set lT i1.toNat lV,List.set to i1.toNat Ck,())
    else
     bif x1.1 == 21 then
      (fj gF lV lV 6 i1 0).bind fun mY=>
      some (hG,kZ,mY.1,List.set lT i1.toNat lV,List.set to i1.toNat Ck,())
     else
      bif x1.1 == 20 then
       (fj gF lV lV 7 i1 0).bind fun pT=>
       some (hG,kZ,pT.1,List.set lT i1.toNat lV,List.set to i1.toNat Ck,())
      else
       bif x1.1 == 22 then
        (bH x1.2.2.2.2 0).bind fun x10=>
        (bH jZ x10).bind fun x11=>
        (kc k (aH,ax,bq) x11.2.2.2.1).bind fun rh=>
        (fj gF lV Ck 5 i1 rh.1).bind fun sM=>
        some (hG,kZ,sM.1,List.set lT i1.toNat lV,List.set to i1.toNat Ck,())
       else
        (fj gF lV Ck 2 i1 0).bind fun sX=>
        some (hG,kZ,sX.1,List.set lT i1.toNat lV,List.set to i1.toNat Ck,())) fun xG=>
  bif x1.1 == 15 then
   xG true
  else
   xG (x1.1 == 16)
def pB(ci:jp)(dw:j0)(dx:j9)(k:Nat)(aH:XA)(ax:XS)(bq:XF)(jZ:XN)(fn:Int)(hG iN:XI)(kZ:XB)(gF:XE)(lT to:XI)(i1 lV Ck:Int):Option (XI×XB×XE×XI×XI×Unit):=
 (bH jZ i1).bind fun x1=>
 (gb fn hG kZ true).bind fun r1=>
 (gb fn r1.2.1 r1.2.2.1 false).bind fun r2=>
 bif x1.1 == 15 then
  (fj gF lV r1.1 1 (-1) 0).bind fun r3=>
  (bH x1.2.2.2.2 0).bind fun x2=>
  (jK k aH ax bq jZ fn r2.2.1 iN r2.2.2.1 r3.1 lT to x2 r1.1 r2.1 Ck).bind fun r4=>
  (bH x1.2.2.2.2 1).bind fun x3=>
  (ci aH ax bq jZ fn r4.1 iN r4.2.1 r4.2.2.1 lT to x3 r2.1 r1.1).bind fun r5=>
  some (r5.1,r5.2.1,r5.2.2.1,r5.2.2.2.1,r5.2.2.2.2.1,())
 else
  (fj gF lV r1.1 8 i1 0).bind fun r6=>
  (fj r6.1 r1.1 r2.1 9 i1 1).bind fun r7=>
  (fj r7.1 r1.1 Ck 9 i1 0).bind fun r8=>
  (gb fn r2.2.1 r2.2.2.1 false).bind fun r9=>
  (bH x1.2.2.2.2 2).bind fun x4=>
  (ci aH ax bq jZ fn r9.2.1 iN r9.2.2.1 r8.1 lT to x4 r2.1 r9.1).bind fun mY=>
  (fj mY.2.2.1 r9.1 r1.1 10 i1 0).bind fun pT=>
  some (mY.1,mY.2.1,pT.1,mY.2.2.2.1,mY.2.2.2.2.1,())
def eu:Nat→jp×j0×j9
 |0=>(fun _ _ _ _ _ _ _ _ _ _ _ _ _ _=>none,fun _ _ _ _ _ _ _ _ _ _ _ _ _ _=>none,fun _ _ _ _ _ _ _ _ _ _ _ _ _ _=>none)
 |k + 1=>(oG (eu k).1 (eu k).2.1 (eu k).2.2 k,fT (eu k).1 (eu k).2.1 (eu k).2.2 k,pB (eu k).1 (eu k).2.1 (eu k).2.2 k)
def iW(k:Nat):jp:=(eu k).1
def jL(k:Nat):j0:=(eu k).2.1
def mn(k:Nat):j9:=(eu k).2.2
section
variable (ci:Gd bz 102 z6) (dw:Gd bz 122 BY) (dx:Gd bz 154 BZ)
def wo(k:Nat):mg:=⟨⟨56,[(120,11)],[lD 120 0 sA,lD 120 1 sS,lD 120 2 sF,lD 120 3 sN,lI 120 4,lF 120 6 I,rP 0 120,rI 3,rD 8 sI],[lF 120 5 I,lF 120 7 .bool,lF 120 8 tE,lF 120 9 I,lF 120 10 I,rI 2,rI 9],[]⟩,[.ex (.exit 0) [lF 120 5 I,lF 120 7 .bool,lF 120 8 tE,lF 120 9 I,lF 120 10 I]],fun q c v=>ib ci.1 dw.1 dx.1 k q c.1 c.2.1 c.2.2.1 c.2.2.2.1 c.2.2.2.2.1 c.2.2.2.2.2.1 c.2.2.2.2.2.2.2.1 c.2.2.2.2.2.2.2.2.1 v.1 v.2.1 v.2.2.1 v.2.2.2.1 v.2.2.2.2.1 v.2.2.2.2.2.1 v.2.2.2.2.2.2.1⟩
def zU(k:Nat):Ev bz:=⟨[oj,pv,dw.cl],[lp 0 (wo ci dw dx k) k],[]⟩
def EB(k q:Nat):Cd bz:=nD (zU ci dw dx k) f102 0 (wo ci dw dx k) q []
def IW(k:Nat):Cl bz:=mX (zU ci dw dx k) 102 f102 func102 call102 [] (qB (oG ci.1 dw.1 dx.1 k)) [EB ci dw dx k k]
def Ko(k:Nat):Cl bz:=mX ⟨[zv k,oj,ci.cl,pv,B7 k,dx.cl],[],[(8,47)]⟩ 122 f122 func122 call122 [] (rS (fT ci.1 dw.1 dx.1 k)) []
def Kp(k:Nat):Cl bz:=mX ⟨[oj,ci.cl,pv,B7 k],[],[(8,47)]⟩ 154 f154 func154 call154 [] (rT (pB ci.1 dw.1 dx.1 k)) []
end
theorem mU:∀ k,l8 prog gt 102 (z6 (iW k))∧l8 prog gt 122 (BY (jL k))∧l8 prog gt 154 (BZ (mn k))
 |0=>⟨dh (fun _ _=>rfl),dh (fun _ _=>rfl),dh (fun _ _=>rfl)⟩
 |k + 1=>have ih:=mU k;⟨(IW ⟨_,ih.1⟩ ⟨_,ih.2.1⟩ ⟨_,ih.2.2⟩ k).ok,(Ko ⟨_,ih.1⟩ ⟨_,ih.2.1⟩ ⟨_,ih.2.2⟩ k).ok,(Kp ⟨_,ih.1⟩ ⟨_,ih.2.1⟩ ⟨_,ih.2.2⟩ k).ok⟩
def II(k:Nat):Cl bz:=⟨_,_,(mU k).1⟩
def Wz(k:Nat):Cl bz:=⟨_,_,(mU k).2.1⟩
def WA(k:Nat):Cl bz:=⟨_,_,(mU k).2.2⟩
def nV(q:Nat):Nat→XN→XI→XI→Int→Option (XI×XI×Unit)
 |0,_,_,_,_=>none
 |k + 1,abo,lT,to,i1=>
  bif decide (i1 < (abo.length:Int)) then
   (lq lT ([(-1)])).bind fun l=>
   (lq to ([(-1)])).bind fun l2=>
   nV q k abo l l2 (dq (i1 + 1))
  else
   some (lT,to,())
def nW(q:Nat):Nat→XF→XA→XS→XF→XN→Int→XI→XI→XB→XE→XI→XI→Int→Option (Int×XI×XI×XB×XE×XI×XI×Unit)
 |0,_,_,_,_,_,_,_,_,_,_,_,_,_=>none
 |k + 1,w3,aH,ax,bq,pV,fn,hG,iN,kZ,gF,lT,to,i1=>
  bif decide (i1 < (w3.length:Int)) then
   (gb i1 hG kZ false).bind fun r1=>
   (gb i1 r1.2.1 r1.2.2.1 false).bind fun r2=>
   (lq iN ([r1.1])).bind fun l=>
   (bH w3 i1).bind fun x1=>
   (iW q aH ax bq pV i1 r2.2.1 l r2.2.2.1 gF lT to x1.2.2.2.2 r1.1 r2.1).bind fun r3=>
   (fj r3.2.2.1 r2.1 r2.1 6 (-1) 0).bind fun r4=>
   nW q k w3 aH ax bq pV i1 r3.1 l r3.2.1 r4.1 r3.2.2.2.1 r3.2.2.2.2.1 (dq (i1 + 1))
  else
   some (fn,hG,iN,kZ,gF,lT,to,())
def Gw(k:Nat)(t:XA×XS×XF)(jZ:XN):Option (XA×XS×XF×XN×Int×XI×XI×XB×XE×XI×XI×Unit):=
 (nV k k jZ [] [] 0).bind fun o=>
 (nW k k t.2.2 t.1 t.2.1 t.2.2 jZ 0 [] [] [] [] o.1 o.2.1 0).bind fun o2=>
 some (t.1,t.2.1,t.2.2,jZ,o2.1,o2.2.1,o2.2.2.1,o2.2.2.2.1,o2.2.2.2.2.1,o2.2.2.2.2.2.1,o2.2.2.2.2.2.2.1,())
def Ce(k:Nat):mg:=⟨⟨80,[(35,3),(120,11)],[lD 35 0 sA,lD 35 1 sS,lD 35 2 sF,lD 120 0 sA,lD 120 1 sS,lD 120 2 sF,lD 120 3 sN,lI 120 4,lN 120 5,lN 120 6,lN 120 7,lN 120 8,rD 1 sN,rP 2 35,rP 5 120],[lF 120 9 I,lF 120 10 I,rI 6],[]⟩,[.ex (.exit 0) [lF 120 9 I,lF 120 10 I]],fun q c v=>nV k q c.2.2.2.2.2.2.2.2.2.2.2.2.1 v.1 v.2.1 v.2.2.1⟩
def Cf(k:Nat):mg:=⟨⟨80,[(35,3),(120,11)],[lD 35 0 sA,lD 35 1 sS,lD 35 2 sF,lD 120 0 sA,lD 120 1 sS,lD 120 2 sF,lD 120 3 sN,rP 2 35,rP 5 120],[lI 120 4,lF 120 5 I,lF 120 6 I,lF 120 7 .bool,lF 120 8 tE,lF 120 9 I,lF 120 10 I,rI 7],[]⟩,[.ex (.exit 2) [lI 120 4,lF 120 5 I,lF 120 6 I,lF 120 7 .bool,lF 120 8 tE,lF 120 9 I,lF 120 10 I]],fun q c v=>nW k q c.2.2.1 c.2.2.2.1 c.2.2.2.2.1 c.2.2.2.2.2.1 c.2.2.2.2.2.2.1 v.1 v.2.1 v.2.2.1 v.2.2.2.1 v.2.2.2.2.1 v.2.2.2.2.2.1 v.2.2.2.2.2.2.1 v.2.2.2.2.2.2.2.1⟩
def A6(k:Nat):Ev bz:=⟨[oj,II k,pv],[lp 0 (Ce k) k,lp 2 (Cf k) k],[(2,35),(13,120)]⟩
def JX(k q:Nat):Cd bz:=nD (A6 k) f67 0 (Ce k) q []
def JY(k q:Nat):Cd bz:=nD (A6 k) f67 2 (Cf k) q []
def PD(k:Nat):Cl bz:=mX (A6 k) 67 f67 func67 call67 [500000] ⟨⟨80,[],[],[rD 0 tM,rD 1 sN],[]⟩,[.ret [rP 500000 120,lD 120 0 sA,lD 120 1 sS,lD 120 2 sF,lD 120 3 sN,lI 120 4,lF 120 5 I,lF 120 6 I,lF 120 7 .bool,lF 120 8 tE,lF 120 9 I,lF 120 10 I] [(120,11,120)]],fun c v=>Gw k v.1 v.2.1⟩ [JX k k,JY k k]
def Gx(k:Nat)(t:XA×XS×XF)(jZ:XN):Option ((XI×XI×XB×XE)×Unit):=
 (Gw k t jZ).bind fun r1=>
 some ((r1.2.2.2.2.2.1,r1.2.2.2.2.2.2.1,r1.2.2.2.2.2.2.2.1,r1.2.2.2.2.2.2.2.2.1),())
def PE(k:Nat):Cl bz:=wv ⟨[PD k],[],[(2,35),(4,84)]⟩ 39 f39 func39 call39 [tM,sN] [(.cY sI (.cY sI (.cY sB sE)))] (fun d=>Gx k d.1 d.2.1) []
def gL(q:Nat):Nat→XI→XE→Int→XB→Int→Option (XB×Unit)
 |0,_,_,_,_,_=>none
 |k + 1,w5,w8,fn3,tK,i1=>
  bif decide (i1 < (w8.length:Int)) then
   aa (fun(afk:XB)=>
    gL q k w5 w8 fn3 afk (dq (i1 + 1))) fun xG=>
   (bH w8 i1).bind fun x1=>
   aa (fun(v2:Bool)=>
    bif v2 then
     (bH tK x1.2.2.2.2).bind fun x6=>
     (bH tK (x1.2.2.2.2.toNat:Int)).bind fun x7=>
     xG (List.set tK x1.2.2.2.2.toNat true)
    else
     xG tK) fun jH=>
   bif x1.2.2.1 == 5 then
    (bH w5 x1.1).bind fun x2=>
    aa (fun(v:Bool)=>
     jH v) fun cD=>
    bif x2 == fn3 then
     cD true
    else
     (bH w5 x1.1).bind fun x3=>
     (bH tK x3).bind fun x4=>
     (bH tK (x3.toNat:Int)).bind fun x5=>
     cD x5
   else
    jH false
  else
   some (tK,())
def lP(q:Nat):Nat→XI→XI→XE→Int→XB→Int→Option (XB×Unit)
 |0,_,_,_,_,_,_=>none
 |k + 1,w,w2,w4,FY,out,n=>
  bif decide (n < (w2.length:Int)) then
   (gL q q w w4 FY out 0).bind fun o=>
   lP q k w w2 w4 FY o.1 (dq (n + 1))
  else
   some (out,())
def wP(k:Nat)(f:XI×XI×XB×XE)(fn:Int):Option (XB×Unit):=
 (mkl (f.2.1.length:Int) (false:Bool)).bind fun z=>
 (sub z 0 (f.2.1.length:Int)).bind fun l=>
 (lP k k f.1 f.2.1 f.2.2.2 fn l 0).bind fun o=>
 some (o.1,())
def za(k:Nat):mg:=⟨⟨61,[(84,4)],[lD 84 0 sI,lD 84 1 sI,lD 84 2 sB,lD 84 3 sE,rI 1,rP 2 84,rI 6],[(.r 5,.h .dE .bool),rI 7],[]⟩,[.ex (.exit 2) [(.r 5,.h .dE .bool)]],fun q c v=>gL k q c.1 c.2.2.2.1 c.2.2.2.2.1 v.1 v.2.1⟩
def y9(k:Nat):mg:=⟨⟨61,[(84,4)],[lD 84 0 sI,lD 84 1 sI,lD 84 2 sB,lD 84 3 sE,rI 1,rP 2 84],[(.r 5,.h .dE .bool),rI 6],[]⟩,[.ex (.exit 0) [(.r 5,.h .dE .bool)]],fun q c v=>lP k q c.1 c.2.1 c.2.2.2.1 c.2.2.2.2.1 v.1 v.2.1⟩
def xh(k:Nat):Ev bz:=⟨[],[lp 2 (za k) k,lp 0 (y9 k) k],[(2,84)]⟩
def GN(k q:Nat):Cd bz:=nD (xh k) f68 2 (za k) q []
def GM(k q:Nat):Cd bz:=nD (xh k) f68 0 (y9 k) q [GN k k]
def LC(k:Nat):Cl bz:=wv (xh k) 68 f68 func68 call68 [(.cY sI (.cY sI (.cY sB sE))),I] [sB] (fun d=>wP k d.1 d.2.1) [GM k k]
def mN(q:Nat):Nat→XB→XB→Int→Option (XB×Unit)
 |0,_,_,_=>none
 |k + 1,r2,tK,k1=>
  bif decide (k1 < (r2.length:Int)) then
   (bH tK k1).bind fun x4=>
   (bH tK (k1.toNat:Int)).bind fun x5=>
   aa (fun(v:Bool)=>
    (bH tK k1).bind fun x7=>
    (bH tK (k1.toNat:Int)).bind fun x8=>
    mN q k r2 (List.set tK k1.toNat v) (dq (k1 + 1))) fun cD=>
   bif x5 then
    cD true
   else
    (bH r2 k1).bind fun x6=>
    cD x6
  else
   some (tK,())
def iV(q:Nat):Nat→XI→XI→XB→XE→XB→Int→Option (XB×Unit)
 |0,_,_,_,_,_,_=>none
 |k + 1,w,w2,w3,w4,out,i1=>
  bif decide (i1 < (w2.length:Int)) then
   aa (fun(tK:XB)=>
    iV q k w w2 w3 w4 tK (dq (i1 + 1))) fun cD=>
   (wP q (w,w2,w3,w4) i1).bind fun r1=>
   (bH r1.1 i1).bind fun x1=>
   bif !x1 then
    cD out
   else
    (bH out i1).bind fun x2=>
    (bH out (i1.toNat:Int)).bind fun x3=>
    (mN q q r1.1 (List.set out i1.toNat true) 0).bind fun o=>
    cD o.1
  else
   some (out,())
def DQ(k:Nat)(f:XI×XI×XB×XE):Option (XB×Unit):=
 (mkl (f.2.1.length:Int) (false:Bool)).bind fun z=>
 (sub z 0 (f.2.1.length:Int)).bind fun l=>
 (iV k k f.1 f.2.1 f.2.2.1 f.2.2.2 l 0).bind fun o=>
 some (o.1,())
def AF(k:Nat):mg:=⟨⟨49,[(84,4)],[lD 84 0 sI,lD 84 1 sI,lD 84 2 sB,lD 84 3 sE,rP 1 84,rI 4,rD 5 sB],[(.r 3,.h .dE .bool),rI 6],[]⟩,[.ex (.exit 2) [(.r 3,.h .dE .bool)]],fun q c v=>mN k q c.2.2.2.2.2.2.1 v.1 v.2.1⟩
def AE(k:Nat):mg:=⟨⟨49,[(84,4)],[lD 84 0 sI,lD 84 1 sI,lD 84 2 sB,lD 84 3 sE,rP 1 84],[(.r 3,.h .dE .bool),rI 4],[]⟩,[.ex (.exit 0) [(.r 3,.h .dE .bool)]],fun q c v=>iV k q c.1 c.2.1 c.2.2.1 c.2.2.2.1 v.1 v.2.1⟩
def zq(k:Nat):Ev bz:=⟨[LC k],[lp 2 (AF k) k,lp 0 (AE k) k],[(1,84)]⟩
def Ix(k q:Nat):Cd bz:=nD (zq k) f40 2 (AF k) q []
def Iw(k q:Nat):Cd bz:=nD (zq k) f40 0 (AE k) q [Ix k k]
def Nu(k:Nat):Cl bz:=wv (zq k) 40 f40 func40 call40 [(.cY sI (.cY sI (.cY sB sE)))] [sB] (fun d=>DQ k d.1) [Iw k k]
def tS(k:Nat)(bF:an):Option (((XA×XS×XF×XN×XI×XI×XB×XE×XB×Bool×Unit)⊕(XA×XS×XF×XN×XI×XI×XB×XE×XB×Bool×Unit))):=
 (dW k bF).bind fun r1=>
 bif r1.2.1.1 != 0 then
  some (.inr ([],[],[],[],[],[],[],[],[],false,()))
 else
  (gK k bF).bind fun r2=>
  (Gx k r1.1 r2.1).bind fun r3=>
  (DQ k r3.1).bind fun r4=>
  some (.inl (r1.1.1,r1.1.2.1,r1.1.2.2,r2.1,r3.1.1,r3.1.2.1,r3.1.2.2.1,r3.1.2.2.2,r4.1,true,()))
def Lv(k:Nat):Cl bz:=mX ⟨[Ac k,Ad k,PE k,Nu k],[],[(4,35),(5,37),(18,86)]⟩ 21 f21 func21 call21 [500000,500001] ⟨⟨40,[],[],[rD 0 .str],[]⟩,[.ret [rP 500000 10030,lD 10030 0 sA,lD 10030 1 sS,lD 10030 2 sF,lD 10030 3 sN,lD 10030 4 sI,lD 10030 5 sI,lD 10030 6 sB,lD 10030 7 sE,lD 10030 8 sB,rD 500001 .bool] [(10030,9,86)],.ret [rP 500000 86,lD 86 0 sA,lD 86 1 sS,lD 86 2 sF,lD 86 3 sN,lD 86 4 sI,lD 86 5 sI,lD 86 6 sB,lD 86 7 sE,lD 86 8 sB,rD 500001 .bool] [(86,9,86)]],fun c v=>tS k v.1⟩ []
def gD(q:Nat):Nat→XA→XI→Int→Option (XI×Unit)
 |0,_,_,_=>none
 |k + 1,gu,out,i1=>
  bif decide (i1 < (gu.length:Int)) then
   (bH gu i1).bind fun x1=>
   (bH gu i1).bind fun x2=>
   (lq out ([(dq (x1.2 - 1)),x2.2])).bind fun l=>
   gD q k gu l (dq (i1 + 1))
  else
   some (out,())
def fH(q:Nat):Nat→XN→XI→Int→Option (XI×Unit)
 |0,_,_,_=>none
 |k + 1,pV,out,i1=>
  bif decide (i1 < (pV.length:Int)) then
   aa (fun(tK:XI)=>
    fH q k pV tK (dq (i1 + 1))) fun cD=>
   (bH pV i1).bind fun x1=>
   (bH pV i1).bind fun x2=>
   bif x2.1 == 24 then
    (lq out ([(dq (x1.2.2.1 - 1)),x1.2.2.1,(dq (x1.2.2.1 + 1)),(dq ((dq (0 - x1.2.2.1)) - 1)),(dq (0 - x1.2.2.1)),(dq (1 - x1.2.2.1))])).bind fun l=>
    cD l
   else
    cD out
  else
   some (out,())
def nr(k:Nat)(aH:XA)(jZ:XN):Option (XI×Unit):=
 (gD k k aH [] 0).bind fun o=>
 (fH k k jZ o.1 0).bind fun o2=>
 some (o2.1,())
def vm(k:Nat):mg:=⟨⟨82,[(86,9)],[lD 86 0 sA,lD 86 1 sS,lD 86 2 sF,lD 86 3 sN,lD 86 4 sI,lD 86 5 sI,lD 86 6 sB,lD 86 7 sE,lD 86 8 sB,rP 0 86],[(.r 3,.h .dE I),rI 4],[]⟩,[.ex (.exit 0) [(.r 3,.h .dE I)]],fun q c v=>gD k q c.1 v.1 v.2.1⟩
def vo(k:Nat):mg:=⟨⟨82,[(86,9)],[lD 86 0 sA,lD 86 1 sS,lD 86 2 sF,lD 86 3 sN,lD 86 4 sI,lD 86 5 sI,lD 86 6 sB,lD 86 7 sE,lD 86 8 sB,rP 0 86],[(.r 3,.h .dE I),rI 5],[]⟩,[.ex (.exit 2) [(.r 3,.h .dE I)]],fun q c v=>fH k q c.2.2.2.1 v.1 v.2.1⟩
def s9(k:Nat):Ev bz:=⟨[],[lp 0 (vm k) k,lp 2 (vo k) k],[]⟩
def CJ(k q:Nat):Cd bz:=nD (s9 k) f22 0 (vm k) q []
def CK(k q:Nat):Cd bz:=nD (s9 k) f22 2 (vo k) q []
def Hf(k:Nat):Cl bz:=mX (s9 k) 22 f22 func22 call22 [500000] ⟨⟨82,[(86,9)],[lD 86 0 sA,lD 86 1 sS,lD 86 2 sF,lD 86 3 sN,lD 86 4 sI,lD 86 5 sI,lD 86 6 sB,lD 86 7 sE,lD 86 8 sB],[rP 0 86],[]⟩,[.ret [(.r 500000,.h .dE I)] []],fun c v=>nr k c.1 c.2.2.2.1⟩ [CJ k k,CK k k]
end
end Go.Fx.R5
namespace Go.Fx.R5
open Go Go.Fx Go.Proofs Go.Proofs.Tryz
noncomputable section
def uJ(k:Nat)(bF:an):Option (XI×Unit):=
 aa (fun(jv:Bool×XA×XS×XF×XN×XI×XI×XB×XE×XB)=>
  bif !(jv.1) then
   some ([],())
  else
   (nr k (jv.2.1) (jv.2.2.2.2.1)).bind fun r3=>
   some (r3.1,())) fun cD=>
 (tS k bF).bind fun r=>match r with
 |.inl r1=>
  cD (r1.2.2.2.2.2.2.2.2.2.1,r1.1,r1.2.1,r1.2.2.1,r1.2.2.2.1,r1.2.2.2.2.1,r1.2.2.2.2.2.1,r1.2.2.2.2.2.2.1,r1.2.2.2.2.2.2.2.1,r1.2.2.2.2.2.2.2.2.1)
 |.inr r2=>
  cD (r2.2.2.2.2.2.2.2.2.2.1,r2.1,r2.2.1,r2.2.2.1,r2.2.2.2.1,r2.2.2.2.2.1,r2.2.2.2.2.2.1,r2.2.2.2.2.2.2.1,r2.2.2.2.2.2.2.2.1,r2.2.2.2.2.2.2.2.2.1)
def FU(k:Nat):Cl bz:=wv ⟨[Lv k,Hf k],[],[]⟩ 7 f7 func7 call7 [.str] [sI] (fun d=>uJ k d.1) []
def eJ(aH:XA)(ax:XS)(bq:XF)(aA:XN)(n:Int)(lR:XA):Option (Int×XA×XS×XF×XA×Unit):=
 (bH aA n).bind fun x1=>
 bif decide ((qh lR x1.2.2.2.1) > 0) then
  some (9,aH,ax,bq,lR,())
 else
  aa (fun(jv:XA×XS×XF)=>
   some (0,(jv.1),(jv.2.1),(jv.2.2),qI lR x1.2.2.2.1 1,())) fun xG=>
  bif x1.1 == 2 then
   aa (fun(v:Bool)=>
    aa (fun(v2:Bool)=>
     bif v2 then
      some (8,aH,ax,bq,qI lR x1.2.2.2.1 1,())
     else
      (lq aH ([(x1.2.2.2.1,x1.2.2.1)])).bind fun l=>
      xG (l,ax,bq)) fun jH=>
    bif v then
     jH true
    else
     jH (decide (x1.2.2.1 > 64))) fun cD=>
   bif (aH.length:Int) == 4 then
    cD true
   else
    cD (decide (x1.2.2.1 < 1))
  else
   bif x1.1 == 3 then
    bif (ax.length:Int) == 4 then
     some (8,aH,ax,bq,qI lR x1.2.2.2.1 1,())
    else
     (lq ax ([x1.2.2.2.1])).bind fun l2=>
     xG (aH,l2,bq)
   else
    bif x1.1 == 4 then
     bif (bq.length:Int) == 6 then
      some (8,aH,ax,bq,qI lR x1.2.2.2.1 1,())
     else
      (bH x1.2.2.2.2 (dq ((x1.2.2.2.2.length:Int) - 1))).bind fun x2=>
      (lq bq ([(x1.2.2.2.1,0,[],[],x2)])).bind fun l3=>
      xG (aH,ax,l3)
    else
     xG (aH,ax,bq)
def FR:Cl bz:=mX ⟨[],[],[(9,47),(99,9999)]⟩ 72 f72 func72 call72 [500000] ⟨⟨103,[(35,3)],[],[rD 0 sN,rI 1,rP 2 35,(.r 3,.h .mp tA),lF 35 0 tA,lF 35 1 .str,lU 35 2 tF],[1000003]⟩,[.ret [rI 500000,lF 35 0 tA,lF 35 1 .str,lU 35 2 tF,(.r 3,.h .mp tA)] []],fun c v=>eJ v.2.2.2.2.1 v.2.2.2.2.2.1 v.2.2.2.2.2.2.1 v.1 v.2.1 v.2.2.2.1⟩ []
def bT(q:Nat):Nat→XA→XN→XI→Int→Int→Int→Int→XS→XS→XA→Int→Option (((Int×Int×Int×XS×XS×Unit)⊕(Int×Int×Int×XS×XS×Unit)))
 |0,_,_,_,_,_,_,_,_,_,_,_=>none
 |k + 1,DY,bX,aea,aeb,w,w2,rW,zV,BQ,pe,Wt=>
  bif decide (Wt < aeb) then
   (bH aea Wt).bind fun x1=>
   (bH bX x1).bind fun x2=>
   aa (fun(v:Bool)=>
    bif v then
     some (.inr (9,x2.2.1,rW,zV,BQ,()))
    else
     aa (fun(jv:Bool×Int×XS×XS)=>
      bif (jv.1) then
       some (.inr (8,x2.2.1,(jv.2.1),(jv.2.2.1),(jv.2.2.2),()))
      else
       bT q k DY bX aea aeb w w2 (jv.2.1) (jv.2.2.1) (jv.2.2.2) (qI pe x2.2.2.2.1 1) (dq (Wt + 1))) fun xG=>
     bif x2.1 == 7 then
      (lq BQ ([x2.2.2.2.1])).bind fun l2=>
      xG ((BQ.length:Int) == 3,rW,zV,l2)
     else
      bif x2.1 == 5 then
       aa (fun(v2:Bool)=>
        (lq zV ([x2.2.2.2.1])).bind fun l3=>
        xG (v2,(dq (rW + 1)),l3,BQ)) fun jH=>
       bif (zV.length:Int) == 8 then
        jH true
       else
        jH (rW == 3)
      else
       (lq zV ([x2.2.2.2.1])).bind fun l4=>
       xG ((zV.length:Int) == 8,rW,l4,BQ)) fun cD=>
   bif decide ((qh DY x2.2.2.2.1) > 0) then
    cD true
   else
    cD (decide ((qh pe x2.2.2.2.1) > 0))
  else
   some (.inl (w,w2,rW,zV,BQ,()))
def rY(k:Nat)(vI:Int)(JZ J0:XS)(aA:XN)(nE:Int×Int×Int×an×XI)(lR:XA):Option ((Int×Int)×Int×XS×XS×XA×Unit):=
 (sub nE.2.2.2.2 0 (dq ((nE.2.2.2.2.length:Int) - 1))).bind fun l=>
 (bT k k lR aA l (l.length:Int) 0 0 vI JZ J0 ([]:XA) 0).bind fun r=>match r with
 |.inl o=>
  some ((0,0),o.2.2.1,o.2.2.2.1,o.2.2.2.2.1,lR,())
 |.inr o2=>
  some ((o2.1,o2.2.1),o2.2.2.1,o2.2.2.2.1,o2.2.2.2.2.1,lR,())
def vf(k:Nat):mg:=⟨⟨126,[(37,2),(47,5),(67,5)],[(.r 3,.h .mp tA),lI 47 0,lI 47 1,lI 47 2,lD 47 3 .str,lD 47 4 sI,lD 67 0 .str,lI 67 4,rD 0 sN,rP 2 67,rP 8 37,rD 21 sI,rI 22],[lI 37 0,lI 37 1,lI 67 1,lF 67 2 .str,lF 67 3 .str,(.r 9,.h .mp tA),rI 23],[1000003]⟩,[.ex (.exit 0) [lI 37 0,lI 37 1,lI 67 1,lF 67 2 .str,lF 67 3 .str],.ex .ret [lI 37 0,lI 37 1,lI 67 1,lF 67 2 .str,lF 67 3 .str]],fun q c v=>bT k q c.1 c.2.2.2.2.2.2.2.2.1 c.2.2.2.2.2.2.2.2.2.2.2.1 c.2.2.2.2.2.2.2.2.2.2.2.2.1 v.1 v.2.1 v.2.2.1 v.2.2.2.1 v.2.2.2.2.1 v.2.2.2.2.2.1 v.2.2.2.2.2.2.1⟩
def yM(k:Nat):Ev bz:=⟨[],[lp 0 (vf k) k],[(5,47),(8,37)]⟩
def CG(k q:Nat):Cd bz:=nD (yM k) f73 0 (vf k) q []
def He(k:Nat):Cl bz:=mX (yM k) 73 f73 func73 call73 [500000] ⟨⟨126,[(67,5)],[lD 67 0 .str,lI 67 4],[rD 0 sN,rD 1 tN,rP 2 67,(.r 3,.h .mp tA),lI 67 1,lF 67 2 .str,lF 67 3 .str],[1000003]⟩,[.ret [rD 500000 tP,lI 67 1,lF 67 2 .str,lF 67 3 .str,(.r 3,.h .mp tA)] []],fun c v=>rY k v.2.2.2.2.1 v.2.2.2.2.2.1 v.2.2.2.2.2.2.1 v.1 v.2.1 v.2.2.2.1⟩ [CG k k]
def kw(q:Nat):Nat→XF→Int→Int→Option (((Unit)⊕(Int×Unit)))
 |0,_,_,_=>none
 |k + 1,t61,t71,t81=>
  bif decide (t81 < t71) then
   (bH t61 t81).bind fun x1=>
   bif x1.1 == ([109,97,105,110]:an) then
    some (.inr (t81,()))
   else
    kw q k t61 t71 (dq (t81 + 1))
  else
   some (.inl ())
def uO(k:Nat)(t:XA×XS×XF):Option (Int×Unit):=
 (kw k k t.2.2 (t.2.2.length:Int) 0).bind fun r=>match r with
 |.inl o=>
  some ((-1),())
 |.inr o2=>
  some (o2.1,())
def xU(k:Nat):mg:=⟨⟨18,[(35,3)],[lD 35 0 sA,lD 35 1 sS,lD 35 2 sF,rD 6 sF,rI 7],[rI 8],[]⟩,[.ex (.exit 0) [],.ex .ret [rI 2]],fun q c v=>kw k q c.2.2.2.1 c.2.2.2.2.1 v.1⟩
def BH(k:Nat):Ev bz:=⟨[],[lp 0 (xU k) k],[(1,35)]⟩
def Fy(k q:Nat):Cd bz:=nD (BH k) f74 0 (xU k) q []
def J6(k:Nat):Cl bz:=wv (BH k) 74 f74 func74 call74 [tM] [I] (fun d=>uO k d.1) [Fy k k]
def jR(q:Nat):Nat→an→XS→Int→Int→Option (((Unit)⊕(Int×Unit)))
 |0,_,_,_,_=>none
 |k + 1,un,t71,t81,t91=>
  bif decide (t91 < t81) then
   (bH t71 t91).bind fun x1=>
   bif x1 == un then
    some (.inr (t91,()))
   else
    jR q k un t71 t81 (dq (t91 + 1))
  else
   some (.inl ())
def mE(k:Nat)(abd:XS)(name:an):Option (Int×Unit):=
 (jR k k name abd (abd.length:Int) 0).bind fun r=>match r with
 |.inl o=>
  some ((-1),())
 |.inr o2=>
  some (o2.1,())
def we(k:Nat):mg:=⟨⟨19,[],[rD 1 .str,rD 7 sS,rI 8],[rI 9],[]⟩,[.ex (.exit 0) [],.ex .ret [rI 4]],fun q c v=>jR k q c.1 c.2.1 c.2.2.1 v.1⟩
def zP(k:Nat):Ev bz:=⟨[],[lp 0 (we k) k],[]⟩
def Er(k q:Nat):Cd bz:=nD (zP k) f114 0 (we k) q []
def IE(k:Nat):Cl bz:=wv (zP k) 114 f114 func114 call114 [sS,.str] [I] (fun d=>mE k d.1 d.2.1) [Er k k]
def kp(q:Nat):Nat→an→an→XF→Int→Int→Option (((Unit)⊕(Int×Int×Unit)))
 |0,_,_,_,_,_=>none
 |k + 1,FY,un,ad8,ad9,acG=>
  bif decide (acG < ad9) then
   (bH ad8 acG).bind fun x1=>
   bif !(x1.1 == FY) then
    kp q k FY un ad8 ad9 (dq (acG + 1))
   else
    (mE q x1.2.2.1 un).bind fun r1=>
    bif decide (r1.1≥0) then
     some (.inr (3,r1.1,()))
    else
     (mE q x1.2.2.2.1 un).bind fun r2=>
     bif decide (r2.1≥0) then
      some (.inr (4,r2.1,()))
     else
      some (.inl ())
  else
   some (.inl ())
def jt(q:Nat):Nat→an→XA→Int→Int→Option (((Unit)⊕(Int×Int×Unit)))
 |0,_,_,_,_=>none
 |k + 1,un,Zb,Zc,M0=>
  bif decide (M0 < Zc) then
   (bH Zb M0).bind fun x1=>
   bif x1.1 == un then
    some (.inr (1,M0,()))
   else
    jt q k un Zb Zc (dq (M0 + 1))
  else
   some (.inl ())
def ju(q:Nat):Nat→an→XF→Int→Int→Option (((Unit)⊕(Int×Int×Unit)))
 |0,_,_,_,_=>none
 |k + 1,un,aeh,aei,aas=>
  bif decide (aas < aei) then
   (bH aeh aas).bind fun x1=>
   bif x1.1 == un then
    some (.inr (5,aas,()))
   else
    ju q k un aeh aei (dq (aas + 1))
  else
   some (.inl ())
def fE(k:Nat)(t:XA×XS×XF)(fn name:an):Option (Int×Int×Unit):=
 (kp k k fn name t.2.2 (t.2.2.length:Int) 0).bind fun r=>match r with
 |.inl o=>
  (jt k k name t.1 (t.1.length:Int) 0).bind fun r=>match r with
  |.inl o3=>
   (mE k t.2.1 name).bind fun r1=>
   bif decide (r1.1≥0) then
    some (2,r1.1,())
   else
    (ju k k name t.2.2 (t.2.2.length:Int) 0).bind fun r=>match r with
    |.inl o5=>
     some (0,0,())
    |.inr o6=>
     some (o6.1,o6.2.1,())
  |.inr o4=>
   some (o4.1,o4.2.1,())
 |.inr o2=>
  some (o2.1,o2.2.1,())
def xI(k:Nat):mg:=⟨⟨78,[(35,3)],[lD 35 0 sA,lD 35 1 sS,lD 35 2 sF,rD 1 .str,rD 2 .str,rP 3 35,rD 18 sF,rI 19],[rI 20],[]⟩,[.ex (.exit 0) [],.ex .ret [rI 6,rI 7]],fun q c v=>kp k q c.2.2.2.1 c.2.2.2.2.1 c.2.2.2.2.2.2.1 c.2.2.2.2.2.2.2.1 v.1⟩
def xJ(k:Nat):mg:=⟨⟨78,[(35,3)],[lD 35 0 sA,lD 35 1 sS,lD 35 2 sF,rD 2 .str,rP 3 35,rD 44 sA,rI 45],[rI 46],[]⟩,[.ex (.exit 2) [],.ex .ret [rI 6,rI 7]],fun q c v=>jt k q c.2.2.2.1 c.2.2.2.2.2.1 c.2.2.2.2.2.2.1 v.1⟩
def xK(k:Nat):mg:=⟨⟨78,[(35,3)],[lD 35 0 sA,lD 35 1 sS,lD 35 2 sF,rD 2 .str,rD 65 sF,rI 66],[rI 67],[]⟩,[.ex (.exit 4) [],.ex .ret [rI 6,rI 7]],fun q c v=>ju k q c.2.2.2.1 c.2.2.2.2.1 c.2.2.2.2.2.1 v.1⟩
def rU(k:Nat):Ev bz:=⟨[IE k],[lp 0 (xI k) k,lp 2 (xJ k) k,lp 4 (xK k) k],[(3,35)]⟩
def Fj(k q:Nat):Cd bz:=nD (rU k) f76 0 (xI k) q []
def Fk(k q:Nat):Cd bz:=nD (rU k) f76 2 (xJ k) q []
def Fl(k q:Nat):Cd bz:=nD (rU k) f76 4 (xK k) q []
def vM(k:Nat):Cl bz:=wv (rU k) 76 f76 func76 call76 [tM,.str,.str] [I,I] (fun d=>fE k d.1 d.2.1 d.2.2.1) [Fj k k,Fk k k,Fl k k]
def gC(k:Nat)(aH:XA)(ax:XS)(bq:XF)(rm name:an):Option (Int×Unit):=
 (fE k (aH,ax,bq) rm name).bind fun r1=>
 some (r1.1,())
def va(k:Nat):Cl bz:=mX ⟨[vM k],[],[]⟩ 134 f134 func134 call134 [500000] ⟨⟨22,[(137,10)],[lD 137 0 sN,lD 137 1 sA,lD 137 2 sS,lD 137 3 sF,lD 137 4 .str,lI 137 5,lD 137 6 sS,lD 137 7 sS,lI 137 8,lH .mp 137 9 tA],[rP 0 137,rD 1 .str],[]⟩,[.ret [rI 500000] []],fun c v=>gC k c.2.1 c.2.2.1 c.2.2.2.1 c.2.2.2.2.1 v.2.1⟩ []
def eo(q:Nat):Nat→Int→XI→Int→Int→Option (((Unit)⊕(Int×Unit)))
 |0,_,_,_,_=>none
 |k + 1,Dm,KI,QN,t171=>
  bif decide (t171 < QN) then
   (bH KI t171).bind fun x1=>
   bif x1 == Dm then
    some (.inr (0,()))
   else
    eo q k Dm KI QN (dq (t171 + 1))
  else
   some (.inl ())
def dJ(k:Nat)(aH:XA)(ax:XS)(bq:XF)(rm name:an)(lY:XI):Option (Int×Unit):=
 (gC k aH ax bq rm name).bind fun r1=>
 bif r1.1 == 0 then
  some (10,())
 else
  (eo k k r1.1 lY (lY.length:Int) 0).bind fun r=>match r with
  |.inl o=>
   some (11,())
  |.inr o2=>
   some (o2.1,())
def sG(k:Nat):mg:=⟨⟨25,[(137,10)],[lD 137 0 sN,lD 137 1 sA,lD 137 2 sS,lD 137 3 sF,lD 137 4 .str,lI 137 5,lD 137 6 sS,lD 137 7 sS,lI 137 8,lH .mp 137 9 tA,rI 7,rD 15 sI,rI 16],[rI 17],[]⟩,[.ex (.exit 0) [],.ex .ret [rI 6]],fun q c v=>eo k q c.2.2.2.2.2.2.2.2.2.2.1 c.2.2.2.2.2.2.2.2.2.2.2.1 c.2.2.2.2.2.2.2.2.2.2.2.2.1 v.1⟩
def uY(k:Nat):Ev bz:=⟨[va k],[lp 0 (sG k) k],[]⟩
def zN(k q:Nat):Cd bz:=nD (uY k) f137 0 (sG k) q []
def kQ(k:Nat):Cl bz:=mX (uY k) 137 f137 func137 call137 [500000] ⟨⟨25,[(137,10)],[lD 137 0 sN,lD 137 1 sA,lD 137 2 sS,lD 137 3 sF,lD 137 4 .str,lI 137 5,lD 137 6 sS,lD 137 7 sS,lI 137 8,lH .mp 137 9 tA],[rP 0 137,rD 1 .str,rD 2 sI],[]⟩,[.ret [rI 500000] []],fun c v=>dJ k c.2.1 c.2.2.1 c.2.2.2.1 c.2.2.2.2.1 v.2.1 v.2.2.1⟩ [zN k k]
def jz(k:Nat)(aA:XN)(aH:XA)(ax:XS)(bq:XF)(rm:an)(nE:Int×Int×Int×an×XI):Option ((Int×Int)×Unit):=
 (bH nE.2.2.2.2 0).bind fun x1=>
 (bH aA x1).bind fun x2=>
 bif x2.1 == 29 then
  some ((0,0),())
 else
  bif x2.1 == 25 then
   (dJ k aH ax bq rm x2.2.2.2.1 ([4])).bind fun r1=>
   bif r1.1 != 0 then
    some ((r1.1,x2.2.1),())
   else
    some ((0,0),())
  else
   some ((11,nE.2.1),())
def Bb(k:Nat):Cl bz:=mX ⟨[kQ k],[],[(3,47),(4,37)]⟩ 135 f135 func135 call135 [500000] ⟨⟨39,[(137,10)],[lD 137 0 sN,lD 137 1 sA,lD 137 2 sS,lD 137 3 sF,lD 137 4 .str,lI 137 5,lD 137 6 sS,lD 137 7 sS,lI 137 8,lH .mp 137 9 tA],[rP 0 137,rD 1 tN],[]⟩,[.ret [rD 500000 tP] []],fun c v=>jz k c.1 c.2.1 c.2.2.1 c.2.2.2.1 c.2.2.2.2.1 v.2.1⟩ []
def mF(k:Nat)(aH:XA)(ax:XS)(bq:XF)(rm:an)(qW:XA)(name:an)(lY:XI):Option (Int×Unit):=
 (dJ k aH ax bq rm name lY).bind fun r1=>
 bif r1.1 != 0 then
  some (r1.1,())
 else
  bif decide ((qh qW name) > 0) then
   some (11,())
  else
   some (0,())
def CZ(k:Nat):Cl bz:=mX ⟨[kQ k],[],[]⟩ 159 f159 func159 call159 [500000] ⟨⟨22,[(137,10)],[lD 137 0 sN,lD 137 1 sA,lD 137 2 sS,lD 137 3 sF,lD 137 4 .str,lI 137 5,lD 137 6 sS,lD 137 7 sS,lI 137 8,lH .mp 137 9 tA],[rP 0 137,rD 1 .str,rD 2 sI],[]⟩,[.ret [rI 500000] []],fun c v=>mF k c.2.1 c.2.2.1 c.2.2.2.1 c.2.2.2.2.1 c.2.2.2.2.2.2.2.2.2.1 v.2.1 v.2.2.1⟩ []
def cI(k:Nat)(aH:XA)(ax:XS)(bq:XF)(rm:an)(qW:XA)(nE:Int×Int×Int×an×XI):Option (Int×Unit):=
 bif nE.1 == 25 then
  (dJ k aH ax bq rm nE.2.2.2.1 ([3,2])).bind fun r1=>
  some (r1.1,())
 else
  aa (fun(v:Bool)=>
   bif v then
    (dJ k aH ax bq rm nE.2.2.2.1 ([1])).bind fun r2=>
    some (r2.1,())
   else
    aa (fun(v2:Bool)=>
     bif v2 then
      (dJ k aH ax bq rm nE.2.2.2.1 ([4])).bind fun r3=>
      some (r3.1,())
     else
      aa (fun(v3:Bool)=>
       bif v3 then
        (mF k aH ax bq rm qW nE.2.2.2.1 ([3,2])).bind fun r4=>
        some (r4.1,())
       else
        bif nE.1 == 16 then
         (mF k aH ax bq rm qW nE.2.2.2.1 ([3])).bind fun r5=>
         some (r5.1,())
        else
         some (0,())) fun xG=>
      bif nE.1 == 17 then
       xG (nE.1 == 17)
      else
       bif nE.1 == 22 then
        xG (nE.1 == 22)
       else
        xG (nE.1 == 9)) fun jH=>
    bif nE.1 == 27 then
     jH (nE.1 == 27)
    else
     bif nE.1 == 11 then
      jH (nE.1 == 11)
     else
      bif nE.1 == 13 then
       jH (nE.1 == 13)
      else
       bif nE.1 == 34 then
        jH (nE.1 == 34)
       else
        jH (nE.1 == 12)) fun cD=>
  bif nE.1 == 26 then
   cD (nE.1 == 26)
  else
   cD (nE.1 == 10)
def CY(k:Nat):Cl bz:=mX ⟨[kQ k,CZ k],[],[(3,47)]⟩ 136 f136 func136 call136 [500000] ⟨⟨49,[(137,10)],[lD 137 0 sN,lD 137 1 sA,lD 137 2 sS,lD 137 3 sF,lD 137 4 .str,lI 137 5,lD 137 6 sS,lD 137 7 sS,lI 137 8,lH .mp 137 9 tA],[rP 0 137,rD 1 tN],[]⟩,[.ret [rI 500000] []],fun c v=>cI k c.2.1 c.2.2.1 c.2.2.2.1 c.2.2.2.2.1 c.2.2.2.2.2.2.2.2.2.1 v.2.1⟩ []
def kV(k:Nat)(aA:XN)(aH:XA)(ax:XS)(bq:XF)(rm:an)(nE:Int×Int×Int×an×XI):Option ((Int×Int)×Unit):=
 (bH nE.2.2.2.2 0).bind fun x1=>
 (bH aA x1).bind fun x2=>
 (dJ k aH ax bq rm x2.2.2.2.1 ([5])).bind fun r1=>
 bif r1.1 != 0 then
  some ((r1.1,x2.2.1),())
 else
  (fE k (aH,ax,bq) rm x2.2.2.2.1).bind fun r2=>
  (bH bq r2.2.1).bind fun x3=>
  bif (dq ((nE.2.2.2.2.length:Int) - 1)) != x3.2.1 then
   some ((12,x2.2.1),())
  else
   some ((0,0),())
def Ba(k:Nat):Cl bz:=mX ⟨[vM k,kQ k],[],[(3,47),(4,37)]⟩ 138 f138 func138 call138 [500000] ⟨⟨63,[(137,10)],[lD 137 0 sN,lD 137 1 sA,lD 137 2 sS,lD 137 3 sF,lD 137 4 .str,lI 137 5,lD 137 6 sS,lD 137 7 sS,lI 137 8,lH .mp 137 9 tA],[rP 0 137,rD 1 tN],[]⟩,[.ret [rD 500000 tP] []],fun c v=>kV k c.1 c.2.1 c.2.2.1 c.2.2.2.1 c.2.2.2.2.1 v.2.1⟩ []
end
end Go.Fx.R5
namespace Go.Fx.R5
open Go Go.Fx Go.Proofs Go.Proofs.Tryz
noncomputable section
abbrev eX:=XN→XA→XS→XF→an→Int→XS→XS→Int→XA→Int→Option ((Int×Int)×XA×Unit)
def mO(f:eX):DU:=⟨⟨30,[(137,10)],[lD 137 0 sN,lD 137 1 sA,lD 137 2 sS,lD 137 3 sF,lD 137 4 .str,lI 137 5,lD 137 6 sS,lD 137 7 sS,lI 137 8],[rP 0 137,rI 1,lH .mp 137 9 tA],[]⟩,[.ret [rD 500000 tP,lH .mp 137 9 tA] []],fun c v=>f c.1 c.2.1 c.2.2.1 c.2.2.2.1 c.2.2.2.2.1 c.2.2.2.2.2.1 c.2.2.2.2.2.2.1 c.2.2.2.2.2.2.2.1 c.2.2.2.2.2.2.2.2.1 v.2.2.1 v.2.1⟩
def ub(f:eX):iX:=mI (mO f).L (mO f).F (AW [500000] (mO f).V)
abbrev eY:=XN→XA→XS→XF→an→Int→XS→XS→Int→XA→Int→Option ((Int×Int)×XA×Unit)
def mP(f:eY):DU:=⟨⟨100,[(137,10)],[lD 137 0 sN,lD 137 1 sA,lD 137 2 sS,lD 137 3 sF,lD 137 4 .str,lI 137 5,lD 137 6 sS,lD 137 7 sS,lI 137 8],[rP 0 137,rI 1,lH .mp 137 9 tA],[]⟩,[.ret [rD 500000 tP,lH .mp 137 9 tA] []],fun c v=>f c.1 c.2.1 c.2.2.1 c.2.2.2.1 c.2.2.2.2.1 c.2.2.2.2.2.1 c.2.2.2.2.2.2.1 c.2.2.2.2.2.2.2.1 c.2.2.2.2.2.2.2.2.1 v.2.2.1 v.2.1⟩
def uc(f:eY):iX:=mI (mP f).L (mP f).F (AW [500000] (mP f).V)
abbrev dO:=XN→XA→XS→XF→an→Int→XS→XS→Int→XA→(Int×Int×Int×an×XI)→Option ((Int×Int)×XA×Unit)
def kG(f:dO):DU:=⟨⟨44,[(137,10)],[lD 137 0 sN,lD 137 1 sA,lD 137 2 sS,lD 137 3 sF,lD 137 4 .str,lI 137 5,lD 137 6 sS,lD 137 7 sS,lI 137 8],[rP 0 137,rD 1 tN,lH .mp 137 9 tA],[]⟩,[.ret [rD 500000 tP,lH .mp 137 9 tA] []],fun c v=>f c.1 c.2.1 c.2.2.1 c.2.2.2.1 c.2.2.2.2.1 c.2.2.2.2.2.1 c.2.2.2.2.2.2.1 c.2.2.2.2.2.2.2.1 c.2.2.2.2.2.2.2.2.1 v.2.2.1 v.2.1⟩
def ro(f:dO):iX:=mI (kG f).L (kG f).F (AW [500000] (kG f).V)
def aS(aD:eX)(ay:eY)(aq:dO)(q:Nat):Nat→XN→XA→XS→XF→an→Int→XS→XS→Int→XI→Int→Int→Int→XA→Int→Option (((Int×Int×XA×Unit)⊕(Int×Int×XA×Unit)))
 |0,_,_,_,_,_,_,_,_,_,_,_,_,_,_,_=>none
 |k + 1,bX,gu,gk,jC,Rc,rW,zV,BQ,QY,KI,QN,w,w2,B1,t171=>
  bif decide (t171 < QN) then
   (bH KI t171).bind fun x2=>
   (ay bX gu gk jC Rc rW zV BQ QY B1 x2).bind fun r1=>
   bif r1.1.1 != 0 then
    some (.inr (r1.1.1,r1.1.2,r1.2.1,()))
   else
    aS aD ay aq q k bX gu gk jC Rc rW zV BQ QY KI QN w w2 r1.2.1 (dq (t171 + 1))
  else
   some (.inl (w,w2,B1,()))
def kj(aD:eX)(ay:eY)(aq:dO)(k:Nat)(aA:XN)(aH:XA)(ax:XS)(bq:XF)(rm:an)(vI:Int)(JZ J0:XS)(Ni:Int)(qW:XA)(n:Int):Option ((Int×Int)×XA×Unit):=
 (bH aA n).bind fun x1=>
 (aS aD ay aq k k aA aH ax bq rm vI JZ J0 Ni x1.2.2.2.2 (x1.2.2.2.2.length:Int) 0 0 qW 0).bind fun r=>match r with
 |.inl o=>
  some ((0,0),o.2.2.1,())
 |.inr o2=>
  some ((o2.1,o2.2.1),o2.2.2.1,())
def a6(aD:eX)(ay:eY)(aq:dO)(k:Nat)(aA:XN)(aH:XA)(ax:XS)(bq:XF)(rm:an)(vI:Int)(JZ J0:XS)(Ni:Int)(qW:XA)(n:Int):Option ((Int×Int)×XA×Unit):=
 (bH aA n).bind fun x1=>
 aa (fun(v:Bool)=>
  bif v then
   (jz k aA aH ax bq rm x1).bind fun r2=>
   some (r2.1,qW,())
  else
   (cI k aH ax bq rm qW x1).bind fun r3=>
   bif r3.1 != 0 then
    some ((r3.1,x1.2.1),qW,())
   else
    aa (fun(_:Unit)=>
     (aD aA aH ax bq rm vI JZ J0 Ni qW n).bind fun r7=>
     some (r7.1,r7.2.1,())) fun jH=>
    bif x1.1 == 9 then
     (bH x1.2.2.2.2 0).bind fun x2=>
     (bH aA x2).bind fun x3=>
     bif x3.1 == 29 then
      some ((11,x3.2.1),qW,())
     else
      jH ()
    else
     bif x1.1 == 12 then
      (bH x1.2.2.2.2 0).bind fun x4=>
      (bH aA x4).bind fun x5=>
      (dJ k aH ax bq rm x5.2.2.2.1 ([1])).bind fun r4=>
      bif r4.1 != 0 then
       some ((r4.1,x5.2.1),qW,())
      else
       jH ()
     else
      bif x1.1 == 22 then
       (kV k aA aH ax bq rm x1).bind fun r5=>
       bif r5.1.1 != 0 then
        some (r5.1,qW,())
       else
        jH ()
      else
       bif x1.1 == 16 then
        (aq aA aH ax bq rm vI JZ J0 Ni qW x1).bind fun r6=>
        some (r6.1,r6.2.1,())
       else
        jH ()) fun cD=>
 bif x1.1 == 9 then
  (gC k aH ax bq rm x1.2.2.2.1).bind fun r1=>
  cD (r1.1 == 4)
 else
  cD false
def cE(aD:eX)(ay:eY)(aq:dO)(q:Nat):Nat→XN→XA→XS→XF→an→Int→XS→XS→Int→XI→Int→Int→Int→XA→Int→Option (((Int×Int×XA×Unit)⊕(Int×Int×XA×Unit)))
 |0,_,_,_,_,_,_,_,_,_,_,_,_,_,_,_=>none
 |k + 1,bX,gu,gk,jC,aaF,rW,zV,BQ,QY,ad6,t121,w,w2,B1,Ws=>
  bif decide (Ws < t121) then
   (bH ad6 Ws).bind fun x1=>
   (ay bX gu gk jC aaF rW zV BQ QY B1 x1).bind fun r1=>
   bif r1.1.1 != 0 then
    some (.inr (r1.1.1,r1.1.2,r1.2.1,()))
   else
    cE aD ay aq q k bX gu gk jC aaF rW zV BQ QY ad6 t121 w w2 r1.2.1 (dq (Ws + 1))
  else
   some (.inl (w,w2,B1,()))
def gM(aD:eX)(ay:eY)(aq:dO)(k:Nat)(aA:XN)(aH:XA)(ax:XS)(bq:XF)(rm:an)(vI:Int)(JZ J0:XS)(Ni:Int)(qW:XA)(nE:Int×Int×Int×an×XI):Option ((Int×Int)×XA×Unit):=
 (sub nE.2.2.2.2 0 2).bind fun l=>
 (cE aD ay aq k k aA aH ax bq rm vI JZ J0 Ni l (l.length:Int) 0 0 qW 0).bind fun r=>match r with
 |.inl o=>
  (bH nE.2.2.2.2 2).bind fun x1=>
  (ay aA aH ax bq rm vI JZ J0 Ni (qI o.2.2.1 nE.2.2.2.1 1) x1).bind fun r1=>
  some (r1.1,qI r1.2.1 nE.2.2.2.1 0,())
 |.inr o2=>
  some ((o2.1,o2.2.1),o2.2.2.1,())
def cF:Nat→eX×eY×dO
 |0=>(fun _ _ _ _ _ _ _ _ _ _ _=>none,fun _ _ _ _ _ _ _ _ _ _ _=>none,fun _ _ _ _ _ _ _ _ _ _ _=>none)
 |k + 1=>(kj (cF k).1 (cF k).2.1 (cF k).2.2 k,a6 (cF k).1 (cF k).2.1 (cF k).2.2 k,gM (cF k).1 (cF k).2.1 (cF k).2.2 k)
def bI(k:Nat):eX:=(cF k).1
def ck(k:Nat):eY:=(cF k).2.1
def bU(k:Nat):dO:=(cF k).2.2
section
variable (aD:Gd bz 75 ub) (ay:Gd bz 113 uc) (aq:Gd bz 139 ro)
def rx(k:Nat):mg:=⟨⟨30,[(37,2),(137,10)],[lD 137 0 sN,lD 137 1 sA,lD 137 2 sS,lD 137 3 sF,lD 137 4 .str,lI 137 5,lD 137 6 sS,lD 137 7 sS,lI 137 8,rP 0 137,rP 4 37,rD 15 sI,rI 16],[lI 37 0,lI 37 1,lH .mp 137 9 tA,rI 17],[]⟩,[.ex (.exit 0) [lI 37 0,lI 37 1,lH .mp 137 9 tA],.ex .ret [lI 37 0,lI 37 1,lH .mp 137 9 tA]],fun q c v=>aS aD.1 ay.1 aq.1 k q c.1 c.2.1 c.2.2.1 c.2.2.2.1 c.2.2.2.2.1 c.2.2.2.2.2.1 c.2.2.2.2.2.2.1 c.2.2.2.2.2.2.2.1 c.2.2.2.2.2.2.2.2.1 c.2.2.2.2.2.2.2.2.2.2.2.1 c.2.2.2.2.2.2.2.2.2.2.2.2.1 v.1 v.2.1 v.2.2.1 v.2.2.2.1⟩
def t8(k:Nat):Ev bz:=⟨[ay.cl],[lp 0 (rx aD ay aq k) k],[(4,37)]⟩
def zk(k q:Nat):Cd bz:=nD (t8 aD ay aq k) f75 0 (rx aD ay aq k) q []
def CA(k:Nat):Cl bz:=mX (t8 aD ay aq k) 75 f75 func75 call75 [500000] (mO (kj aD.1 ay.1 aq.1 k)) [zk aD ay aq k k]
def CB(k:Nat):Cl bz:=mX ⟨[aD.cl,va k,Bb k,CY k,kQ k,Ba k,aq.cl],[],[(4,37),(5,47)]⟩ 113 f113 func113 call113 [500000] (mP (a6 aD.1 ay.1 aq.1 k)) []
def pR(k:Nat):mg:=⟨⟨44,[(37,2),(47,5),(137,10)],[lI 47 0,lI 47 1,lI 47 2,lD 47 3 .str,lD 47 4 sI,lD 137 0 sN,lD 137 1 sA,lD 137 2 sS,lD 137 3 sF,lD 137 4 .str,lI 137 5,lD 137 6 sS,lD 137 7 sS,lI 137 8,rP 0 137,rP 3 47,rP 4 37,rD 11 sI,rI 12],[lI 37 0,lI 37 1,lH .mp 137 9 tA,rI 13],[]⟩,[.ex (.exit 0) [lI 37 0,lI 37 1,lH .mp 137 9 tA],.ex .ret [lI 37 0,lI 37 1,lH .mp 137 9 tA]],fun q c v=>cE aD.1 ay.1 aq.1 k q c.2.2.2.2.2.1 c.2.2.2.2.2.2.1 c.2.2.2.2.2.2.2.1 c.2.2.2.2.2.2.2.2.1 c.2.2.2.2.2.2.2.2.2.1 c.2.2.2.2.2.2.2.2.2.2.1 c.2.2.2.2.2.2.2.2.2.2.2.1 c.2.2.2.2.2.2.2.2.2.2.2.2.1 c.2.2.2.2.2.2.2.2.2.2.2.2.2.1 c.2.2.2.2.2.2.2.2.2.2.2.2.2.2.2.2.2.1 c.2.2.2.2.2.2.2.2.2.2.2.2.2.2.2.2.2.2.1 v.1 v.2.1 v.2.2.1 v.2.2.2.1⟩
def rj(k:Nat):Ev bz:=⟨[ay.cl],[lp 0 (pR aD ay aq k) k],[(3,47),(4,37)]⟩
def wr(k q:Nat):Cd bz:=nD (rj aD ay aq k) f139 0 (pR aD ay aq k) q []
def zw(k:Nat):Cl bz:=mX (rj aD ay aq k) 139 f139 func139 call139 [500000] (kG (gM aD.1 ay.1 aq.1 k)) [wr aD ay aq k k]
end
theorem jP:∀ k,l8 prog gt 75 (ub (bI k))∧l8 prog gt 113 (uc (ck k))∧l8 prog gt 139 (ro (bU k))
 |0=>⟨dh (fun _ _=>rfl),dh (fun _ _=>rfl),dh (fun _ _=>rfl)⟩
 |k + 1=>have ih:=jP k;⟨(CA ⟨_,ih.1⟩ ⟨_,ih.2.1⟩ ⟨_,ih.2.2⟩ k).ok,(CB ⟨_,ih.1⟩ ⟨_,ih.2.1⟩ ⟨_,ih.2.2⟩ k).ok,(zw ⟨_,ih.1⟩ ⟨_,ih.2.1⟩ ⟨_,ih.2.2⟩ k).ok⟩
def Cw(k:Nat):Cl bz:=⟨_,_,(jP k).1⟩
def QV(k:Nat):Cl bz:=⟨_,_,(jP k).2.1⟩
def No(k:Nat):Cl bz:=⟨_,_,(jP k).2.2⟩
def dI(q:Nat):Nat→XN→XI→Int→XA→XS→XF→Int→Int→XA→Int→Option (((XA×XS×XF×Int×Int×XA×Unit)⊕(Int×Int×Unit)))
 |0,_,_,_,_,_,_,_,_,_,_=>none
 |k + 1,bX,aed,aee,aH,ax,bq,w,w2,lR,acI=>
  bif decide (acI < aee) then
   (bH aed acI).bind fun x2=>
   (eJ aH ax bq bX x2 lR).bind fun r1=>
   bif r1.1 != 0 then
    (bH bX x2).bind fun x3=>
    some (.inr (r1.1,x3.2.1,()))
   else
    dI q k bX aed aee r1.2.1 r1.2.2.1 r1.2.2.2.1 w w2 r1.2.2.2.2.1 (dq (acI + 1))
  else
   some (.inl (aH,ax,bq,w,w2,lR,()))
def pQ(q:Nat)(Dx:XN)(TZ I7:Int)(jC:XF)(DY:XA):Option (XF×XA×Int×Int×Unit):=
 (bH Dx I7).bind fun x4=>
 (bH jC TZ).bind fun x5=>
 (bH jC (TZ.toNat:Int)).bind fun e=>
 (rY q e.2.1 e.2.2.1 e.2.2.2.1 Dx x4 DY).bind fun r1=>
 some (List.set jC TZ.toNat (e.1,r1.2.1,r1.2.2.1,r1.2.2.2.1,e.2.2.2.2),r1.2.2.2.2.1,r1.1.1,r1.1.2,())
def dl(q:Nat):Nat→XN→XI→Int→XF→Int→Int→XA→Int→Int→Option (((XF×Int×Int×Unit)⊕(Int×Int×Unit)))
 |0,_,_,_,_,_,_,_,_,_=>none
 |k + 1,bX,Zd,SX,bq,w,w2,lR,ml,M1=>
  bif decide (M1 < SX) then
   aa (fun(jv:XA×Int×XF)=>
    dl q k bX Zd SX (jv.2.2) w w2 (jv.1) (jv.2.1) (dq (M1 + 1))) fun cD=>
   (bH Zd M1).bind fun x2=>
   (bH bX x2).bind fun x3=>
   bif x3.1 != 4 then
    cD (lR,ml,bq)
   else
    (pQ q bX ml x2 bq lR).bind fun o3=>
    bif o3.2.2.1 != 0 then
     some (.inr (o3.2.2.1,o3.2.2.2.1,()))
    else
     cD (o3.2.1,(dq (ml + 1)),o3.1)
  else
   some (.inl (bq,w,w2,()))
def fq(q:Nat):Nat→XF→XN→XF→Int→XA→XS→Int→Int→Int→Option (((XA×XS×Int×Int×Unit)⊕(Int×Int×Unit)))
 |0,_,_,_,_,_,_,_,_,_=>none
 |k + 1,bq,bX,aem,aen,aH,ax,w,w2,acN=>
  bif decide (acN < aen) then
   (bH aem acN).bind fun x4=>
   (bI q bX aH ax bq x4.1 x4.2.1 x4.2.2.1 x4.2.2.2.1 x4.2.2.2.2 ([]:XA) x4.2.2.2.2).bind fun r2=>
   bif r2.1.1 != 0 then
    some (.inr (r2.1.1,r2.1.2,()))
   else
    fq q k bq bX aem aen aH ax w w2 (dq (acN + 1))
  else
   some (.inl (aH,ax,w,w2,()))
def iQ(k:Nat)(aA:XN):Option ((XA×XS×XF)×(Int×Int)×Unit):=
 (bH aA (dq ((aA.length:Int) - 1))).bind fun x1=>
 (dI k k aA x1.2.2.2.2 (x1.2.2.2.2.length:Int) [] [] [] 0 0 ([]:XA) 0).bind fun r=>match r with
 |.inl o=>
  (dl k k aA x1.2.2.2.2 (x1.2.2.2.2.length:Int) o.2.2.1 o.2.2.2.1 o.2.2.2.2.1 o.2.2.2.2.2.1 0 0).bind fun r=>match r with
  |.inl o3=>
   (uO k (o.1,o.2.1,o3.1)).bind fun r1=>
   aa (fun(v:Bool)=>
    bif v then
     some (([],[],[]),(13,0),())
    else
     (fq k k o3.1 aA o3.1 (o3.1.length:Int) o.1 o.2.1 o3.2.1 o3.2.2.1 0).bind fun r=>match r with
     |.inl o5=>
      some ((o5.1,o5.2.1,o3.1),(0,0),())
     |.inr o6=>
      some (([],[],[]),(o6.1,o6.2.1),())) fun cD=>
   bif decide (r1.1 < 0) then
    cD true
   else
    (bH o3.1 r1.1).bind fun x2=>
    (bH o3.1 (r1.1.toNat:Int)).bind fun x3=>
    cD (decide (x3.2.1 > 0))
  |.inr o4=>
   some (([],[],[]),(o4.1,o4.2.1),())
 |.inr o2=>
  some (([],[],[]),(o2.1,o2.2.1),())
def xV(k:Nat):mg:=⟨⟨118,[(35,3),(37,2),(47,5),(10002,3)],[lI 47 0,lI 47 1,lI 47 2,lD 47 3 .str,lD 47 4 sI,rD 0 sN,rP 2 10002,rP 3 37,rP 4 47,rP 5 35,rD 27 sI,rI 28],[lF 35 0 tA,lF 35 1 .str,lU 35 2 tF,lI 37 0,lI 37 1,lN 10002 0,lN 10002 1,lN 10002 2,(.r 6,.h .mp tA),rI 29],[]⟩,[.ex (.exit 0) [lF 35 0 tA,lF 35 1 .str,lU 35 2 tF,lI 37 0,lI 37 1,lN 10002 0,lN 10002 1,lN 10002 2,(.r 6,.h .mp tA)],.ex .ret [lI 37 0,lI 37 1,lN 10002 0,lN 10002 1,lN 10002 2]],fun q c v=>dI k q c.2.2.2.2.2.1 c.2.2.2.2.2.2.2.2.2.2.1 c.2.2.2.2.2.2.2.2.2.2.2.1 v.1 v.2.1 v.2.2.1 v.2.2.2.1 v.2.2.2.2.1 v.2.2.2.2.2.2.2.2.1 v.2.2.2.2.2.2.2.2.2.1⟩
def wf(k:Nat):mg:=⟨⟨118,[(35,3),(37,2),(47,5),(10002,3)],[lF 35 0 tA,lF 35 1 .str,lI 37 0,lI 37 1,lI 47 0,lI 47 1,lI 47 2,lD 47 3 .str,lD 47 4 sI,lN 10002 0,lN 10002 1,lN 10002 2,rD 0 sN,rP 2 10002,rP 3 37,rP 5 35,rI 10,rI 12,rD 49 sI,rI 50,rI 51],[lU 35 2 tF,(.r 6,.h .mp tA)],[]⟩,[.ex .normal [lU 35 2 tF,(.r 6,.h .mp tA),rP 13 10013,lI 10013 0,lI 10013 1]],fun q c v=>pQ k c.2.2.2.2.2.2.2.2.2.2.2.2.1 c.2.2.2.2.2.2.2.2.2.2.2.2.2.2.2.2.1 c.2.2.2.2.2.2.2.2.2.2.2.2.2.2.2.2.2.1 v.1 v.2.1⟩
def xW(k:Nat):mg:=⟨⟨118,[(35,3),(37,2),(47,5),(10002,3)],[lF 35 0 tA,lF 35 1 .str,lI 47 0,lI 47 1,lI 47 2,lD 47 3 .str,lD 47 4 sI,rD 0 sN,rP 2 10002,rP 3 37,rP 5 35,rD 49 sI,rI 50],[lU 35 2 tF,lI 37 0,lI 37 1,lN 10002 0,lN 10002 1,lN 10002 2,(.r 6,.h .mp tA),rI 10,rI 51],[]⟩,[.ex (.exit 2) [lU 35 2 tF,lI 37 0,lI 37 1,lN 10002 0,lN 10002 1,lN 10002 2],.ex .ret [lI 37 0,lI 37 1,lN 10002 0,lN 10002 1,lN 10002 2]],fun q c v=>dl k q c.2.2.2.2.2.2.2.1 c.2.2.2.2.2.2.2.2.2.2.2.1 c.2.2.2.2.2.2.2.2.2.2.2.2.1 v.1 v.2.1 v.2.2.1 v.2.2.2.2.2.2.1 v.2.2.2.2.2.2.2.1 v.2.2.2.2.2.2.2.2.1⟩
def xX(k:Nat):mg:=⟨⟨118,[(35,3),(37,2),(47,5),(10002,3)],[lD 35 2 sF,lI 47 0,lI 47 1,lI 47 2,lD 47 3 .str,lD 47 4 sI,rD 0 sN,rP 2 10002,rP 3 37,rP 5 35,rD 96 sF,rI 97],[lD 35 0 sA,lD 35 1 sS,lI 37 0,lI 37 1,lN 10002 0,lN 10002 1,lN 10002 2,rI 98],[]⟩,[.ex (.exit 4) [lD 35 0 sA,lD 35 1 sS,lI 37 0,lI 37 1,lN 10002 0,lN 10002 1,lN 10002 2],.ex .ret [lI 37 0,lI 37 1,lN 10002 0,lN 10002 1,lN 10002 2]],fun q c v=>fq k q c.1 c.2.2.2.2.2.2.1 c.2.2.2.2.2.2.2.2.2.2.1 c.2.2.2.2.2.2.2.2.2.2.2.1 v.1 v.2.1 v.2.2.1 v.2.2.2.1 v.2.2.2.2.2.2.2.1⟩
def pp(k:Nat):Ev bz:=⟨[FR,(He k).afe 2 67,J6 k,(Cw k).t7 0 137],[lp 0 (xV k) k,rg 16 (wf k),lp 2 (xW k) k,lp 4 (xX k) k],[(3,37),(4,47),(5,35)]⟩
def Fz(k q:Nat):Cd bz:=nD (pp k) f42 0 (xV k) q []
def Es(k:Nat):Cd bz:=rgC (pp k) f42 16 (wf k) [[0,1,2,3,4,5,6,7,8,9,10,11,12],[0,1,2,3,4,5,6,7,8,9,11,10,12]]
def FA(k q:Nat):Cd bz:=nD (pp k) f42 2 (xW k) q [Es k]
def FB(k q:Nat):Cd bz:=nD (pp k) f42 4 (xX k) q []
def J7(k:Nat):Cl bz:=wv (pp k) 42 f42 func42 call42 [sN] [tM,tP] (fun d=>iQ k d.1) [Fz k k,FA k k,FB k k]
abbrev lQ:=XN→XA→XS→XF→XI→XI→XI→XI→XB→XE→XQ→XL→XB→(an×Int×XS×XS×Int)→Int→Option (XI×XI×Unit)
def oa(f:lQ):DU:=⟨⟨55,[(93,13)],[lD 93 0 sN,lD 93 1 sA,lD 93 2 sS,lD 93 3 sF,lD 93 6 sI,lD 93 7 sI,lD 93 8 sB,lD 93 9 sE,lD 93 10 sQ,lD 93 11 sL,lD 93 12 sB],[rP 0 93,rD 1 tF,rI 2,lF 93 4 I,lF 93 5 I],[]⟩,[.ret [lF 93 4 I,lF 93 5 I] []],fun c v=>f c.1 c.2.1 c.2.2.1 c.2.2.2.1 v.2.2.2.1 v.2.2.2.2.1 c.2.2.2.2.1 c.2.2.2.2.2.1 c.2.2.2.2.2.2.1 c.2.2.2.2.2.2.2.1 c.2.2.2.2.2.2.2.2.1 c.2.2.2.2.2.2.2.2.2.1 c.2.2.2.2.2.2.2.2.2.2.1 v.2.1 v.2.2.1⟩
def vZ(f:lQ):iX:=mI (oa f).L (oa f).F (AW [] (oa f).V)
def gq(dm:lQ)(q:Nat):Nat→an→Int→XS→XS→Int→XN→XA→XS→XF→XI→XI→XB→XE→XQ→XL→XB→XI→Int→XI→XI→Int→Option (XI×XI×Unit)
 |0,_,_,_,_,_,_,_,_,_,_,_,_,_,_,_,_,_,_,_,_,_=>none
 |k + 1,Rc,vI,JZ,J0,Ni,bX,gu,gk,jC,kn,mv,pL,m6,sH,tK,mz,Zb,Zc,X5,Va,M0=>
  bif decide (M0 < Zc) then
   (bH Zb M0).bind fun x6=>
   (dm bX gu gk jC X5 Va kn mv pL m6 sH tK mz (Rc,vI,JZ,J0,Ni) x6).bind fun r2=>
   gq dm q k Rc vI JZ J0 Ni bX gu gk jC kn mv pL m6 sH tK mz Zb Zc r2.1 r2.2.1 (dq (M0 + 1))
  else
   some (X5,Va,())
def oe(dm:lQ)(k:Nat)(aA:XN)(aH:XA)(ax:XS)(bq:XF)(lY jE hG iN:XI)(kZ:XB)(gF:XE)(laid:XQ)(out:XL)(bR:XB)(fn:an×Int×XS×XS×Int)(n:Int):Option (XI×XI×Unit):=
 (bH aA n).bind fun x1=>
 aa (fun(jv:XI×XI)=>
  (gq dm k k fn.1 fn.2.1 fn.2.2.1 fn.2.2.2.1 fn.2.2.2.2 aA aH ax bq hG iN kZ gF laid out bR x1.2.2.2.2 (x1.2.2.2.2.length:Int) (jv.1) (jv.2) 0).bind fun o=>
  some (o.1,o.2.1,())) fun cD=>
 bif !(x1.2.2.2.1 == ([]:an)) then
  (fE k (aH,ax,bq) fn.1 x1.2.2.2.1).bind fun r1=>
  (bH lY n).bind fun x2=>
  (bH lY (n.toNat:Int)).bind fun x3=>
  (bH jE n).bind fun x4=>
  (bH jE (n.toNat:Int)).bind fun x5=>
  cD (List.set lY n.toNat r1.1,List.set jE n.toNat r1.2.1)
 else
  cD (lY,jE)
def gh:Nat→lQ
 |0=>fun _ _ _ _ _ _ _ _ _ _ _ _ _ _ _=>none
 |k + 1=>oe (gh k) k
section
variable (dm:Gd bz 43 vZ)
def tt(k:Nat):mg:=⟨⟨55,[(47,5),(67,5),(93,13)],[lI 47 0,lI 47 1,lI 47 2,lD 47 3 .str,lD 47 4 sI,lD 67 0 .str,lI 67 1,lD 67 2 sS,lD 67 3 sS,lI 67 4,lD 93 0 sN,lD 93 1 sA,lD 93 2 sS,lD 93 3 sF,lD 93 6 sI,lD 93 7 sI,lD 93 8 sB,lD 93 9 sE,lD 93 10 sQ,lD 93 11 sL,lD 93 12 sB,rP 0 93,rP 4 67,rD 44 sI,rI 45],[lF 93 4 I,lF 93 5 I,rI 46],[]⟩,[.ex (.exit 0) [lF 93 4 I,lF 93 5 I]],fun q c v=>gq dm.1 k q c.2.2.2.2.2.1 c.2.2.2.2.2.2.1 c.2.2.2.2.2.2.2.1 c.2.2.2.2.2.2.2.2.1 c.2.2.2.2.2.2.2.2.2.1 c.2.2.2.2.2.2.2.2.2.2.1 c.2.2.2.2.2.2.2.2.2.2.2.1 c.2.2.2.2.2.2.2.2.2.2.2.2.1 c.2.2.2.2.2.2.2.2.2.2.2.2.2.1 c.2.2.2.2.2.2.2.2.2.2.2.2.2.2.1 c.2.2.2.2.2.2.2.2.2.2.2.2.2.2.2.1 c.2.2.2.2.2.2.2.2.2.2.2.2.2.2.2.2.1 c.2.2.2.2.2.2.2.2.2.2.2.2.2.2.2.2.2.1 c.2.2.2.2.2.2.2.2.2.2.2.2.2.2.2.2.2.2.1 c.2.2.2.2.2.2.2.2.2.2.2.2.2.2.2.2.2.2.2.1 c.2.2.2.2.2.2.2.2.2.2.2.2.2.2.2.2.2.2.2.2.1 c.2.2.2.2.2.2.2.2.2.2.2.2.2.2.2.2.2.2.2.2.2.2.2.1 c.2.2.2.2.2.2.2.2.2.2.2.2.2.2.2.2.2.2.2.2.2.2.2.2.1 v.1 v.2.1 v.2.2.1⟩
def vW(k:Nat):Ev bz:=⟨[dm.cl,vM k],[lp 0 (tt dm k) k],[(4,67),(6,47)]⟩
def A0(k q:Nat):Cd bz:=nD (vW dm k) f43 0 (tt dm k) q []
def EI(k:Nat):Cl bz:=mX (vW dm k) 43 f43 func43 call43 [] (oa (oe dm.1 k)) [A0 dm k k]
end
theorem ve:∀ k,l8 prog gt 43 (vZ (gh k))
 |0=>dh (fun _ _=>rfl)
 |k + 1=>(EI ⟨_,ve k⟩ k).ok
def ED(k:Nat):Cl bz:=⟨_,_,ve k⟩
def dj(fn:Int)(hG:XI)(kZ:XB)(abR:Bool):Option (Int×XI×XB×Unit):=
 (lq hG ([fn])).bind fun l=>
 (lq kZ ([abR])).bind fun l2=>
 some ((dq ((l.length:Int) - 1)),l,l2,())
def oW:Cl bz:=mX ⟨[],[],[]⟩ 77 f77 func77 call77 [500000] ⟨⟨39,[(97,7),(93,13)],[(.l 97 0,.lit (.mW 93 0)),lI 97 1,lF 97 3 I,lF 97 5 tE,lF 97 6 tQ,lD 93 0 sN,lD 93 1 sA,lD 93 2 sS,lD 93 3 sF,lF 93 4 I,lF 93 5 I,lD 93 6 sI,lD 93 7 sI,lD 93 8 sB,lD 93 9 sE,lD 93 10 sQ,lD 93 11 sL,lD 93 12 sB],[rP 0 97,rD 1 .bool,lF 97 2 I,lF 97 4 .bool],[]⟩,[.ret [rI 500000,lF 97 2 I,lF 97 4 .bool] []],fun c v=>dj c.2.1 v.2.2.1 v.2.2.2.1 v.2.1⟩ []
def dv(gF:XE)(lT to Dm nE arg:Int):Option (XE×Unit):=
 (lq gF ([(lT,to,Dm,nE,arg)])).bind fun l=>
 some (l,())
def pO:Cl bz:=mX ⟨[],[],[]⟩ 79 f79 func79 call79 [] ⟨⟨29,[(97,7),(93,13)],[(.l 97 0,.lit (.mW 93 0)),lI 97 1,lF 97 2 I,lF 97 3 I,lF 97 4 .bool,lF 97 6 tQ,lD 93 0 sN,lD 93 1 sA,lD 93 2 sS,lD 93 3 sF,lF 93 4 I,lF 93 5 I,lD 93 6 sI,lD 93 7 sI,lD 93 8 sB,lD 93 9 sE,lD 93 10 sQ,lD 93 11 sL,lD 93 12 sB],[rP 0 97,rI 1,rI 2,rI 3,rI 4,rI 5,lF 97 5 tE],[]⟩,[.ret [lF 97 5 tE] []],fun c v=>dv v.2.2.2.2.2.2.1 v.2.1 v.2.2.1 v.2.2.2.1 v.2.2.2.2.1 v.2.2.2.2.2.1⟩ []
end
end Go.Fx.R5
namespace Go.Fx.R5
open Go Go.Fx Go.Proofs Go.Proofs.Tryz
noncomputable section
abbrev pN:=Int→XI→XI→XB→XE→XQ→XN→XA→XS→XF→XI→XI→XI→XI→XB→XE→XQ→XL→XB→Int→Int→Int→Int→Option (XI×XB×XE×Unit)
def pI(f:pN):DU:=⟨⟨90,[(97,7),(93,13)],[(.l 97 0,.lit (.mW 93 0)),lI 97 1,lF 97 3 I,lF 97 6 tQ,lD 93 0 sN,lD 93 1 sA,lD 93 2 sS,lD 93 3 sF,lF 93 4 I,lF 93 5 I,lD 93 6 sI,lD 93 7 sI,lD 93 8 sB,lD 93 9 sE,lD 93 10 sQ,lD 93 11 sL,lD 93 12 sB],[rP 0 97,rI 1,rI 2,rI 3,rI 4,lF 97 2 I,lF 97 4 .bool,lF 97 5 tE],[]⟩,[.ret [lF 97 2 I,lF 97 4 .bool,lF 97 5 tE] []],fun c v=>f c.2.1 v.2.2.2.2.2.1 c.2.2.1 v.2.2.2.2.2.2.1 v.2.2.2.2.2.2.2.1 c.2.2.2.1 c.2.2.2.2.1 c.2.2.2.2.2.1 c.2.2.2.2.2.2.1 c.2.2.2.2.2.2.2.1 c.2.2.2.2.2.2.2.2.1 c.2.2.2.2.2.2.2.2.2.1 c.2.2.2.2.2.2.2.2.2.2.1 c.2.2.2.2.2.2.2.2.2.2.2.1 c.2.2.2.2.2.2.2.2.2.2.2.2.1 c.2.2.2.2.2.2.2.2.2.2.2.2.2.1 c.2.2.2.2.2.2.2.2.2.2.2.2.2.2.1 c.2.2.2.2.2.2.2.2.2.2.2.2.2.2.2.1 c.2.2.2.2.2.2.2.2.2.2.2.2.2.2.2.2.1 v.2.1 v.2.2.1 v.2.2.2.1 v.2.2.2.2.1⟩
def yN(f:pN):iX:=mI (pI f).L (pI f).F (AW [] (pI f).V)
def lk(iJ:pN)(k:Nat)(fn:Int)(hG iN:XI)(kZ:XB)(gF:XE)(laid:XQ)(aA:XN)(aH:XA)(ax:XS)(bq:XF)(lY jE kn mv:XI)(pL:XB)(m6:XE)(sH:XQ)(out:XL)(bR:XB)(n p y z:Int):Option (XI×XB×XE×Unit):=
 (bH aA n).bind fun x1=>
 bif x1.1 == 33 then
  (bH x1.2.2.2.2 0).bind fun x2=>
  (iJ fn hG iN kZ gF laid aA aH ax bq lY jE kn mv pL m6 sH out bR x2 p z y).bind fun r1=>
  some (r1.1,r1.2.1,r1.2.2.1,())
 else
  bif x1.1 == 31 then
   (dj fn hG kZ false).bind fun r2=>
   (bH x1.2.2.2.2 0).bind fun x3=>
   (iJ fn r2.2.1 iN r2.2.2.1 gF laid aA aH ax bq lY jE kn mv pL m6 sH out bR x3 p r2.1 z).bind fun r3=>
   (bH x1.2.2.2.2 1).bind fun x4=>
   (iJ fn r3.1 iN r3.2.1 r3.2.2.1 laid aA aH ax bq lY jE kn mv pL m6 sH out bR x4 r2.1 y z).bind fun r4=>
   some (r4.1,r4.2.1,r4.2.2.1,())
  else
   bif x1.1 == 32 then
    (dj fn hG kZ false).bind fun r5=>
    (bH x1.2.2.2.2 0).bind fun x5=>
    (iJ fn r5.2.1 iN r5.2.2.1 gF laid aA aH ax bq lY jE kn mv pL m6 sH out bR x5 p y r5.1).bind fun r6=>
    (bH x1.2.2.2.2 1).bind fun x6=>
    (iJ fn r6.1 iN r6.2.1 r6.2.2.1 laid aA aH ax bq lY jE kn mv pL m6 sH out bR x6 r5.1 y z).bind fun r7=>
    some (r7.1,r7.2.1,r7.2.2.1,())
   else
    (dv gF p y 3 n 1).bind fun r8=>
    (dv r8.1 p z 3 n 0).bind fun r9=>
    some (hG,kZ,r9.1,())
def ir:Nat→pN
 |0=>fun _ _ _ _ _ _ _ _ _ _ _ _ _ _ _ _ _ _ _ _ _ _ _=>none
 |k + 1=>lk (ir k) k
section
variable (iJ:Gd bz 140 yN)
def Hr(k:Nat):Cl bz:=mX ⟨[oW,pO,iJ.cl],[],[(10,47)]⟩ 140 f140 func140 call140 [] (pI (lk iJ.1 k)) []
end
theorem xC:∀ k,l8 prog gt 140 (yN (ir k))
 |0=>dh (fun _ _=>rfl)
 |k + 1=>(Hr ⟨_,xC k⟩ k).ok
def Hd(k:Nat):Cl bz:=⟨_,_,xC k⟩
abbrev ji:=Int→XI→XI→XB→XE→XQ→XN→XA→XS→XF→XI→XI→XI→XI→XB→XE→XQ→XL→XB→Int→Int→Int→Option (XI×XB×XE×XQ×Unit)
def oN(f:ji):DU:=⟨⟨52,[(97,7),(93,13)],[(.l 97 0,.lit (.mW 93 0)),lI 97 1,lF 97 3 I,lD 93 0 sN,lD 93 1 sA,lD 93 2 sS,lD 93 3 sF,lF 93 4 I,lF 93 5 I,lD 93 6 sI,lD 93 7 sI,lD 93 8 sB,lD 93 9 sE,lD 93 10 sQ,lD 93 11 sL,lD 93 12 sB],[rP 0 97,rI 1,rI 2,rI 3,lF 97 2 I,lF 97 4 .bool,lF 97 5 tE,lF 97 6 tQ],[]⟩,[.ret [lF 97 2 I,lF 97 4 .bool,lF 97 5 tE,lF 97 6 tQ] []],fun c v=>f c.2.1 v.2.2.2.2.1 c.2.2.1 v.2.2.2.2.2.1 v.2.2.2.2.2.2.1 v.2.2.2.2.2.2.2.1 c.2.2.2.1 c.2.2.2.2.1 c.2.2.2.2.2.1 c.2.2.2.2.2.2.1 c.2.2.2.2.2.2.2.1 c.2.2.2.2.2.2.2.2.1 c.2.2.2.2.2.2.2.2.2.1 c.2.2.2.2.2.2.2.2.2.2.1 c.2.2.2.2.2.2.2.2.2.2.2.1 c.2.2.2.2.2.2.2.2.2.2.2.2.1 c.2.2.2.2.2.2.2.2.2.2.2.2.2.1 c.2.2.2.2.2.2.2.2.2.2.2.2.2.2.1 c.2.2.2.2.2.2.2.2.2.2.2.2.2.2.2.1 v.2.1 v.2.2.1 v.2.2.2.1⟩
def xl(f:ji):iX:=mI (oN f).L (oN f).F (AW [] (oN f).V)
abbrev gw:=Int→XI→XI→XB→XE→XQ→XN→XA→XS→XF→XI→XI→XI→XI→XB→XE→XQ→XL→XB→Int→Int→Int→Option (XI×XB×XE×XQ×Unit)
def lZ(f:gw):DU:=⟨⟨218,[(97,7),(93,13)],[(.l 97 0,.lit (.mW 93 0)),lI 97 1,lF 97 3 I,lD 93 0 sN,lD 93 1 sA,lD 93 2 sS,lD 93 3 sF,lF 93 4 I,lF 93 5 I,lD 93 6 sI,lD 93 7 sI,lD 93 8 sB,lD 93 9 sE,lD 93 10 sQ,lD 93 11 sL,lD 93 12 sB],[rP 0 97,rI 1,rI 2,rI 3,lF 97 2 I,lF 97 4 .bool,lF 97 5 tE,lF 97 6 tQ],[]⟩,[.ret [lF 97 2 I,lF 97 4 .bool,lF 97 5 tE,lF 97 6 tQ] []],fun c v=>f c.2.1 v.2.2.2.2.1 c.2.2.1 v.2.2.2.2.2.1 v.2.2.2.2.2.2.1 v.2.2.2.2.2.2.2.1 c.2.2.2.1 c.2.2.2.2.1 c.2.2.2.2.2.1 c.2.2.2.2.2.2.1 c.2.2.2.2.2.2.2.1 c.2.2.2.2.2.2.2.2.1 c.2.2.2.2.2.2.2.2.2.1 c.2.2.2.2.2.2.2.2.2.2.1 c.2.2.2.2.2.2.2.2.2.2.2.1 c.2.2.2.2.2.2.2.2.2.2.2.2.1 c.2.2.2.2.2.2.2.2.2.2.2.2.2.1 c.2.2.2.2.2.2.2.2.2.2.2.2.2.2.1 c.2.2.2.2.2.2.2.2.2.2.2.2.2.2.2.1 v.2.1 v.2.2.1 v.2.2.2.1⟩
def tc(f:gw):iX:=mI (lZ f).L (lZ f).F (AW [] (lZ f).V)
def gU(cp:ji)(bV:gw)(q:Nat):Nat→XN→XA→XS→XF→XI→XI→XI→XI→XB→XE→XQ→XL→XB→Int→XI→Int→XI→XI→Int→XI→XB→XE→XQ→Int→Int→Option (XI×XB×XE×XQ×Unit)
 |0,_,_,_,_,_,_,_,_,_,_,_,_,_,_,_,_,_,_,_,_,_,_,_,_,_=>none
 |k + 1,bX,gu,gk,jC,X4,U9,WM,WF,aaD,Lh,aa7,tK,mz,FY,WG,q2,cB,aef,Za,Tf,WH,WE,aa8,p2,Ue=>
  bif decide (Ue < Za) then
   (bH aef Ue).bind fun x2=>
   aa (fun(jv:Int×XI×XB)=>
    (bV FY (jv.2.1) WG (jv.2.2) WE aa8 bX gu gk jC X4 U9 WM WF aaD Lh aa7 tK mz x2 p2 (jv.1)).bind fun r3=>
    gU cp bV q k bX gu gk jC X4 U9 WM WF aaD Lh aa7 tK mz FY WG q2 cB aef Za r3.1 r3.2.1 r3.2.2.1 r3.2.2.2.1 (jv.1) (dq (Ue + 1))) fun cD=>
   bif decide (Ue < (dq ((cB.length:Int) - 1))) then
    (dj FY Tf WH false).bind fun r2=>
    cD (r2.1,r2.2.1,r2.2.2.1)
   else
    cD (q2,Tf,WH)
  else
   some (Tf,WH,WE,aa8,())
def mD(cp:ji)(bV:gw)(k:Nat)(fn:Int)(hG iN:XI)(kZ:XB)(gF:XE)(laid:XQ)(aA:XN)(aH:XA)(ax:XS)(bq:XF)(lY jE kn mv:XI)(pL:XB)(m6:XE)(sH:XQ)(out:XL)(bR:XB)(n p q:Int):Option (XI×XB×XE×XQ×Unit):=
 (bH aA n).bind fun x1=>
 bif (x1.2.2.2.2.length:Int) == 0 then
  (dv gF p q 1 (-1) 0).bind fun r1=>
  some (hG,kZ,r1.1,laid,())
 else
  (gU cp bV k k aA aH ax bq lY jE kn mv pL m6 sH out bR fn iN q x1.2.2.2.2 x1.2.2.2.2 (x1.2.2.2.2.length:Int) hG kZ gF laid p 0).bind fun o=>
  some (o.1,o.2.1,o.2.2.1,o.2.2.2.1,())
def cP(cp:ji)(bV:gw)(k:Nat)(fn:Int)(hG iN:XI)(kZ:XB)(gF:XE)(laid:XQ)(aA:XN)(aH:XA)(ax:XS)(bq:XF)(lY jE kn mv:XI)(pL:XB)(m6:XE)(sH:XQ)(out:XL)(bR:XB)(n p q:Int):Option (XI×XB×XE×XQ×Unit):=
 (bH aA n).bind fun x1=>
 aa (fun(jv:XI×XB×XE×XQ×Int×Int)=>
  (bH (jv.2.2.2.1) n).bind fun x12=>
  (bH (jv.2.2.2.1) (n.toNat:Int)).bind fun x13=>
  some ((jv.1),(jv.2.1),(jv.2.2.1),List.set (jv.2.2.2.1) n.toNat (p,q,(jv.2.2.2.2.1),(jv.2.2.2.2.2)),())) fun jH=>
 bif x1.1 == 14 then
  (dj fn hG kZ false).bind fun r1=>
  aa (fun(jv:XI×XB×Int)=>
   (bH x1.2.2.2.2 0).bind fun x2=>
   (ir k fn (jv.1) iN (jv.2.1) gF laid aA aH ax bq lY jE kn mv pL m6 sH out bR x2 p r1.1 (jv.2.2)).bind fun r3=>
   (bH x1.2.2.2.2 1).bind fun x3=>
   (cp fn r3.1 iN r3.2.1 r3.2.2.1 laid aA aH ax bq lY jE kn mv pL m6 sH out bR x3 r1.1 q).bind fun r4=>
   bif (x1.2.2.2.2.length:Int) == 3 then
    (bH x1.2.2.2.2 2).bind fun x4=>
    (cp fn r4.1 iN r4.2.1 r4.2.2.1 r4.2.2.2.1 aA aH ax bq lY jE kn mv pL m6 sH out bR x4 (jv.2.2) q).bind fun r5=>
    jH (r5.1,r5.2.1,r5.2.2.1,r5.2.2.2.1,r1.1,(jv.2.2))
   else
    jH (r4.1,r4.2.1,r4.2.2.1,r4.2.2.2.1,r1.1,(jv.2.2))) fun cD=>
  bif (x1.2.2.2.2.length:Int) == 3 then
   (dj fn r1.2.1 r1.2.2.1 false).bind fun r2=>
   cD (r2.2.1,r2.2.2.1,r2.1)
  else
   cD (r1.2.1,r1.2.2.1,q)
 else
  bif x1.1 == 15 then
   (dj fn hG kZ true).bind fun r6=>
   (dj fn r6.2.1 r6.2.2.1 false).bind fun r7=>
   (dv gF p r6.1 1 (-1) 0).bind fun r8=>
   (bH x1.2.2.2.2 0).bind fun x5=>
   (ir k fn r7.2.1 iN r7.2.2.1 r8.1 laid aA aH ax bq lY jE kn mv pL m6 sH out bR x5 r6.1 r7.1 q).bind fun r9=>
   (bH x1.2.2.2.2 1).bind fun x6=>
   (cp fn r9.1 iN r9.2.1 r9.2.2.1 laid aA aH ax bq lY jE kn mv pL m6 sH out bR x6 r7.1 r6.1).bind fun mY=>
   jH (mY.1,mY.2.1,mY.2.2.1,mY.2.2.2.1,r7.1,q)
  else
   bif x1.1 == 16 then
    (dj fn hG kZ true).bind fun pT=>
    (dj fn pT.2.1 pT.2.2.1 false).bind fun rh=>
    (dv gF p pT.1 8 n 0).bind fun sM=>
    (dv sM.1 pT.1 rh.1 9 n 1).bind fun sX=>
    (dv sX.1 pT.1 q 9 n 0).bind fun sa=>
    (dj fn rh.2.1 rh.2.2.1 false).bind fun tZ=>
    (bH x1.2.2.2.2 2).bind fun x7=>
    (cp fn tZ.2.1 iN tZ.2.2.1 sa.1 laid aA aH ax bq lY jE kn mv pL m6 sH out bR x7 rh.1 tZ.1).bind fun wL=>
    (dv wL.2.2.1 tZ.1 pT.1 10 n 0).bind fun sO=>
    jH (wL.1,wL.2.1,sO.1,wL.2.2.2.1,rh.1,q)
   else
    bif x1.1 == 19 then
     (dj fn hG kZ false).bind fun sY=>
     (bH x1.2.2.2.2 0).bind fun x8=>
     (ir k fn sY.2.1 iN sY.2.2.1 gF laid aA aH ax bq lY jE kn mv pL m6 sH out bR x8 p q sY.1).bind fun yp=>
     (dv yp.2.2.1 sY.1 sY.1 4 n 0).bind fun AY=>
     jH (yp.1,yp.2.1,AY.1,laid,q,sY.1)
    else
     bif x1.1 == 21 then
      (dv gF p p 6 n 0).bind fun NX=>
      jH (hG,kZ,NX.1,laid,0,0)
     else
      bif x1.1 == 20 then
       (dv gF p p 7 n 0).bind fun Nh=>
       jH (hG,kZ,Nh.1,laid,0,0)
      else
       bif x1.1 == 22 then
        (bH x1.2.2.2.2 0).bind fun x9=>
        (bH jE x9).bind fun x10=>
        (bH jE (x9.toNat:Int)).bind fun x11=>
        (dv gF p q 5 n x11).bind fun Im=>
        jH (hG,kZ,Im.1,laid,0,0)
       else
        (dv gF p q 2 n 0).bind fun r25=>
        jH (hG,kZ,r25.1,laid,0,0)
def jr:Nat→ji×gw
 |0=>(fun _ _ _ _ _ _ _ _ _ _ _ _ _ _ _ _ _ _ _ _ _ _=>none,fun _ _ _ _ _ _ _ _ _ _ _ _ _ _ _ _ _ _ _ _ _ _=>none)
 |k + 1=>(mD (jr k).1 (jr k).2 k,cP (jr k).1 (jr k).2 k)
def jy(k:Nat):ji:=(jr k).1
def gn(k:Nat):gw:=(jr k).2
section
variable (cp:Gd bz 78 xl) (bV:Gd bz 115 tc)
def ui(k:Nat):mg:=⟨⟨52,[(93,13),(97,7)],[lD 93 0 sN,lD 93 1 sA,lD 93 2 sS,lD 93 3 sF,lF 93 4 I,lF 93 5 I,lD 93 6 sI,lD 93 7 sI,lD 93 8 sB,lD 93 9 sE,lD 93 10 sQ,lD 93 11 sL,lD 93 12 sB,(.l 97 0,.lit (.mW 93 0)),lI 97 1,lF 97 3 I,rP 0 97,rI 3,rD 8 sI,rD 30 sI,rI 31],[lF 97 2 I,lF 97 4 .bool,lF 97 5 tE,lF 97 6 tQ,rI 2,rI 32],[]⟩,[.ex (.exit 0) [lF 97 2 I,lF 97 4 .bool,lF 97 5 tE,lF 97 6 tQ]],fun q c v=>gU cp.1 bV.1 k q c.1 c.2.1 c.2.2.1 c.2.2.2.1 c.2.2.2.2.1 c.2.2.2.2.2.1 c.2.2.2.2.2.2.1 c.2.2.2.2.2.2.2.1 c.2.2.2.2.2.2.2.2.1 c.2.2.2.2.2.2.2.2.2.1 c.2.2.2.2.2.2.2.2.2.2.1 c.2.2.2.2.2.2.2.2.2.2.2.1 c.2.2.2.2.2.2.2.2.2.2.2.2.1 c.2.2.2.2.2.2.2.2.2.2.2.2.2.2.1 c.2.2.2.2.2.2.2.2.2.2.2.2.2.2.2.1 c.2.2.2.2.2.2.2.2.2.2.2.2.2.2.2.2.2.1 c.2.2.2.2.2.2.2.2.2.2.2.2.2.2.2.2.2.2.1 c.2.2.2.2.2.2.2.2.2.2.2.2.2.2.2.2.2.2.2.1 c.2.2.2.2.2.2.2.2.2.2.2.2.2.2.2.2.2.2.2.2.1 v.1 v.2.1 v.2.2.1 v.2.2.2.1 v.2.2.2.2.1 v.2.2.2.2.2.1⟩
def wZ(k:Nat):Ev bz:=⟨[oW,pO,bV.cl],[lp 0 (ui cp bV k) k],[]⟩
def Cq(k q:Nat):Cd bz:=nD (wZ cp bV k) f78 0 (ui cp bV k) q []
def F1(k:Nat):Cl bz:=mX (wZ cp bV k) 78 f78 func78 call78 [] (oN (mD cp.1 bV.1 k)) [Cq cp bV k k]
def Bg(k:Nat):Cl bz:=mX ⟨[oW,cp.cl,pO,Hd k],[],[(8,47),(9,167)]⟩ 115 f115 func115 call115 [] (lZ (cP cp.1 bV.1 k)) []
end
theorem om:∀ k,l8 prog gt 78 (xl (jy k))∧l8 prog gt 115 (tc (gn k))
 |0=>⟨dh (fun _ _=>rfl),dh (fun _ _=>rfl)⟩
 |k + 1=>have ih:=om k;⟨(F1 ⟨_,ih.1⟩ ⟨_,ih.2⟩ k).ok,(Bg ⟨_,ih.1⟩ ⟨_,ih.2⟩ k).ok⟩
def FQ(k:Nat):Cl bz:=⟨_,_,(om k).1⟩
def Pv(k:Nat):Cl bz:=⟨_,_,(om k).2⟩
def qZ(k:Nat)(hG iN:XI)(kZ:XB)(gF:XE)(laid:XQ)(aA:XN)(aH:XA)(ax:XS)(bq:XF)(lY jE kn mv:XI)(pL:XB)(m6:XE)(sH:XQ)(out:XL)(bR:XB)(FY:Int):Option (Int×XI×XI×XB×XE×XQ×Unit):=
 (dj FY hG kZ false).bind fun r1=>
 (lq iN ([r1.1])).bind fun l=>
 (dj FY r1.2.1 r1.2.2.1 false).bind fun r2=>
 (bH bq FY).bind fun x1=>
 (jy k FY r2.2.1 l r2.2.2.1 gF laid aA aH ax bq lY jE kn mv pL m6 sH out bR x1.2.2.2.2 r1.1 r2.1).bind fun r3=>
 (dv r3.2.2.1 r2.1 r2.1 6 (-1) 0).bind fun r4=>
 some (FY,r3.1,l,r3.2.1,r4.1,r3.2.2.2.1,())
def Cv(k:Nat):Cl bz:=mX ⟨[oW,FQ k,pO],[],[]⟩ 44 f44 func44 call44 [] ⟨⟨46,[(97,7),(93,13)],[(.l 97 0,.lit (.mW 93 0)),lD 93 0 sN,lD 93 1 sA,lD 93 2 sS,lD 93 3 sF,lF 93 4 I,lF 93 5 I,lD 93 6 sI,lD 93 7 sI,lD 93 8 sB,lD 93 9 sE,lD 93 10 sQ,lD 93 11 sL,lD 93 12 sB],[rP 0 97,rI 1,lI 97 1,lF 97 2 I,lF 97 3 I,lF 97 4 .bool,lF 97 5 tE,lF 97 6 tQ],[]⟩,[.ret [lI 97 1,lF 97 2 I,lF 97 3 I,lF 97 4 .bool,lF 97 5 tE,lF 97 6 tQ] []],fun c v=>qZ k v.2.2.2.1 v.2.2.2.2.1 v.2.2.2.2.2.1 v.2.2.2.2.2.2.1 v.2.2.2.2.2.2.2.1 c.2.1 c.2.2.1 c.2.2.2.1 c.2.2.2.2.1 c.2.2.2.2.2.1 c.2.2.2.2.2.2.1 c.2.2.2.2.2.2.2.1 c.2.2.2.2.2.2.2.2.1 c.2.2.2.2.2.2.2.2.2.1 c.2.2.2.2.2.2.2.2.2.2.1 c.2.2.2.2.2.2.2.2.2.2.2.1 c.2.2.2.2.2.2.2.2.2.2.2.2.1 c.2.2.2.2.2.2.2.2.2.2.2.2.2.1 v.2.1⟩ []
def jw(q:Nat):Nat→XI→XE→Int→XB→Int→Option (XB×Unit)
 |0,_,_,_,_,_=>none
 |k + 1,kn,Wt,aec,E0,acH=>
  bif decide (acH < aec) then
   aa (fun(C3:XB)=>
    jw q k kn Wt aec C3 (dq (acH + 1))) fun cD=>
   (bH Wt acH).bind fun x1=>
   bif x1.2.2.1 == 5 then
    (bH kn x1.1).bind fun x2=>
    bif decide (0≤x2) && decide (x2 < 6) then
     bif decide (0≤x1.2.2.2.2) && decide (x1.2.2.2.2 < 6) then
      (bH E0 (((x2.toNat * 6) + x1.2.2.2.2.toNat * 1):Int)).bind fun x5=>
      cD (List.set E0 ((x2.toNat * 6) + x1.2.2.2.2.toNat * 1) true)
     else
      none
    else
     none
   else
    cD E0
  else
   some (E0,())
def fU(q:Nat):Nat→Int→Int→Int→XB→Int→Option (XB×Unit)
 |0,_,_,_,_,_=>none
 |k + 1,k2,i1,aeg,IJ,QO=>
  bif decide (QO < aeg) then
   aa (fun(abA:XB)=>
    fU q k k2 i1 aeg abA (dq (QO + 1))) fun jH=>
   bif decide (0≤i1) && decide (i1 < 6) then
    bif decide (0≤k2) && decide (k2 < 6) then
     (bH IJ (((i1.toNat * 6) + k2.toNat * 1):Int)).bind fun x3=>
     aa (fun(v:Bool)=>
      bif v then
       bif decide (0≤i1) && decide (i1 < 6) then
        bif decide (0≤QO) && decide (QO < 6) then
         (bH IJ (((i1.toNat * 6) + QO.toNat * 1):Int)).bind fun x9=>
         jH (List.set IJ ((i1.toNat * 6) + QO.toNat * 1) true)
        else
         none
       else
        none
      else
       jH IJ) fun cD=>
     bif x3 then
      bif decide (0≤k2) && decide (k2 < 6) then
       bif decide (0≤QO) && decide (QO < 6) then
        (bH IJ (((k2.toNat * 6) + QO.toNat * 1):Int)).bind fun x6=>
        cD x6
       else
        none
      else
       none
     else
      cD false
    else
     none
   else
    none
  else
   some (IJ,())
def kr(q:Nat):Nat→Int→Int→Int→XB→Int→Option (XB×Unit)
 |0,_,_,_,_,_=>none
 |k + 1,n2,k1,SX,C3,M1=>
  bif decide (M1 < SX) then
   (fU q q k1 M1 n2 C3 0).bind fun o2=>
   kr q k n2 k1 SX o2.1 (dq (M1 + 1))
  else
   some (C3,())
def kq(q:Nat):Nat→Int→Int→XB→Int→Option (XB×Unit)
 |0,_,_,_,_=>none
 |k + 1,n,M0,E0,acK=>
  bif decide (acK < M0) then
   (kr q q n acK n E0 0).bind fun o2=>
   kq q k n M0 o2.1 (dq (acK + 1))
  else
   some (E0,())
def gg(q:Nat):Nat→XB→Int→Int→XB→Int→Option (XB×Unit)
 |0,_,_,_,_,_=>none
 |k + 1,C3,i1,ael,RB,KJ=>
  bif decide (KJ < ael) then
   aa (fun(ac7:XB)=>
    gg q k C3 i1 ael ac7 (dq (KJ + 1))) fun xG=>
   bif decide (0≤KJ) && decide (KJ < 6) then
    bif decide (0≤KJ) && decide (KJ < 6) then
     (bH C3 (((KJ.toNat * 6) + KJ.toNat * 1):Int)).bind fun x3=>
     aa (fun(v2:Bool)=>
      bif v2 then
       (bH RB i1).bind fun x7=>
       (bH RB (i1.toNat:Int)).bind fun x8=>
       xG (List.set RB i1.toNat true)
      else
       xG RB) fun jH=>
     bif x3 then
      aa (fun(v:Bool)=>
       jH v) fun cD=>
      bif i1 == KJ then
       cD true
      else
       bif decide (0≤KJ) && decide (KJ < 6) then
        bif decide (0≤i1) && decide (i1 < 6) then
         (bH C3 (((KJ.toNat * 6) + i1.toNat * 1):Int)).bind fun x6=>
         cD x6
        else
         none
       else
        none
     else
      jH false
    else
     none
   else
    none
  else
   some (RB,())
def kv(q:Nat):Nat→Int→XB→Int→XB→Int→Option (XB×Unit)
 |0,_,_,_,_,_=>none
 |k + 1,n,E0,aek,aaL,acM=>
  bif decide (acM < aek) then
   (gg q q E0 acM n aaL 0).bind fun o3=>
   kv q k n E0 aek o3.1 (dq (acM + 1))
  else
   some (aaL,())
def uM(k:Nat)(bq:XF)(hG:XI)(gF:XE):Option (XB×Unit):=
 (jw k k hG gF (gF.length:Int) (List.replicate 36 false) 0).bind fun o=>
 (kq k k (bq.length:Int) (bq.length:Int) o.1 0).bind fun o2=>
 (mkl (bq.length:Int) (false:Bool)).bind fun z=>
 (sub z 0 (bq.length:Int)).bind fun l=>
 (kv k k (bq.length:Int) o2.1 (bq.length:Int) l 0).bind fun o3=>
 some (o3.1,())
def xL(k:Nat):mg:=⟨⟨110,[(93,13)],[lD 93 0 sN,lD 93 1 sA,lD 93 2 sS,lD 93 3 sF,lF 93 4 I,lF 93 5 I,lD 93 6 sI,lD 93 7 sI,lD 93 8 sB,lD 93 9 sE,lD 93 10 sQ,lD 93 11 sL,lD 93 12 sB,rP 0 93,rI 3,rD 23 sE,rI 24],[(.r 4,.h .arr .bool),rI 25],[]⟩,[.ex (.exit 0) [(.r 4,.h .arr .bool)]],fun q c v=>jw k q c.2.2.2.2.2.2.1 c.2.2.2.2.2.2.2.2.2.2.2.2.2.2.2.1 c.2.2.2.2.2.2.2.2.2.2.2.2.2.2.2.2.1 v.1 v.2.1⟩
def xO(k:Nat):mg:=⟨⟨110,[(93,13)],[lD 93 0 sN,lD 93 1 sA,lD 93 2 sS,lD 93 3 sF,lF 93 4 I,lF 93 5 I,lD 93 6 sI,lD 93 7 sI,lD 93 8 sB,lD 93 9 sE,lD 93 10 sQ,lD 93 11 sL,lD 93 12 sB,rI 3,rI 7,rI 8,rI 46,rI 47,rI 50,rI 51,rI 54],[(.r 4,.h .arr .bool),rI 55],[]⟩,[.ex (.exit 6) [(.r 4,.h .arr .bool)]],fun q c v=>fU k q c.2.2.2.2.2.2.2.2.2.2.2.2.2.2.1 c.2.2.2.2.2.2.2.2.2.2.2.2.2.2.2.1 c.2.2.2.2.2.2.2.2.2.2.2.2.2.2.2.2.2.2.2.2.1 v.1 v.2.1⟩
def xN(k:Nat):mg:=⟨⟨110,[(93,13)],[lD 93 0 sN,lD 93 1 sA,lD 93 2 sS,lD 93 3 sF,lF 93 4 I,lF 93 5 I,lD 93 6 sI,lD 93 7 sI,lD 93 8 sB,lD 93 9 sE,lD 93 10 sQ,lD 93 11 sL,lD 93 12 sB,rI 3,rI 7,rI 46,rI 47,rI 50],[(.r 4,.h .arr .bool),rI 51],[]⟩,[.ex (.exit 4) [(.r 4,.h .arr .bool)]],fun q c v=>kr k q c.2.2.2.2.2.2.2.2.2.2.2.2.2.1 c.2.2.2.2.2.2.2.2.2.2.2.2.2.2.1 c.2.2.2.2.2.2.2.2.2.2.2.2.2.2.2.2.2.1 v.1 v.2.1⟩
def xM(k:Nat):mg:=⟨⟨110,[(93,13)],[lD 93 0 sN,lD 93 1 sA,lD 93 2 sS,lD 93 3 sF,lF 93 4 I,lF 93 5 I,lD 93 6 sI,lD 93 7 sI,lD 93 8 sB,lD 93 9 sE,lD 93 10 sQ,lD 93 11 sL,lD 93 12 sB,rI 3,rI 46],[(.r 4,.h .arr .bool),rI 47],[]⟩,[.ex (.exit 2) [(.r 4,.h .arr .bool)]],fun q c v=>kq k q c.2.2.2.2.2.2.2.2.2.2.2.2.2.1 c.2.2.2.2.2.2.2.2.2.2.2.2.2.2.1 v.1 v.2.1⟩
def wd(k:Nat):mg:=⟨⟨110,[(93,13)],[lD 93 0 sN,lD 93 1 sA,lD 93 2 sS,lD 93 3 sF,lF 93 4 I,lF 93 5 I,lD 93 6 sI,lD 93 7 sI,lD 93 8 sB,lD 93 9 sE,lD 93 10 sQ,lD 93 11 sL,lD 93 12 sB,rI 3,(.r 4,.h .arr .bool),rI 11,rI 79,rI 80,rI 83],[(.r 10,.h .dE .bool),rI 84],[]⟩,[.ex (.exit 10) [(.r 10,.h .dE .bool)]],fun q c v=>gg k q c.2.2.2.2.2.2.2.2.2.2.2.2.2.2.1 c.2.2.2.2.2.2.2.2.2.2.2.2.2.2.2.1 c.2.2.2.2.2.2.2.2.2.2.2.2.2.2.2.2.2.2.1 v.1 v.2.1⟩
def xP(k:Nat):mg:=⟨⟨110,[(93,13)],[lD 93 0 sN,lD 93 1 sA,lD 93 2 sS,lD 93 3 sF,lF 93 4 I,lF 93 5 I,lD 93 6 sI,lD 93 7 sI,lD 93 8 sB,lD 93 9 sE,lD 93 10 sQ,lD 93 11 sL,lD 93 12 sB,rI 3,(.r 4,.h .arr .bool),rI 79],[(.r 10,.h .dE .bool),rI 80],[]⟩,[.ex (.exit 8) [(.r 10,.h .dE .bool)]],fun q c v=>kv k q c.2.2.2.2.2.2.2.2.2.2.2.2.2.1 c.2.2.2.2.2.2.2.2.2.2.2.2.2.2.1 c.2.2.2.2.2.2.2.2.2.2.2.2.2.2.2.1 v.1 v.2.1⟩
def lm(k:Nat):Ev bz:=⟨[],[lp 0 (xL k) k,lp 6 (xO k) k,lp 4 (xN k) k,lp 2 (xM k) k,lp 10 (wd k) k,lp 8 (xP k) k],[(4,9999)]⟩
def Fm(k q:Nat):Cd bz:=nD (lm k) f45 0 (xL k) q []
def Fq(k q:Nat):Cd bz:=nD (lm k) f45 6 (xO k) q []
def Fp(k q:Nat):Cd bz:=nD (lm k) f45 4 (xN k) q [Fq k k]
def Fo(k q:Nat):Cd bz:=nD (lm k) f45 2 (xM k) q [Fp k k]
def Ep(k q:Nat):Cd bz:=nD (lm k) f45 10 (wd k) q []
def Fr(k q:Nat):Cd bz:=nD (lm k) f45 8 (xP k) q [Ep k k]
def J2(k:Nat):Cl bz:=mX (lm k) 45 f45 func45 call45 [500000] ⟨⟨110,[(93,13)],[lD 93 0 sN,lD 93 1 sA,lD 93 2 sS,lD 93 3 sF,lF 93 4 I,lF 93 5 I,lD 93 6 sI,lD 93 7 sI,lD 93 8 sB,lD 93 9 sE,lD 93 10 sQ,lD 93 11 sL,lD 93 12 sB],[rP 0 93],[]⟩,[.ret [(.r 500000,.h .dE .bool)] []],fun c v=>uM k c.2.2.2.1 c.2.2.2.2.2.2.1 c.2.2.2.2.2.2.2.2.2.1⟩ [Fm k k,Fo k k,Fr k k]
end
end Go.Fx.R5
namespace Go.Fx.R5
open Go Go.Fx Go.Proofs Go.Proofs.Tryz
noncomputable section
def sqA:Code→Code | .seq a _=>a | c=>c
def sqB:Code→Code | .seq _ b=>b | c=>c
noncomputable def q0:Code:=qV f41
noncomputable def q1:Code:=sqB q0
noncomputable def q2:Code:=sqB q1
noncomputable def q3:Code:=sqB q2
noncomputable def q4:Code:=sqB q3
noncomputable def q5:Code:=sqB q4
def CN(k:Nat):Ev bz:=⟨[IC k,Cx k],[],[(2,9002),(3,9003),(19,126)]⟩
abbrev ptR:List Ty:=[.slice (.cY I (.cY I (.cY I (.cY .str (.slice I))))),.cY I I]
def UO(o:Nat):Option ae→Bool
 |some (.one (.mW p z))=>Nat.beq p o && Nat.beq z 0
 |_=>false
def RO(n:Nat):Option (List ag)→Bool
 |some l=>Nat.beq l.length n
 |none=>false
def Ve(st:St):Bool:=(st.ii 20).isNone && Nat.beq st.n 28 && UO 9002 (st.ii 2) && UO 9003 (st.ii 3) && RO 1 (st.dM 9002) && RO 2 (st.dM 9003)
def ptP(av:ae)(st:St):Option (DL ptR):=
 match av with
 |.zC T ls=>bif Nat.beq T 128 && RO 1 (st.dM 9002) && RO 2 (st.dM 9003) then(Oq [I,I] ls).map fun d=>([],(d.1,d.2.1),()) else none
 |_=>none
noncomputable def Wl(k:Nat)(e:Exit)(st:St):Option (DL ptR):=match e with
 |.normal=>so (CN k).e (sqB q5) st (kD (CN k).e f41.results.toList ptR) (fun _ _=>none)
 |_=>none
noncomputable def afq(k:Nat)(e:Exit)(st:St):Option (DL ptR):=match e with
 |.normal=>bif Ve st then so (CN k).e (sqA q5) st (Wl k) ptP else none
 |_=>none
noncomputable def afp(k:Nat)(e:Exit)(st:St):Option (DL ptR):=match e with
 |.normal=>so (CN k).e (sqA q3) st (afq k) (fun _ _=>none)
 |.ret=>NY (CN k).e f41.results.toList ptR st
 |_=>none
noncomputable def afo(k:Nat)(e:Exit)(st:St):Option (DL ptR):=match e with
 |.normal=>so (CN k).e (sqA q2) st (afp k) (fun _ _=>none)
 |_=>none
noncomputable def afn(k:Nat)(e:Exit)(st:St):Option (DL ptR):=match e with
 |.normal=>so (CN k).e (sqA q1) st (afo k) (fun _ _=>none)
 |_=>none
def pf(k:Nat)(s:an):Option (List (Int×Int×Int×an×List Int)×(Int×Int)×Unit):=
 (mB k s).bind fun r=>bif r.2.1.1 != 0 then some ([],r.2.1,()) else
 (od k r.1 (s.length:Int) 0 0 []).bind fun r=>match r with
 |.inl o=>some (o.2.2.1,(0,0),())
 |.inr p=>some ([],(p.1,p.2.1),())
def JO(k:Nat):iX:=AP [.str] ptR (fun d=>pf k d.1) id
theorem ac8(k:Nat)(d:DL [.str]):pf k d.1=so (CN k).e (sqA q0) (stD 28 [.str] d) (afn k) (fun _ _=>none):=by kernel_rfl
def aci:Oper:={dst:=some 20,op:=.makeFunc (.func 70) #[] #[.tmp 2,.tmp 3],type:=1,pos:= "l3_parse.go:79",after:=#[],guard:=none}
def abF:Oper:={dst:=none,op:=.defer {callee:=.value (.tmp 20),args:=#[],argTypes:=#[]},type:=0,pos:= "l3_parse.go:79",after:=#[{on:=0,ground:=.data}],guard:=none}
def Sb:Oper:={dst:=some 21,op:=.move (.tmp 5),type:=124,pos:= "l3_parse.go:84",after:=#[],guard:=none}
def Rw:Oper:={dst:=some 22,op:=.call {callee:=.value (.func 71),args:=#[.tmp 21],argTypes:=#[124]},type:=0,pos:= "l3_parse.go:84",after:=#[{on:=0,ground:=.data}],guard:=none}
theorem Z9:f41.body=some (.seq (sqA q0) (.seq (sqA q1) (.seq (sqA q2) (.seq (sqA q3) (.seq (.region 5 #[aci,abF] false) (.seq (sqA q5) (sqB q5))))))):=by kernel_rfl
theorem aaa:sqA q5 = .region 6 #[Sb,Rw] false:=by kernel_rfl
theorem RY{o:Nat}{x:Option ae}(h:UO o x=true):x=some (.one (.mW o 0)):=by
 unfold UO at h;split at h
 ·simp only [Bool.and_eq_true] at h
  rw [Nat.eq_of_beq_eq_true h.1,Nat.eq_of_beq_eq_true h.2]
 ·cases h
theorem KR{n:Nat}{x:Option (List ag)}(h:RO n x=true):∃ l,x=some l∧l.length=n:=by
 unfold RO at h;split at h
 ·exact⟨_,rfl,Nat.eq_of_beq_eq_true h⟩
 ·cases h
theorem W8{Q:Exit→Act→World→Prop}{act:Act}{w:World}(hn:act.tmps.size=28)(h:Q .normal {tmps:=act.tmps.setIfInBounds 20 (.func (.func 70) #[] #[act.tmps.getD 2 undef,act.tmps.getD 3 undef]),defers:=⟨.fn (.func 70) #[act.tmps.getD 2 undef,act.tmps.getD 3 undef],#[]⟩ :: act.defers} w):
  (Code.region 5 #[aci,abF] false).wp prog Q act w:=by
 refine wp_region_list ?_;have hmf:∀(fn:Fn) (first cap:Array Value) (w:World),(Instr.makeFunc fn first cap).run prog w = .ok (.func fn first cap) w:=fun _ _ _ _=>rfl
 simp [wpList,aci,abF,go_sem,hmf,hn];refine .inl (.inl ?_);simpa [hn] using h
def Lj(b2 o2 b3 o3:Nat)(act:Act):Prop:=
 act.tmps.size=28∧act.tmps.getD 2 undef = .pointer (some ⟨b2,o2,none⟩)∧act.tmps.getD 3 undef = .pointer (some ⟨b3,o3,none⟩)∧act.defers = [⟨.fn (.func 70) #[.pointer (some ⟨b2,o2,none⟩),.pointer (some ⟨b3,o3,none⟩)],#[]⟩]
theorem Lj.put{b2 o2 b3 o3:Nat}{act:Act}(h:Lj b2 o2 b3 o3 act){d:Tmp}(hd:¬ d=2∧¬ d=3)(v:Value):Lj b2 o2 b3 o3 (act.put (some d) v):=by
 obtain⟨h1,h2,h3,h4⟩:=h;refine⟨by simp [Act.put,h1],?_,?_,h4⟩
 ·rw [←h2];simp only [Act.put,Array.getD_eq_getD_getElem?];rw [Array.getElem?_setIfInBounds_ne hd.1]
 ·rw [←h3];simp only [Act.put,Array.getD_eq_getD_getElem?];rw [Array.getElem?_setIfInBounds_ne hd.2]
theorem LE{w:World}{b o:Nat}{arr:Array Value}{elem:TypeId}(h:w.heap[b]? = some (.cells arr elem (0,0)))(hl:o < arr.size):(∃ x,w.cell? ⟨b,o,none⟩=some x)∧w.frozen? ⟨b,o,none⟩=false:=by
 refine⟨⟨arr[o],?_⟩,?_⟩
 ·simp [World.cell?,h,hl]
 ·simp [World.frozen?,h]
theorem aab(k:Nat){b2 o2 b3 o3:Nat}{X:mt}(hg:m9 gt X.S0){st:St}{G:Gh}{w:World}{act:Act}{y:DL ptR}{Q:Exit→Act→World→Prop}(h:so (CN k).e (sqA q5) st (Wl k) ptP=some y)(hm:aB X st G w)(hr:bL G st act)(ha:Lj b2 o2 b3 o3 act)
  (hK:∀ st G w act,aB X st G w→bL G st act→Lj b2 o2 b3 o3 act→Wl k .normal st=some y→Q .normal act w)
  (hP:∀ av v st G w act,aB X st G w→Lj b2 o2 b3 o3 act→aU G av v→ptP av st=some y→Q (.panic [{v,recovered:=false}]) act w):(sqA q5).wp prog Q act w:=by
 have hE:=(CN k).ok;rw [aaa] at h ⊢;refine wp_region_list ?_;have h:lS (CN k).e Sb st (fun v st'=>oH Sb.dst v st' fun s=>lS (CN k).e Rw s (fun v st'=>oH Rw.dst v st' fun s=>Wl k .normal s) ptP) ptP=some y:=h;have w1:Region.wanted Sb (yielded #[Sb,Rw] act.tmps)=true:=rfl;show(if Region.wanted Sb (yielded #[Sb,Rw] act.tmps)=true then _ else _)
 rw [if_pos w1];refine .inl (Hm hE.iw hE.AO h hg hm hr (fun av v st' G' w' m' r' v' k'=>?_) (fun av v st' G' w' m' v' k'=>hP av v st' G' w' act m' ha v' k'));obtain⟨s,m2,r2,k2⟩:=K7 k' m' r' v';have ha1:=ha.put (d:=21) (by decide) v
 show(if Region.wanted Rw (yielded #[Sb,Rw] (act.put (some 21) v).tmps)=true then _ else _)
 rw [if_pos (show Region.wanted Rw _=true from rfl)]
 refine .inl (Hm hE.iw hE.AO k2 hg m2 r2 (fun av v2 st' G' w' m' r' v' k'=>?_) (fun av v2 st' G' w' m' v' k'=>hP av v2 st' G' w' _ m' ha1 v' k'));obtain⟨s,m3,r3,k3⟩:=K7 k' m' r' v';exact hK _ _ _ _ m3 r3 (ha1.put (d:=22) (by decide) v2) k3
open Go.RowKit (Below)
def YF(b2 b3:Nat)(NV po2 Fe po3:List Value)(o:Nat):Option (Nat×List Value×List Value):=
 if o=9002 then some (b2,NV,po2) else if o=9003 then some (b3,Fe,po3) else none
theorem Z7{b2 b3:Nat}{NV po2 Fe po3:List Value}(o:Nat)(q:Nat×List Value×List Value)(h:YF b2 b3 NV po2 Fe po3 o=some q):o < 10000:=by
 unfold YF at h;split at h
 ·omega
 ·split at h
  ·omega
  ·cases h
theorem sco{w:World}{a b:Addr}{v:Value}(h:a.block≠b.block∨a.off≠b.off):(w.setCell a v).cell? b=w.cell? b:=World.cell?_setCell_other _ _ _ _ (fun e=>by subst e;simp at h)
theorem aac{X:mt}{b2 b3:Nat}{NV po2 Fe po3:List Value}(V1:∀ o q,YF b2 b3 NV po2 Fe po3 o=some q→X.pin o=some q){st:St}{G:Gh}{w:World}{act:Act}{av:ae}{v:Value}{y:DL ptR}(js:∀ b,¬ X.Wg b)(hm:aB X st G w)(ha:Lj b2 NV.length b3 Fe.length act)(hv:aU G av v)(hk:ptP av st=some y)
  {R:Ending→World→Prop} (hR:∀ c a w',y=([],(c,a),())→Below X.w0.heap.size w w'→R (.returned (.tuple #[.slice none 0 0,.agg #[.int .i64 c,.int .i64 a]])) w'):Leaves prog f41 act.tmps R act.defers (.panicking [{v,recovered:=false}]) w:=by
 obtain⟨h1,h2,h3,h4⟩:=ha;have p2:=hm.pin 9002 _ (V1 9002 _ rfl);have p3:=hm.pin 9003 _ (V1 9003 _ rfl);obtain⟨⟨l2,e2⟩,e2'⟩:=p2;obtain⟨⟨l3,e3⟩,e3'⟩:=p3;simp only [Prod.mk.injEq] at e2' e3';unfold ptP at hk;split at hk
 ·rename_i T ls
  cases hc:(Nat.beq T 128 && RO 1 (st.dM 9002) && RO 2 (st.dM 9003)) with
  |false=>rw [hc] at hk;cases hk
  |true=>
   rw [hc] at hk;simp only [Bool.and_eq_true] at hc;obtain⟨⟨c1,c2⟩,c3⟩:=hc;obtain rfl:=Nat.eq_of_beq_eq_true c1;obtain⟨l2',c2,n2⟩:=KR c2;obtain⟨l3',c3,n3⟩:=KR c3;obtain⟨d,hd,rfl⟩:=Option.map_eq_some_iff.1 hk;obtain⟨g1,g2⟩:=Hu hd;obtain⟨c,a,u⟩:=d;subst g2;obtain⟨u,cs,rfl,hu,Ga⟩:=hv;have ZO:u = .agg #[.int .i64 c,.int .i64 a]:=by
    match cs,Ga,hu with
    |[x,z],⟨hx,hz,_⟩,hu=>
     have hx:=(AR (t:=I) rfl).1 hx;have hz:=(AR (t:=I) rfl).1 hz;subst hx hz;cases u with
     |agg A=>exact congrArg Value.agg (Array.toList_inj.1 hu)
     |_=>exact absurd (congrArg List.length hu) (by simp [Value.cells])
   subst ZO;obtain⟨WS,el2,m2,o1,o2,o3⟩:=hm.ob 9002 _ c2;obtain⟨ac1,el3,m3,q1,q2,q3⟩:=hm.ob 9003 _ c3;have lm2:m2.length=1:=by have:=All2.length o3;rw [iK] at this;omega
   have lm3:m3.length=2:=by have:=All2.length q3;rw [iK] at this;omega
   have B2:b2=G.φ 9002:=e2'.1;have B3:b3=G.φ 9003:=e3'.1;have P2:NV=G.pre 9002:=e2'.2.1;have P3:Fe=G.pre 9003:=e3'.2.1;rw [←B2] at o1;rw [←B3] at q1;rw [←P2] at o2;rw [←P3] at q2;have s2:NV.length + 1≤WS.size:=by have:=congrArg List.length o2;simp only [Array.length_toList,List.length_append] at this;omega
   have s3:Fe.length + 2≤ac1.size:=by have:=congrArg List.length q2;simp only [Array.length_toList,List.length_append] at this;omega
   obtain⟨⟨x2,f2⟩,z2⟩:=LE (o:=NV.length) o1 (by omega)
   obtain⟨⟨x3,f3⟩,z3⟩:=LE (o:=Fe.length) q1 (by omega)
   obtain⟨⟨x4,f4⟩,z4⟩:=LE (o:=Fe.length + 1) q1 (by omega)
   have ow2:eW G st (false,9002) b2:=⟨⟨_,c2⟩,B2⟩;have ow3:eW G st (false,9003) b3:=⟨⟨_,c3⟩,B3⟩;have hb:b2≠b3:=fun e=>by subst e;have:=hm.pX _ _ _ ow2 ow3;simp at this
   have k2:=(hm.s6 _ _ ow2).resolve_left (js _);have k3:=(hm.s6 _ _ ow3).resolve_left (js _);have lt2:=fW o1;have lt3:=fW q1;rw [h4];refine leaves_cons (f:=70) (args:=#[.pointer (some ⟨b2,NV.length,none⟩),.pointer (some ⟨b3,Fe.length,none⟩)]) (by simp) (by simp [go_sem,invoke,call70]) ?_
   refine(Kg b2 NV.length b3 Fe.length c a x2 x3 x4 [] w hb lt2 lt3 f2 z2 f3 z3 f4 z4).mono ?_;rintro e u' w'' ⟨rfl,rfl,rfl⟩;have bel:Below X.w0.heap.size w ((((w.alloc (.cells #[.int .i64 c,.int .i64 a] 128)).setCell ⟨b2,NV.length,none⟩ (.slice none 0 0)).setCell ⟨b3,Fe.length,none⟩ (.int .i64 c)).setCell ⟨b3,Fe.length + 1,none⟩ (.int .i64 a)).drew:=
    (((((Below.refl _ w).alloc hm.sz _).setCell k2 _).setCell k3 _).setCell k3 _).drew
   have hb':b3≠b2:=fun e=>hb e.symm;have g2:((((w.alloc (.cells #[.int .i64 c,.int .i64 a] 128)).setCell ⟨b2,NV.length,none⟩ (.slice none 0 0)).setCell ⟨b3,Fe.length,none⟩ (.int .i64 c)).setCell ⟨b3,Fe.length + 1,none⟩ (.int .i64 a)).drew.cell? ⟨b2,NV.length,none⟩=some (.slice none 0 0):=by show((((w.alloc (.cells #[.int .i64 c,.int .i64 a] 128)).setCell ⟨b2,NV.length,none⟩ (.slice none 0 0)).setCell ⟨b3,Fe.length,none⟩ (.int .i64 c)).setCell ⟨b3,Fe.length + 1,none⟩ (.int .i64 a)).cell? ⟨b2,NV.length,none⟩=_;exact(sco (.inl hb')).trans ((sco (.inl hb')).trans (World.cell?_setCell_same _ _ _ ((World.cell?_alloc_past _ _ _ lt2).trans f2)))
   have g3:((((w.alloc (.cells #[.int .i64 c,.int .i64 a] 128)).setCell ⟨b2,NV.length,none⟩ (.slice none 0 0)).setCell ⟨b3,Fe.length,none⟩ (.int .i64 c)).setCell ⟨b3,Fe.length + 1,none⟩ (.int .i64 a)).drew.cell? ⟨b3,Fe.length,none⟩=some (.int .i64 c):=by show((((w.alloc (.cells #[.int .i64 c,.int .i64 a] 128)).setCell ⟨b2,NV.length,none⟩ (.slice none 0 0)).setCell ⟨b3,Fe.length,none⟩ (.int .i64 c)).setCell ⟨b3,Fe.length + 1,none⟩ (.int .i64 a)).cell? ⟨b3,Fe.length,none⟩=_;exact(sco (.inr (Nat.succ_ne_self _))).trans (World.cell?_setCell_same _ _ _ ((sco (.inl hb)).trans ((World.cell?_alloc_past _ _ _ lt3).trans f3)))
   have g4:((((w.alloc (.cells #[.int .i64 c,.int .i64 a] 128)).setCell ⟨b2,NV.length,none⟩ (.slice none 0 0)).setCell ⟨b3,Fe.length,none⟩ (.int .i64 c)).setCell ⟨b3,Fe.length + 1,none⟩ (.int .i64 a)).drew.cell? ⟨b3,Fe.length + 1,none⟩=some (.int .i64 a):=by show((((w.alloc (.cells #[.int .i64 c,.int .i64 a] 128)).setCell ⟨b2,NV.length,none⟩ (.slice none 0 0)).setCell ⟨b3,Fe.length,none⟩ (.int .i64 c)).setCell ⟨b3,Fe.length + 1,none⟩ (.int .i64 a)).cell? ⟨b3,Fe.length + 1,none⟩=_;exact World.cell?_setCell_same _ _ _ ((sco (.inr (Nat.succ_ne_self _).symm)).trans ((sco (.inl hb)).trans ((World.cell?_alloc_past _ _ _ lt3).trans f4)))
   generalize ((((w.alloc (.cells #[.int .i64 c,.int .i64 a] 128)).setCell ⟨b2,NV.length,none⟩ (.slice none 0 0)).setCell ⟨b3,Fe.length,none⟩ (.int .i64 c)).setCell ⟨b3,Fe.length + 1,none⟩ (.int .i64 a)).drew=W at *;refine⟨_,?_,hR c a W rfl bel⟩;rw [Array.getD_eq_getD_getElem?] at h2 h3;simp [results,results41,go_sem,h2,h3,g2,g3,g4]
 ·cases hk
theorem RM(k:Nat):l8 prog gt 41 (JO k):=by
 refine⟨?_,AQ _ _ _ _,wW _ _ _ _⟩;have hE:=(CN k).ok;intro R r X st G w dst args vs K KP hr yH hm _ ha;simp only [JO,AP] at hr;split at hr
 ·rename_i vU hs
  split at hr
  ·rename_i d hd
   obtain⟨y,hx,hr⟩:=Option.bind_eq_some_iff.1 hr;obtain⟨G1,m1,a1,k1⟩:=yw hs hm;have AX:m9 gt (Rz G1.S w).S0:=yH.mono m1.s0;have hdr:=Dc m1 hd (ha.imp fun a v h=>h.sub a1);rw [ac8] at hx;refine⟨call41 _ _,calls_of_wp_defers func41 Z9 ?_⟩;have sw:∀{s:St} {G3:Gh} {w3:World} {act:Act},aB (Rz G1.S w) s G3 w3→bL G3 s act→NY (CN k).e f41.results.toList ptR s=some y→∃ v,(results f41 act.tmps).run prog w3 = .ok v w3∧∃ av st' G',aB X st' G' w3∧(∀ act,bL G st act→bL G' st' act)∧aU G' av v∧K av st' = some r:=
    fun m3 r3 I1=>SJ hE hm m1 a1 k1 hr m3 r3 I1
   refine wp_seq (zg hE AX (sqA q0) (vd (l:=[]) (by kernel_rfl) trivial) hx (T9 m1.sh _ _ _) (LM hdr (n:=28) (Nat.le_of_ble_eq_true rfl)) (fun e s G2 w2 Rg m2 r2 k2=>?_) (fun av v s G3 w' act m3 r3 hv hk=>by cases hk))
   cases e with
   |normal=>
    refine wp_seq (zg hE AX (sqA q1) (vd (l:=[]) (by kernel_rfl) trivial) k2 m2 r2 (fun e s G2 w2 Rg m2 r2 k2=>?_) (fun av v s G3 w' act m3 r3 hv hk=>by cases hk))
    cases e with
    |normal=>
     refine wp_seq (zg hE AX (sqA q2) (vd (l:=[]) (by kernel_rfl) trivial) k2 m2 r2 (fun e s G2 w2 Rg m2 r2 k2=>?_) (fun av v s G3 w' act m3 r3 hv hk=>by cases hk))
     cases e with
     |ret=>show Leaves _ _ Rg.tmps _ Rg.defers .returning w2;rw [r2.1.trans m2.ds];exact sw m2 r2 k2
     |normal=>
      refine wp_seq (zg hE AX (sqA q3) (vd (l:=[]) (by kernel_rfl) trivial) k2 m2 r2 (fun e s G2 w2 Rg m2 r2 k2=>?_) (fun av v s G3 w' act m3 r3 hv hk=>by cases hk))
      cases e with
      |normal=>
       have k2:(bif Ve s then so (CN k).e (sqA q5) s (Wl k) ptP else none)=some y:=k2
       cases hc:Ve s with
       |false=>rw [hc] at k2;cases k2
       |true=>
        rw [hc] at k2;have k2:so (CN k).e (sqA q5) s (Wl k) ptP=some y:=k2;simp only [Ve,Bool.and_eq_true] at hc;obtain⟨⟨⟨⟨⟨c20,cn⟩,c2⟩,c3⟩,d2⟩,d3⟩:=hc;have cn:=Nat.eq_of_beq_eq_true cn;obtain⟨l2,d2,_⟩:=KR d2;obtain⟨l3,d3,_⟩:=KR d3;have p2:Rg.tmps.getD 2 undef = .pointer (some ⟨G2.φ 9002,(G2.pre 9002).length,none⟩):=r2.2.2 2 _ (RY c2);have p3:Rg.tmps.getD 3 undef = .pointer (some ⟨G2.φ 9003,(G2.pre 9003).length,none⟩):=r2.2.2 3 _ (RY c3);have mA:Rg.tmps.size=28:=r2.2.1.trans cn;refine wp_seq (W8 mA ?_);rw [p2,p3,r2.1.trans m2.ds];have m4:=m2.YU [⟨.fn (.func 70) #[.pointer (some ⟨G2.φ 9002,(G2.pre 9002).length,none⟩),.pointer (some ⟨G2.φ 9003,(G2.pre 9003).length,none⟩)],#[]⟩] (YF (G2.φ 9002) (G2.φ 9003) (G2.pre 9002) (G2.post 9002) (G2.pre 9003) (G2.post 9003)) Z7 (fun o q hq=>by
         unfold YF at hq;split at hq
         ·rename_i e;subst e;cases hq;exact⟨⟨_,d2⟩,rfl⟩
         ·split at hq
          ·rename_i e;subst e;cases hq;exact⟨⟨_,d3⟩,rfl⟩
          ·cases hq)
        have afj:∀ i v,s.ii i=some v→¬ 20=i:=fun i v hv e=>by subst e;rw [hv] at c20;cases c20
        refine wp_seq (aab k (b2:=G2.φ 9002) (o2:=(G2.pre 9002).length) (b3:=G2.φ 9003) (o3:=(G2.pre 9003).length) (by exact AX) k2 m4 ⟨rfl,by simpa using r2.2.1,fun i v hv=>?_⟩ ⟨by simpa using mA,?_,?_,rfl⟩ (fun s5 G5 w5 aeD m5 r5 pa5 k5=>?_) (fun av v s5 G5 w5 aeD m5 pa5 hv k5=>?_))
        ·simp only [Array.getD_eq_getD_getElem?]
         rw [Array.getElem?_setIfInBounds_ne (afj i v hv)];exact Gh.acS (by have:=r2.2.2 i v hv;rwa [Array.getD_eq_getD_getElem?] at this)
        ·rw [←p2];simp only [Array.getD_eq_getD_getElem?];rw [Array.getElem?_setIfInBounds_ne (by decide)]
        ·rw [←p3];simp only [Array.getD_eq_getD_getElem?];rw [Array.getElem?_setIfInBounds_ne (by decide)]
        ·refine zg hE (by exact AX) (sqB q5) (vd (l:=[]) (by kernel_rfl) trivial) k5 m5 r5 (fun e s7 G7 w7 abs m7 r7 k7=>?_) (fun av v s G3 w' act m3 r3 hv hk=>by cases hk)
         have done:NY (CN k).e f41.results.toList ptR s7=some y→Leaves prog f41 abs.tmps (fun e w'=>match e with
           |.returned v=>∃ av st' G',aB X st' G' w'∧(∀ act,bL G st act→bL G' st' act)∧aU G' av v∧K av st' = some r
           |.panicked Hh=>∃ v,Hh = [{v,recovered:=false}]∧∃ av st' G',aB X st' G' w'∧aU G' av v∧KP av st' = some r
           |.outgrown=>False) abs.defers .returning w7:=fun k7=>by
          rw [r7.1.trans m7.ds];refine leaves_cons (f:=70) (args:=#[.pointer (some ⟨G2.φ 9002,(G2.pre 9002).length,none⟩),.pointer (some ⟨G2.φ 9003,(G2.pre 9003).length,none⟩)]) (by simp) (by simp [go_sem,invoke,call70]) ((Tp _ _ w7).mono ?_)
          rintro e u' w' ⟨rfl,rfl,rfl⟩;have bel:=(Below.refl w7.heap.size w7).alloc (Nat.le_refl _) (.cells #[.int .i64 0,.int .i64 0] 128);have m8:=(m7.abN bel.block bel.size bel.os bel.tape bel.output).YU [] (fun _=>none) (fun _ _ h=>by cases h) (fun _ _ h=>by cases h)
          exact sw (act:={abs with defers:=[]}) m8 ⟨rfl,r7.2.1,fun i v h=>Gh.acS (r7.2.2 i v h)⟩ k7
         cases e with
         |normal=>exact done k7
         |ret=>exact done k7
         |_=>cases k7
        ·refine aac (po2:=G2.post 9002) (po3:=G2.post 9003) (fun o q h=>h) (fun b h=>h) m5 pa5 hv k5 (fun c a w' hy bel=>?_)
         subst hy;refine⟨Sv ptR ([],(c,a),()),vU,G1,m1.abN (fun b hb=>(bel.block b hb).trans (m5.fr b hb (fun h=>h))) (Nat.le_trans m5.sz bel.size) (bel.os.trans m5.os) (bel.tape.trans m5.tp) (bel.output.trans m5.out),fun act ra=>Au k1 a1 ra,?_,hr⟩;exact K6 (rs:=ptR) (vs:=[.slice none 0 0,.agg #[.int .i64 c,.int .i64 a]]) ⟨⟨_,rfl,rfl,.inl ⟨rfl,none,0,rfl⟩⟩,⟨[.int .i64 c,.int .i64 a],rfl,[.int .i64 c],[.int .i64 a],[],[],rfl,rfl,⟨rfl,rfl⟩,⟨rfl,rfl⟩⟩,trivial⟩
      |_=>cases k2
     |_=>cases k2
    |_=>cases k2
   |_=>cases k2
  ·cases hr
 ·cases hr
def Rr(k:Nat):Cl bz:=⟨_,_,RM k⟩
end
end Go.Fx.R5
namespace Go.Fx.R5
open Go Go.Fx Go.Proofs Go.Proofs.Tryz
noncomputable section
def oZ(q:Nat):Nat→XN→XA→XS→XF→XF→Int→XI→XI→Int→Option (XI×XI×Unit)
 |0,_,_,_,_,_,_,_,_,_=>none
 |k + 1,aA,gu,gk,jC,Zd,SX,lY,jE,M1=>
  bif decide (M1 < SX) then
   (bH Zd M1).bind fun x1=>
   (gh q aA gu gk jC lY jE [] [] [] [] [] [] [] x1 x1.2.2.2.2).bind fun r3=>
   oZ q k aA gu gk jC Zd SX r3.1 r3.2.1 (dq (M1 + 1))
  else
   some (lY,jE,())
def o7(q:Nat):Nat→XN→XA→XS→XF→XI→XI→Int→Int→XI→XI→XB→XE→XQ→Int→Option (Int×XI×XI×XB×XE×XQ×Unit)
 |0,_,_,_,_,_,_,_,_,_,_,_,_,_,_=>none
 |k + 1,aA,gu,gk,jC,lY,jE,aej,fn,hG,iN,kZ,gF,laid,acL=>
  bif decide (acL < aej) then
   (qZ q hG iN kZ gF laid aA gu gk jC lY jE [] [] [] [] [] [] [] acL).bind fun r3=>
   o7 q k aA gu gk jC lY jE aej r3.1 r3.2.1 r3.2.2.1 r3.2.2.2.1 r3.2.2.2.2.1 r3.2.2.2.2.2.1 (dq (acL + 1))
  else
   some (fn,hG,iN,kZ,gF,laid,())
def o8(q:Nat):Nat→XE→Int→XL→Int→Option (XL×Unit)
 |0,_,_,_,_=>none
 |k + 1,abm,abn,out,Vt=>
  bif decide (Vt < abn) then
   (bH abm Vt).bind fun x1=>
   (bH out x1.1).bind fun x2=>
   (bH out (x1.1.toNat:Int)).bind fun x3=>
   (bH out (x1.1.toNat:Int)).bind fun e=>
   (lq e ([Vt])).bind fun l5=>
   (bH out x1.1).bind fun x4=>
   bif Nat.beq x1.1.toNat x1.1.toNat && true then
    o8 q k abm abn (List.set out x1.1.toNat l5) (dq (Vt + 1))
   else
    none
  else
   some (out,())
def sD(k:Nat)(bF:an):Option (((XN×XA×XS×XF×XI×XI×XI×XI×XB×XE×XQ×XL×XB×(Int×Int)×Unit)⊕((Int×Int)×Unit))):=
 (pf k bF).bind fun r1=>
 bif r1.2.1.1 != 0 then
  some (.inr (r1.2.1,()))
 else
  (iQ k r1.1).bind fun r2=>
  bif r2.2.1.1 != 0 then
   some (.inr (r2.2.1,()))
  else
   (mkl (r1.1.length:Int) (0:Int)).bind fun z=>
   (sub z 0 (r1.1.length:Int)).bind fun l=>
   (mkl (r1.1.length:Int) (0:Int)).bind fun z2=>
   (sub z2 0 (r1.1.length:Int)).bind fun l2=>
   (oZ k k r1.1 r2.1.1 r2.1.2.1 r2.1.2.2 r2.1.2.2 (r2.1.2.2.length:Int) l l2 0).bind fun o=>
   (mkl (r1.1.length:Int) ((0,0,0,0):Int×Int×Int×Int)).bind fun z3=>
   (sub z3 0 (r1.1.length:Int)).bind fun l3=>
   (o7 k k r1.1 r2.1.1 r2.1.2.1 r2.1.2.2 o.1 o.2.1 (r2.1.2.2.length:Int) 0 [] [] [] [] l3 0).bind fun o2=>
   (mkl (o2.2.1.length:Int) ([]:XI)).bind fun z4=>
   (sub z4 0 (o2.2.1.length:Int)).bind fun l4=>
   (o8 k k o2.2.2.2.2.1 (o2.2.2.2.2.1.length:Int) l4 0).bind fun o3=>
   (uM k r2.1.2.2 o2.2.1 o2.2.2.2.2.1).bind fun r3=>
   some (.inl (r1.1,r2.1.1,r2.1.2.1,r2.1.2.2,o.1,o.2.1,o2.2.1,o2.2.2.1,o2.2.2.2.1,o2.2.2.2.2.1,o2.2.2.2.2.2.1,o3.1,r3.1,(0,0),()))
def Dn(k:Nat):mg:=⟨⟨138,[(35,3),(37,2),(93,13)],[lD 35 0 sA,lD 35 1 sS,lD 35 2 sF,lI 37 0,lI 37 1,lD 93 0 sN,lD 93 1 sA,lD 93 2 sS,lD 93 3 sF,lN 93 6,lN 93 7,lN 93 8,lN 93 9,lN 93 10,lN 93 11,lN 93 12,rP 3 37,rD 4 sN,rP 6 35,rP 7 93,rD 49 sF,rI 50],[lF 93 4 I,lF 93 5 I,rI 51],[]⟩,[.ex (.exit 0) [lF 93 4 I,lF 93 5 I]],fun q c v=>oZ k q c.2.2.2.2.2.1 c.2.2.2.2.2.2.1 c.2.2.2.2.2.2.2.1 c.2.2.2.2.2.2.2.2.1 c.2.2.2.2.2.2.2.2.2.2.2.2.2.2.2.2.2.2.2.2.1 c.2.2.2.2.2.2.2.2.2.2.2.2.2.2.2.2.2.2.2.2.2.1 v.1 v.2.1 v.2.2.1⟩
def Do(k:Nat):mg:=⟨⟨138,[(35,3),(37,2),(93,13),(97,7)],[lD 35 0 sA,lD 35 1 sS,lD 35 2 sF,lI 37 0,lI 37 1,lD 93 0 sN,lD 93 1 sA,lD 93 2 sS,lD 93 3 sF,lF 93 4 I,lF 93 5 I,lN 93 6,lN 93 7,lN 93 8,lN 93 9,lN 93 10,lN 93 11,lN 93 12,(.l 97 0,.lit (.mW 93 0)),rP 3 37,rP 7 93,rP 10 97,rI 69],[lI 97 1,lF 97 2 I,lF 97 3 I,lF 97 4 .bool,lF 97 5 tE,lF 97 6 tQ,rI 70],[]⟩,[.ex (.exit 2) [lI 97 1,lF 97 2 I,lF 97 3 I,lF 97 4 .bool,lF 97 5 tE,lF 97 6 tQ]],fun q c v=>o7 k q c.2.2.2.2.2.1 c.2.2.2.2.2.2.1 c.2.2.2.2.2.2.2.1 c.2.2.2.2.2.2.2.2.1 c.2.2.2.2.2.2.2.2.2.1 c.2.2.2.2.2.2.2.2.2.2.1 c.2.2.2.2.2.2.2.2.2.2.2.2.2.2.2.2.2.2.2.2.2.2.1 v.1 v.2.1 v.2.2.1 v.2.2.2.1 v.2.2.2.2.1 v.2.2.2.2.2.1 v.2.2.2.2.2.2.1⟩
def Dp(k:Nat):mg:=⟨⟨138,[(35,3),(37,2),(93,13),(97,7)],[lD 35 0 sA,lD 35 1 sS,lD 35 2 sF,lI 37 0,lI 37 1,lD 93 0 sN,lD 93 1 sA,lD 93 2 sS,lD 93 3 sF,lF 93 4 I,lF 93 5 I,lD 93 6 sI,lD 93 7 sI,lD 93 8 sB,lD 93 9 sE,lD 93 10 sQ,lN 93 12,(.l 97 0,.lit (.mW 93 0)),lI 97 1,lD 97 2 sI,lD 97 3 sI,lD 97 4 sB,lD 97 5 sE,lD 97 6 sQ,rP 3 37,rP 7 93,rD 105 sE,rI 106],[lU 93 11 sI,rI 107],[]⟩,[.ex (.exit 4) [lU 93 11 sI]],fun q c v=>o8 k q c.2.2.2.2.2.2.2.2.2.2.2.2.2.2.2.2.2.2.2.2.2.2.2.2.2.2.1 c.2.2.2.2.2.2.2.2.2.2.2.2.2.2.2.2.2.2.2.2.2.2.2.2.2.2.2.1 v.1 v.2.1⟩
def yL(k:Nat):Ev bz:=⟨[Rr k,J7 k,ED k,Cv k,J2 k],[lp 0 (Dn k) k,lp 2 (Do k) k,lp 4 (Dp k) k],[(3,37),(6,35),(35,93),(66,97),(98,9999)]⟩
def Lc(k q:Nat):Cd bz:=nD (yL k) f23 0 (Dn k) q []
def Ld(k q:Nat):Cd bz:=nD (yL k) f23 2 (Do k) q []
def Lf(k q:Nat):Cd bz:=nD (yL k) f23 4 (Dp k) q []
def Ro(k:Nat):Cl bz:=mX (yL k) 23 f23 func23 call23 [500000,500001] ⟨⟨138,[],[],[rD 0 .str],[]⟩,[.ret [rP 500000 93,lD 93 0 sN,lD 93 1 sA,lD 93 2 sS,lD 93 3 sF,lF 93 4 I,lF 93 5 I,lD 93 6 sI,lD 93 7 sI,lD 93 8 sB,lD 93 9 sE,lD 93 10 sQ,lD 93 11 sL,lD 93 12 sB,rD 500001 tP] [(93,13,93)],.ret [(.r 500000,.lit .Jg),rD 500001 tP] []],fun c v=>sD k v.1⟩ [Lc k k,Ld k k,Lf k k]
def lW(q:Nat):Nat→XA→Int→XI→Int→Option (XI×Unit)
 |0,_,_,_,_=>none
 |k + 1,Ws,ad7,Pd,KI=>
  bif decide (KI < ad7) then
   (bH Ws KI).bind fun x1=>
   (lq Pd ([(dq (x1.2 - 1)),x1.2])).bind fun l=>
   lW q k Ws ad7 l (dq (KI + 1))
  else
   some (Pd,())
def lX(q:Nat):Nat→XN→Int→XI→Int→Option (XI×Unit)
 |0,_,_,_,_=>none
 |k + 1,Za,Ue,Pd,acJ=>
  bif decide (acJ < Ue) then
   aa (fun(acF:XI)=>
    lX q k Za Ue acF (dq (acJ + 1))) fun cD=>
   (bH Za acJ).bind fun x1=>
   bif x1.1 == 24 then
    (lq Pd ([(dq (x1.2.2.1 - 1)),x1.2.2.1,(dq (x1.2.2.1 + 1)),(dq ((dq (0 - x1.2.2.1)) - 1)),(dq (0 - x1.2.2.1)),(dq (1 - x1.2.2.1))])).bind fun l=>
    cD l
   else
    cD Pd
  else
   some (Pd,())
def qE(k:Nat)(aA:XN)(aH:XA):Option (XI×Unit):=
 (lW k k aH (aH.length:Int) [] 0).bind fun o=>
 (lX k k aA (aA.length:Int) o.1 0).bind fun o2=>
 some (o2.1,())
def uf(k:Nat):mg:=⟨⟨59,[(93,13)],[lD 93 0 sN,lD 93 1 sA,lD 93 2 sS,lD 93 3 sF,lF 93 4 I,lF 93 5 I,lD 93 6 sI,lD 93 7 sI,lD 93 8 sB,lD 93 9 sE,lD 93 10 sQ,lD 93 11 sL,lD 93 12 sB,rP 0 93,rD 13 sA,rI 14],[(.r 3,.h .dE I),rI 15],[]⟩,[.ex (.exit 0) [(.r 3,.h .dE I)]],fun q c v=>lW k q c.2.2.2.2.2.2.2.2.2.2.2.2.2.2.1 c.2.2.2.2.2.2.2.2.2.2.2.2.2.2.2.1 v.1 v.2.1⟩
def ug(k:Nat):mg:=⟨⟨59,[(93,13)],[lD 93 0 sN,lD 93 1 sA,lD 93 2 sS,lD 93 3 sF,lF 93 4 I,lF 93 5 I,lD 93 6 sI,lD 93 7 sI,lD 93 8 sB,lD 93 9 sE,lD 93 10 sQ,lD 93 11 sL,lD 93 12 sB,rD 31 sN,rI 32],[(.r 3,.h .dE I),rI 33],[]⟩,[.ex (.exit 2) [(.r 3,.h .dE I)]],fun q c v=>lX k q c.2.2.2.2.2.2.2.2.2.2.2.2.2.1 c.2.2.2.2.2.2.2.2.2.2.2.2.2.2.1 v.1 v.2.1⟩
def sb(k:Nat):Ev bz:=⟨[],[lp 0 (uf k) k,lp 2 (ug k) k],[]⟩
def Cn(k q:Nat):Cd bz:=nD (sb k) f24 0 (uf k) q []
def Co(k q:Nat):Cd bz:=nD (sb k) f24 2 (ug k) q []
def FO(k:Nat):Cl bz:=mX (sb k) 24 f24 func24 call24 [500000] ⟨⟨59,[(93,13)],[lD 93 0 sN,lD 93 1 sA,lD 93 2 sS,lD 93 3 sF,lF 93 4 I,lF 93 5 I,lD 93 6 sI,lD 93 7 sI,lD 93 8 sB,lD 93 9 sE,lD 93 10 sQ,lD 93 11 sL,lD 93 12 sB],[rP 0 93],[]⟩,[.ret [(.r 500000,.h .dE I)] []],fun c v=>qE k c.1 c.2.1⟩ [Cn k k,Co k k]
def mG(q:Nat):Nat→XI→XI→Int→Option (((Unit)⊕(Bool×Unit)))
 |0,_,_,_=>none
 |k + 1,a2,b2,i1=>
  bif decide (i1 < (a2.length:Int)) then
   (bH a2 i1).bind fun x1=>
   (bH b2 i1).bind fun x2=>
   bif x1 != x2 then
    some (.inr (false,()))
   else
    mG q k a2 b2 (dq (i1 + 1))
  else
   some (.inl ())
def vu(k:Nat)(a b:XI):Option (Bool×Unit):=
 bif (a.length:Int) != (b.length:Int) then
  some (false,())
 else
  (mG k k a b 0).bind fun r=>match r with
  |.inl o=>
   some (true,())
  |.inr o2=>
   some (o2.1,())
def Ax(k:Nat):mg:=⟨⟨26,[],[rD 0 sI,rD 1 sI],[rI 5],[]⟩,[.ex (.exit 0) [],.ex .ret [rD 4 .bool]],fun q c v=>mG k q c.1 c.2.1 v.1⟩
def EU(k:Nat):Ev bz:=⟨[],[lp 0 (Ax k) k],[]⟩
def Io(k q:Nat):Cd bz:=nD (EU k) f9 0 (Ax k) q []
def Np(k:Nat):Cl bz:=wv (EU k) 9 f9 func9 call9 [sI,sI] [.bool] (fun d=>vu k d.1 d.2.1) [Io k k]
def kA(q:Nat):Nat→XI→Int→Int→Option (XI×Int×Unit)
 |0,_,_,_=>none
 |k + 1,a2,k2,i1=>
  bif decide (i1 < (a2.length:Int)) then
   (bH a2 i1).bind fun x1=>
   (bH a2 (i1.toNat:Int)).bind fun x2=>
   kA q k (List.set a2 i1.toNat k2) (dq (k2 + 1)) (dq (i1 + 1))
  else
   some (a2,k2,())
def uR(k:Nat)(a:XI)(k1:Int):Option (Int×XI×Unit):=
 (kA k k a k1 0).bind fun o=>
 some (o.2.1,o.1,())
def xZ(k:Nat):mg:=⟨⟨19,[],[],[(.r 0,.h .dE I),rI 1,rI 5],[1000000]⟩,[.ex (.exit 0) [(.r 0,.h .dE I),rI 1]],fun q c v=>kA k q v.1 v.2.1 v.2.2.1⟩
def BJ(k:Nat):Ev bz:=⟨[],[lp 0 (xZ k) k],[]⟩
def FD(k q:Nat):Cd bz:=nD (BJ k) f10 0 (xZ k) q []
def J9(k:Nat):Cl bz:=mX (BJ k) 10 f10 func10 call10 [500000] ⟨⟨19,[],[],[(.r 0,.h .dE I),rI 1],[1000000]⟩,[.ret [rI 500000,(.r 0,.h .dE I)] []],fun c v=>uR k v.1 v.2.1⟩ [FD k k]
def kz(q:Nat):Nat→XI→Int→Int→Option (((Int×Unit)⊕(Int×Unit)))
 |0,_,_,_=>none
 |k + 1,a2,k2,i1=>
  bif decide (i1 < (a2.length:Int)) then
   (bH a2 i1).bind fun x1=>
   bif x1 != k2 then
    some (.inr ((-1),()))
   else
    kz q k a2 (dq (k2 + 1)) (dq (i1 + 1))
  else
   some (.inl (k2,()))
def rz(k:Nat)(a:XI)(k1:Int):Option (Int×Unit):=
 (kz k k a k1 0).bind fun r=>match r with
 |.inl o=>
  some (o.1,())
 |.inr o2=>
  some (o2.1,())
def xY(k:Nat):mg:=⟨⟨21,[],[rD 0 sI],[rI 1,rI 5],[]⟩,[.ex (.exit 0) [rI 1],.ex .ret [rI 4]],fun q c v=>kz k q c.1 v.1 v.2.1⟩
def BI(k:Nat):Ev bz:=⟨[],[lp 0 (xY k) k],[]⟩
def FC(k q:Nat):Cd bz:=nD (BI k) f11 0 (xY k) q []
def J8(k:Nat):Cl bz:=wv (BI k) 11 f11 func11 call11 [sI,I] [I] (fun d=>rz k d.1 d.2.1) [FC k k]
def qs(q:Nat):Nat→XI→Int→Int→Int→Option (Int×Int×Unit)
 |0,_,_,_,_=>none
 |k + 1,G8,n2,k1,ach=>
  bif decide (n2≥ach) then
   qs q k G8 (dq (n2 - ach)) (dq (k1 + 1)) (dq (ach * (G8.length:Int)))
  else
   some (n2,k1,())
def qt(q:Nat):Nat→XI→Int→XI→Int→Option (XI×Unit)
 |0,_,_,_,_=>none
 |k + 1,G8,n2,out,i1=>
  bif decide (i1≥0) then
   bif decide ((G8.length:Int)=0) then
    none
   else
    (bH G8 (n2.tmod (G8.length:Int))).bind fun x1=>
    (bH out i1).bind fun x2=>
    (bH out (i1.toNat:Int)).bind fun x3=>
    bif decide ((G8.length:Int)=0) then
     none
    else
     qt q k G8 (dq (n2.tdiv (G8.length:Int))) (List.set out i1.toNat x1) (dq (i1 - 1))
  else
   some (out,())
def oK(k:Nat)(ix:XI)(n:Int):Option (XI×Unit):=
 (qs k k ix n 0 1).bind fun o=>
 (mkl o.2.1 (0:Int)).bind fun z=>
 (sub z 0 o.2.1).bind fun l=>
 (qt k k ix o.1 l (dq (o.2.1 - 1))).bind fun o2=>
 some (o2.1,())
def Az(k:Nat):mg:=⟨⟨44,[],[rD 0 sI],[rI 1,rI 5,rI 6],[]⟩,[.ex (.exit 0) [rI 1,rI 5]],fun q c v=>qs k q c.1 v.1 v.2.1 v.2.2.1⟩
def AA(k:Nat):mg:=⟨⟨44,[],[rD 0 sI],[rI 1,(.r 7,.h .dE I),rI 8],[]⟩,[.ex (.exit 2) [(.r 7,.h .dE I)]],fun q c v=>qt k q c.1 v.1 v.2.1 v.2.2.1⟩
def zo(k:Nat):Ev bz:=⟨[],[lp 0 (Az k) k,lp 2 (AA k) k],[]⟩
def Iq(k q:Nat):Cd bz:=nD (zo k) f26 0 (Az k) q []
def Ir(k q:Nat):Cd bz:=nD (zo k) f26 2 (AA k) q []
def Ns(k:Nat):Cl bz:=wv (zo k) 26 f26 func26 call26 [sI,I] [sI] (fun d=>oK k d.1 d.2.1) [Iq k k,Ir k k]
def iz(q:Nat):Nat→XI→Int→Int→Option (((Unit)⊕(Int×Unit)))
 |0,_,_,_=>none
 |k + 1,l2,v2,i1=>
  bif decide (i1 < (l2.length:Int)) then
   (bH l2 i1).bind fun x1=>
   bif x1 == v2 then
    some (.inr (i1,()))
   else
    iz q k l2 v2 (dq (i1 + 1))
  else
   some (.inl ())
def rJ(k:Nat)(l:XI)(v:Int):Option (Int×Unit):=
 (iz k k l v 0).bind fun r=>match r with
 |.inl o=>
  some ((-1),())
 |.inr o2=>
  some (o2.1,())
def yd(k:Nat):mg:=⟨⟨19,[],[rD 0 sI,rI 1],[rI 5],[]⟩,[.ex (.exit 0) [],.ex .ret [rI 4]],fun q c v=>iz k q c.1 c.2.1 v.1⟩
def BK(k:Nat):Ev bz:=⟨[],[lp 0 (yd k) k],[]⟩
def FE(k q:Nat):Cd bz:=nD (BK k) f46 0 (yd k) q []
def Ka(k:Nat):Cl bz:=wv (BK k) 46 f46 func46 call46 [sI,I] [I] (fun d=>rJ k d.1 d.2.1) [FE k k]
def BA(v:Int):Option (Bool×Unit):=
 (sP v (-2147483648) 2147483647).bind fun r1=>
 some (r1.1,())
def Px:Cl bz:=wv ⟨[C0],[],[]⟩ 47 f47 func47 call47 [I] [.bool] (fun d=>BA d.1) []
def kb(q:Nat):Nat→XI→XI→Int→Option (XI×Unit)
 |0,_,_,_=>none
 |k + 1,l,out,i1=>
  aa (fun(v:Bool)=>
   bif v then
    aa (fun(tK:XI)=>
     kb q k l tK (dq (i1 + 1))) fun xG=>
    (bH l i1).bind fun x1=>
    (rJ q out x1).bind fun r2=>
    aa (fun(v2:Bool)=>
     bif v2 then
      (bH l i1).bind fun x3=>
      (lq out ([x3])).bind fun l2=>
      xG l2
     else
      xG out) fun jH=>
    bif decide (r2.1 < 0) then
     (bH l i1).bind fun x2=>
     (BA x2).bind fun r3=>
     jH r3.1
    else
     jH false
   else
    some (out,())) fun cD=>
  bif decide (i1 < (l.length:Int)) then
   cD (decide ((out.length:Int) < 8))
  else
   cD false
def BB(k:Nat)(bF:an):Option (XI×Unit):=
 (uJ k bF).bind fun r1=>
 (kb k k r1.1 ([0,1,(-1),2]) 0).bind fun o=>
 some (o.1,())
def y5(k:Nat):mg:=⟨⟨42,[],[rD 4 sI],[(.r 3,.h .dE I),rI 5],[]⟩,[.ex (.exit 0) [(.r 3,.h .dE I)]],fun q c v=>kb k q c.1 v.1 v.2.1⟩
def CO(k:Nat):Ev bz:=⟨[FU k,Ka k,Px],[lp 0 (y5 k) k],[]⟩
def GI(k q:Nat):Cd bz:=nD (CO k) f27 0 (y5 k) q []
def Lw(k:Nat):Cl bz:=wv (CO k) 27 f27 func27 call27 [.str] [sI] (fun d=>BB k d.1) [GI k k]
def pi(k:Nat)(bF:an)(n:Int):Option (XI×Unit):=
 (dW k bF).bind fun r1=>
 aa (fun(v:Bool)=>
  bif v then
   some ([],())
  else
   (BB k bF).bind fun r3=>
   (oK k r3.1 n).bind fun r4=>
   some (r4.1,())) fun cD=>
 bif r1.2.1.1 != 0 then
  cD true
 else
  (sP n 0 59).bind fun r2=>
  cD (!r2.1)
def Lu(k:Nat):Cl bz:=wv ⟨[Ac k,C0,Ns k,Lw k],[],[(5,35),(6,37)]⟩ 12 f12 func12 call12 [.str,I] [sI] (fun d=>pi k d.1 d.2.1) []
def ou(q:Nat):Nat→XI→Int→Int→Int→Option (Int×Int×Unit)
 |0,_,_,_,_=>none
 |k + 1,qi,n2,size,W3=>
  bif decide (n2≥W3) then
   ou q k qi (dq (n2 - W3)) (dq (size + 1)) (dq (W3 * (qi.length:Int)))
  else
   some (n2,size,())
def ov(q:Nat):Nat→XI→Int→XI→Int→Option (XI×Unit)
 |0,_,_,_,_=>none
 |k + 1,qi,n2,ZV,i1=>
  bif decide (i1≥0) then
   bif decide ((qi.length:Int)=0) then
    none
   else
    (bH qi (n2.tmod (qi.length:Int))).bind fun x1=>
    (bH ZV i1).bind fun x2=>
    (bH ZV (i1.toNat:Int)).bind fun x3=>
    bif decide ((qi.length:Int)=0) then
     none
    else
     ov q k qi (dq (n2.tdiv (qi.length:Int))) (List.set ZV i1.toNat x1) (dq (i1 - 1))
  else
   some (ZV,())
def uN(k:Nat)(wG:XI)(n:Int):Option (XI×Unit):=
 (ou k k wG n 0 1).bind fun o=>
 (mkl o.2.1 (0:Int)).bind fun z=>
 (sub z 0 o.2.1).bind fun l=>
 (ov k k wG o.1 l (dq (o.2.1 - 1))).bind fun o2=>
 some (o2.1,())
def xQ(k:Nat):mg:=⟨⟨44,[],[rD 0 sI],[rI 1,rI 5,rI 6],[]⟩,[.ex (.exit 0) [rI 1,rI 5]],fun q c v=>ou k q c.1 v.1 v.2.1 v.2.2.1⟩
def xR(k:Nat):mg:=⟨⟨44,[],[rD 0 sI],[rI 1,(.r 7,.h .dE I),rI 8],[]⟩,[.ex (.exit 2) [(.r 7,.h .dE I)]],fun q c v=>ov k q c.1 v.1 v.2.1 v.2.2.1⟩
def vG(k:Nat):Ev bz:=⟨[],[lp 0 (xQ k) k,lp 2 (xR k) k],[]⟩
def Ft(k q:Nat):Cd bz:=nD (vG k) f28 0 (xQ k) q []
def Fu(k q:Nat):Cd bz:=nD (vG k) f28 2 (xR k) q []
def J3(k:Nat):Cl bz:=mX (vG k) 28 f28 func28 call28 [500000] ⟨⟨44,[],[],[rD 0 sI,rI 1],[]⟩,[.ret [(.r 500000,.h .dE I)] []],fun c v=>uN k v.1 v.2.1⟩ [Ft k k,Fu k k]
def Bn(v:Int):Option (Bool×Unit):=
 aa (fun(v2:Bool)=>
  some (v2,())) fun cD=>
 bif decide (v≥(-2147483648)) then
  cD (decide (v≤2147483647))
 else
  cD false
def Pt:Cl bz:=wv ⟨[],[],[]⟩ 48 f48 func48 call48 [I] [.bool] (fun d=>Bn d.1) []
def fQ(q:Nat):Nat→Int→XI→Int→Int→Option (((Unit)⊕(Bool×Unit)))
 |0,_,_,_,_=>none
 |k + 1,WU,t71,t81,t91=>
  bif decide (t91 < t81) then
   (bH t71 t91).bind fun x1=>
   bif x1 == WU then
    some (.inr (true,()))
   else
    fQ q k WU t71 t81 (dq (t91 + 1))
  else
   some (.inl ())
def ot(k:Nat)(WV:XI)(array:Int):Option (Bool×Unit):=
 (fQ k k array WV (WV.length:Int) 0).bind fun r=>match r with
 |.inl o=>
  some (false,())
 |.inr o2=>
  some (o2.1,())
def ue(k:Nat):mg:=⟨⟨17,[],[rI 1,rD 7 sI,rI 8],[rI 9],[]⟩,[.ex (.exit 0) [],.ex .ret [rD 4 .bool]],fun q c v=>fQ k q c.1 c.2.1 c.2.2.1 v.1⟩
def wX(k:Nat):Ev bz:=⟨[],[lp 0 (ue k) k],[]⟩
def Cm(k q:Nat):Cd bz:=nD (wX k) f49 0 (ue k) q []
def FN(k:Nat):Cl bz:=wv (wX k) 49 f49 func49 call49 [sI,I] [.bool] (fun d=>ot k d.1 d.2.1) [Cm k k]
def gT(q:Nat):Nat→XI→Int→XI→Int→Option (XI×Unit)
 |0,_,_,_,_=>none
 |k + 1,t81,t91,wG,aar=>
  bif decide (aar < t91) then
   aa (fun(qi:XI)=>
    gT q k t81 t91 qi (dq (aar + 1))) fun jH=>
   (bH t81 aar).bind fun x1=>
   (bH t81 (aar.toNat:Int)).bind fun x2=>
   bif (wG.length:Int) == 8 then
    some (wG,())
   else
    (Bn x2).bind fun r2=>
    aa (fun(v:Bool)=>
     bif v then
      (lq wG ([x2])).bind fun l=>
      jH l
     else
      jH wG) fun cD=>
    bif r2.1 then
     (ot q wG x2).bind fun r3=>
     cD (!r3.1)
    else
     cD false
  else
   some (wG,())
def uA(k:Nat)(aA:XN)(aH:XA):Option (XI×Unit):=
 (qE k aA aH).bind fun r1=>
 (gT k k r1.1 (r1.1.length:Int) ([0,1,(-1),2]) 0).bind fun o=>
 some (o.1,())
def uh(k:Nat):mg:=⟨⟨31,[(93,13)],[lD 93 0 sN,lD 93 1 sA,lD 93 2 sS,lD 93 3 sF,lF 93 4 I,lF 93 5 I,lD 93 6 sI,lD 93 7 sI,lD 93 8 sB,lD 93 9 sE,lD 93 10 sQ,lD 93 11 sL,lD 93 12 sB,(.r 8,.h .dE I),rI 9],[(.r 3,.h .dE I),rI 10],[]⟩,[.ex (.exit 0) [(.r 3,.h .dE I)]],fun q c v=>gT k q c.2.2.2.2.2.2.2.2.2.2.2.2.2.1 c.2.2.2.2.2.2.2.2.2.2.2.2.2.2.1 v.1 v.2.1⟩
def wY(k:Nat):Ev bz:=⟨[FO k,Pt,FN k],[lp 0 (uh k) k],[]⟩
def Cp(k q:Nat):Cd bz:=nD (wY k) f29 0 (uh k) q []
def FP(k:Nat):Cl bz:=mX (wY k) 29 f29 func29 call29 [500000] ⟨⟨31,[(93,13)],[lD 93 0 sN,lD 93 1 sA,lD 93 2 sS,lD 93 3 sF,lF 93 4 I,lF 93 5 I,lD 93 6 sI,lD 93 7 sI,lD 93 8 sB,lD 93 9 sE,lD 93 10 sQ,lD 93 11 sL,lD 93 12 sB],[rP 0 93],[]⟩,[.ret [(.r 500000,.h .dE I)] []],fun c v=>uA k c.1 c.2.1⟩ [Cp k k]
def nA(k:Nat)(bF:an)(n:Int):Option (XI×Unit):=
 aa (fun(v:Bool)=>
  bif v then
   some ([],())
  else
   (sD k bF).bind fun r=>match r with
   |.inl r1=>
    bif r1.2.2.2.2.2.2.2.2.2.2.2.2.2.1.1 != 0 then
     some ([],())
    else
     (uA k r1.1 r1.2.1).bind fun r3=>
     (uN k r3.1 n).bind fun r4=>
     some (r4.1,())
   |.inr r2=>
    bif r2.1.1 != 0 then
     some ([],())
    else
     none) fun cD=>
 bif decide (n < 0) then
  cD true
 else
  cD (decide (n≥60))
def Lr(k:Nat):Cl bz:=mX ⟨[Ro k,J3 k,FP k],[],[(6,37)]⟩ 13 f13 func13 call13 [500000] ⟨⟨25,[],[],[rD 0 .str,rI 1],[]⟩,[.ret [(.r 500000,.h .dE I)] []],fun c v=>nA k v.1 v.2.1⟩ []
def og(k:Nat)(Uo:an)(aN:Int):Option (Bool×Unit):=
 bif decide ((Uo.length:Int) > 1048576) then
  some (true,())
 else
  (pi k Uo aN).bind fun r1=>
  (nA k Uo aN).bind fun r2=>
  (vu k r2.1 r1.1).bind fun r3=>
  bif !r3.1 then
   some (false,())
  else
   (uR k r2.1 1).bind fun r4=>
   (rz k r4.2.1 1).bind fun r5=>
   bif decide (r5.1 < 0) then
    some (false,())
   else
    bif r5.1 != r4.1 then
     some (false,())
    else
     (nA k Uo aN).bind fun r6=>
     (vu k r6.1 r1.1).bind fun r7=>
     bif !r7.1 then
      some (false,())
     else
      (rz k r4.2.1 1).bind fun r8=>
      bif decide (r8.1 < 0) then
       some (false,())
      else
       bif r8.1 != r4.1 then
        some (false,())
       else
        some (true,())
def Cz(k:Nat):Cl bz:=wv ⟨[Np k,J9 k,J8 k,Lu k,Lr k],[],[]⟩ 4 f4 func4 call4 [.str,I] [.bool] (fun d=>og k d.1 d.2.1) []
end
end Go.Fx.R5
