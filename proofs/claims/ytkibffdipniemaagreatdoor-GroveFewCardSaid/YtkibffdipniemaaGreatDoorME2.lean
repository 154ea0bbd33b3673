/- The texts S13, T0, C0, C1, A0, D0, D1, D2, D3, B0, B1, D4, E0, E1, G0, G1, G2, H0, H1, I0, one behind the other: each bears its own sentence. Conditions: as each says. -/
import Derived.Test.YtkibffdipniemaaGreatDoorME1
import Derived.Laws.StructEq
import Derived.Test.YtkibffdipniemaaGreatDoorChecked

set_option linter.unusedVariables false
set_option linter.unusedSimpArgs false
set_option maxHeartbeats 1000000
/- The engine's comparison of flat structs. No condition beyond those stated. -/
namespace Go.Proofs.YtkibffdipniemaaGreatDoor
open Go

variable {P:Program} {ro:Option Nat} {K:Nat→Prop} {w0:World} {N:Nat} {Q:Post} {D:List Nat} {l l':Tm} {H H' Hs L:List Chunk} {ops:Array Oper} {items:Its}
variable {tk:Bool} {o:Oper} {t:Nat} {v:Value} {x y z:Operand}

def fltF (P:Program) (f:Field):Option (Nat×TypeDesc):=
 if f.name = "_" then none
 else match P.underlying f.type with
  | some (.int k)=>some (f.offset,.int k)
  | some .string=>some (f.offset,.string)
  | some .bool=>some (f.offset,.bool)
  | _=>none
def fltL (P:Program):List Field→Option (List (Nat×TypeDesc))
 | []=>some []
 | f::r=>match fltF P f,fltL P r with
  | some a,some b=>some (a::b)
  | _,_=>none
def flt (P:Program) (t:TypeId):Option (List (Nat×TypeDesc)):=
 match P.underlying t with
 | some (.struct fs)=>if P.stoodInHeld t||P.eqGuardType P.depth t then none else fltL P fs.toList
 | _=>none
def eqV:TypeDesc→Value→Value→Option Bool
 | .int _,.int k a,.int k' b=>if k=k' then some (a==b) else none
 | .string,.string a,.string b=>some (a.toList==b.toList)
 | .bool,.bool a,.bool b=>some (a==b)
 | _,_,_=>none
def flatE:List (Nat×TypeDesc)→Array Value→Array Value→Option Bool
 | [],_,_=>some true
 | (i,d)::r,xs,ys=>
  match xs[i]?,ys[i]? with
  | some a,some b=>match eqV d a b,flatE r xs ys with
   | some p,some q=>some (p&&q)
   | _,_=>none
  | _,_=>none
theorem run_eqFields (d:Nat) (xs ys:Array Value) (w:World):∀(fs:List Field) (fl:List (Nat×TypeDesc)) (b:Bool),fltL P fs=some fl→flatE fl xs ys=some b→(Op.eqFields (d+1) xs ys fs).run P w=.ok b w
 | [],fl,b,h1,h2=>by
  simp only [fltL,Option.some.injEq] at h1
  subst h1
  simp only [flatE,Option.some.injEq] at h2
  subst h2
  simp [Op.eqFields]
 | f::r,fl,b,h1,h2=>by
  simp only [fltL] at h1
  split at h1
  rename_i a rl hf hr
  simp only [Option.some.injEq] at h1
  subst h1
  obtain ⟨i,ds⟩:=a
  simp only [flatE] at h2
  split at h2
  rename_i va vb hva hvb
  split at h2
  rename_i p q hp hq
  simp only [Option.some.injEq] at h2
  subst h2
  have ih:=run_eqFields d xs ys w r rl q hr hq
  unfold fltF at hf
  split at hf
  cases hf
  rename_i hname
  have key:∀(hof:f.offset=i) (hag:(isAgg f.type).run P w=.ok false w) (he:(Op.equalIn (d+1) f.type va vb).run P w=.ok p w),(Op.eqFields (d+1) xs ys (f::r)).run P w=.ok (p&&q) w:=by
   intro hof hag he
   simp only [Op.eqFields,ne_eq,hname,not_false_eq_true,if_true,Sem.run_bind]
   have h3:(part f.type xs f.offset).run P w=.ok va w:=by simp [part,hag,hof,hva]
   have h4:(part f.type ys f.offset).run P w=.ok vb w:=by simp [part,hag,hof,hvb]
   simp only [h3,h4,he,Result.andThen_ok]
   cases p with
   | true=>simpa using ih
   | false=>simp
  split at hf
  rename_i k hu
  simp only [Option.some.injEq,Prod.mk.injEq] at hf
  obtain ⟨hof,rfl⟩:=hf
  refine key hof (by simp [isAgg,run_underlying hu]) ?_
  unfold eqV at hp
  split at hp
  rename_i a' b' c' d' e'
  split at hp
  rename_i hkk
  simp only [Option.some.injEq] at hp
  subst hp;subst hkk
  exact run_equalIn_int w d f.type _ k _ _ hu
  cases hp
  rename_i hh;cases hh
  rename_i hh;cases hh
  cases hp
  rename_i hu
  simp only [Option.some.injEq,Prod.mk.injEq] at hf
  obtain ⟨hof,rfl⟩:=hf
  refine key hof (by simp [isAgg,run_underlying hu]) ?_
  unfold eqV at hp
  split at hp
  rename_i hh;cases hh
  simp only [Option.some.injEq] at hp
  subst hp
  exact run_equalIn_string w d f.type _ _ hu
  rename_i hh;cases hh
  cases hp
  rename_i hu
  simp only [Option.some.injEq,Prod.mk.injEq] at hf
  obtain ⟨hof,rfl⟩:=hf
  refine key hof (by simp [isAgg,run_underlying hu]) ?_
  unfold eqV at hp
  split at hp
  rename_i hh;cases hh
  rename_i hh;cases hh
  simp only [Option.some.injEq] at hp
  subst hp
  exact run_equalIn_bool' w d f.type _ _ hu
  cases hp
  cases hf
  cases h2
  cases h2
  cases h1
theorem flt_run {ty:TypeId} {fl:List (Nat×TypeDesc)} {xs ys:Array Value} {b:Bool} (hf:flt P ty=some fl) (he:flatE fl xs ys=some b) (w:World):
  (∀op x y,(eqGuard op ty x y (.agg xs) (.agg ys)).run P w=.ok () w)∧(Op.equalIn 10000 ty (.agg xs) (.agg ys)).run P w=.ok b w:=by
 unfold flt at hf
 split at hf
 rename_i fs hu
 split at hf
 cases hf
 rename_i hg
 simp only [Bool.not_eq_true,Bool.or_eq_false_iff] at hg
 have hfo:P.fieldsOf ty=fs:=by simp [Program.fieldsOf,hu]
 refine ⟨fun op x y=>run_eqGuard_agg w op ty x y xs ys hg.2,?_⟩
 rw [run_equalIn_agg w 9999 ty xs ys (by rw [hfo];exact hu) hg.1,hfo]
 exact run_eqFields 9998 xs ys w fs.toList fl b hf he
 cases hf
theorem SL.eqAgg {ty uy:TypeId} {fl:List (Nat×TypeDesc)} {xs ys:Array Value} {b:Bool} (ho:At ops N l o t (.binOp .eql ty x y uy)) (hf:flt P ty=some fl) (hx:evl l x=some (.agg xs)) (hy:evl l y=some (.agg ys)) (he:flatE fl xs ys=some b)
  (h:SL P ro K w0 N ops Hs items Q D ((t,.bool b)::l) H):SL P ro K w0 N ops Hs (.cons (tk,o) items) Q D l H:=
 SL.val ho rfl (fun a w ha _=>by
  obtain ⟨h1,h2⟩:=flt_run hf he w
  simp [execOp,ho.op,ha.eval hx,ha.eval hy,h1,run_eql_struct,h2]) h
theorem SL.neAgg {ty uy:TypeId} {fl:List (Nat×TypeDesc)} {xs ys:Array Value} {b:Bool} (ho:At ops N l o t (.binOp .neq ty x y uy)) (hf:flt P ty=some fl) (hx:evl l x=some (.agg xs)) (hy:evl l y=some (.agg ys)) (he:flatE fl xs ys=some b)
  (h:SL P ro K w0 N ops Hs items Q D ((t,.bool (!b))::l) H):SL P ro K w0 N ops Hs (.cons (tk,o) items) Q D l H:=
 SL.val ho rfl (fun a w ha _=>by
  obtain ⟨h1,h2⟩:=flt_run hf he w
  simp [execOp,ho.op,ha.eval hx,ha.eval hy,h1,run_neq_struct,h2]) h
end Go.Proofs.YtkibffdipniemaaGreatDoor

/- Closed facts of the loaded program: types and functions, each by the kernel. No condition. -/
namespace Go.Proofs.YtkibffdipniemaaGreatDoor
open Go
set_option maxRecDepth 100000
theorem mix:Tryz.prog.follows .mixedOrders=true:=by kernel_rfl
theorem ag138:agz Tryz.prog 138=some 2:=by kernel_rfl
theorem ag143:agz Tryz.prog 143=some 4:=by kernel_rfl
theorem ag148:agz Tryz.prog 148=some 8:=by kernel_rfl
theorem ag159:agz Tryz.prog 159=some 4:=by kernel_rfl
theorem ag251:agz Tryz.prog 251=some 2:=by kernel_rfl
theorem ag255:agz Tryz.prog 255=some 4:=by kernel_rfl
theorem ag265:agz Tryz.prog 265=some 16:=by kernel_rfl
theorem ag272:agz Tryz.prog 272=some 8:=by kernel_rfl
theorem ag274:agz Tryz.prog 274=some 10:=by kernel_rfl
theorem ag288:agz Tryz.prog 288=some 4:=by kernel_rfl
theorem ag296:agz Tryz.prog 296=some 64:=by kernel_rfl
theorem ag298:agz Tryz.prog 298=some 2:=by kernel_rfl
theorem ag31:agz Tryz.prog 31=some 2:=by kernel_rfl
theorem ag54:agz Tryz.prog 54=some 3:=by kernel_rfl
theorem ag57:agz Tryz.prog 57=some 5:=by kernel_rfl
theorem ag72:agz Tryz.prog 72=some 3:=by kernel_rfl
theorem ag79:agz Tryz.prog 79=some 4:=by kernel_rfl
theorem by138:byt Tryz.prog 138=some 24:=by kernel_rfl
theorem by29:byt Tryz.prog 29=some 4:=by kernel_rfl
theorem by31:byt Tryz.prog 31=some 24:=by kernel_rfl
theorem by35:byt Tryz.prog 35=some 24:=by kernel_rfl
theorem by4:byt Tryz.prog 4=some 1:=by kernel_rfl
theorem by5:byt Tryz.prog 5=some 1:=by kernel_rfl
theorem by57:byt Tryz.prog 57=some 64:=by kernel_rfl
theorem by72:byt Tryz.prog 72=some 40:=by kernel_rfl
theorem by79:byt Tryz.prog 79=some 32:=by kernel_rfl
theorem by9:byt Tryz.prog 9=some 16:=by kernel_rfl
theorem cal100:callable Tryz.prog 100=true:=by kernel_rfl
theorem cal101:callable Tryz.prog 101=true:=by kernel_rfl
theorem cal102:callable Tryz.prog 102=true:=by kernel_rfl
theorem cal103:callable Tryz.prog 103=true:=by kernel_rfl
theorem cal104:callable Tryz.prog 104=true:=by kernel_rfl
theorem cal105:callable Tryz.prog 105=true:=by kernel_rfl
theorem cal106:callable Tryz.prog 106=true:=by kernel_rfl
theorem cal107:callable Tryz.prog 107=true:=by kernel_rfl
theorem cal108:callable Tryz.prog 108=true:=by kernel_rfl
theorem cal109:callable Tryz.prog 109=true:=by kernel_rfl
theorem cal11:callable Tryz.prog 11=true:=by kernel_rfl
theorem cal110:callable Tryz.prog 110=true:=by kernel_rfl
theorem cal111:callable Tryz.prog 111=true:=by kernel_rfl
theorem cal112:callable Tryz.prog 112=true:=by kernel_rfl
theorem cal113:callable Tryz.prog 113=true:=by kernel_rfl
theorem cal119:callable Tryz.prog 119=true:=by kernel_rfl
theorem cal12:callable Tryz.prog 12=true:=by kernel_rfl
theorem cal120:callable Tryz.prog 120=true:=by kernel_rfl
theorem cal121:callable Tryz.prog 121=true:=by kernel_rfl
theorem cal122:callable Tryz.prog 122=true:=by kernel_rfl
theorem cal123:callable Tryz.prog 123=true:=by kernel_rfl
theorem cal124:callable Tryz.prog 124=true:=by kernel_rfl
theorem cal125:callable Tryz.prog 125=true:=by kernel_rfl
theorem cal126:callable Tryz.prog 126=true:=by kernel_rfl
theorem cal127:callable Tryz.prog 127=true:=by kernel_rfl
theorem cal128:callable Tryz.prog 128=true:=by kernel_rfl
theorem cal129:callable Tryz.prog 129=true:=by kernel_rfl
theorem cal13:callable Tryz.prog 13=true:=by kernel_rfl
theorem cal136:callable Tryz.prog 136=true:=by kernel_rfl
theorem cal137:callable Tryz.prog 137=true:=by kernel_rfl
theorem cal138:callable Tryz.prog 138=true:=by kernel_rfl
theorem cal139:callable Tryz.prog 139=true:=by kernel_rfl
theorem cal140:callable Tryz.prog 140=true:=by kernel_rfl
theorem cal142:callable Tryz.prog 142=true:=by kernel_rfl
theorem cal144:callable Tryz.prog 144=true:=by kernel_rfl
theorem cal145:callable Tryz.prog 145=true:=by kernel_rfl
theorem cal146:callable Tryz.prog 146=true:=by kernel_rfl
theorem cal147:callable Tryz.prog 147=true:=by kernel_rfl
theorem cal148:callable Tryz.prog 148=true:=by kernel_rfl
theorem cal149:callable Tryz.prog 149=true:=by kernel_rfl
theorem cal15:callable Tryz.prog 15=true:=by kernel_rfl
theorem cal150:callable Tryz.prog 150=true:=by kernel_rfl
theorem cal151:callable Tryz.prog 151=true:=by kernel_rfl
theorem cal152:callable Tryz.prog 152=true:=by kernel_rfl
theorem cal153:callable Tryz.prog 153=true:=by kernel_rfl
theorem cal154:callable Tryz.prog 154=true:=by kernel_rfl
theorem cal161:callable Tryz.prog 161=true:=by kernel_rfl
theorem cal162:callable Tryz.prog 162=true:=by kernel_rfl
theorem cal163:callable Tryz.prog 163=true:=by kernel_rfl
theorem cal164:callable Tryz.prog 164=true:=by kernel_rfl
theorem cal165:callable Tryz.prog 165=true:=by kernel_rfl
theorem cal166:callable Tryz.prog 166=true:=by kernel_rfl
theorem cal167:callable Tryz.prog 167=true:=by kernel_rfl
theorem cal168:callable Tryz.prog 168=true:=by kernel_rfl
theorem cal169:callable Tryz.prog 169=true:=by kernel_rfl
theorem cal17:callable Tryz.prog 17=true:=by kernel_rfl
theorem cal170:callable Tryz.prog 170=true:=by kernel_rfl
theorem cal171:callable Tryz.prog 171=true:=by kernel_rfl
theorem cal172:callable Tryz.prog 172=true:=by kernel_rfl
theorem cal173:callable Tryz.prog 173=true:=by kernel_rfl
theorem cal174:callable Tryz.prog 174=true:=by kernel_rfl
theorem cal179:callable Tryz.prog 179=true:=by kernel_rfl
theorem cal18:callable Tryz.prog 18=true:=by kernel_rfl
theorem cal180:callable Tryz.prog 180=true:=by kernel_rfl
theorem cal181:callable Tryz.prog 181=true:=by kernel_rfl
theorem cal182:callable Tryz.prog 182=true:=by kernel_rfl
theorem cal183:callable Tryz.prog 183=true:=by kernel_rfl
theorem cal184:callable Tryz.prog 184=true:=by kernel_rfl
theorem cal187:callable Tryz.prog 187=true:=by kernel_rfl
theorem cal188:callable Tryz.prog 188=true:=by kernel_rfl
theorem cal189:callable Tryz.prog 189=true:=by kernel_rfl
theorem cal19:callable Tryz.prog 19=true:=by kernel_rfl
theorem cal190:callable Tryz.prog 190=true:=by kernel_rfl
theorem cal191:callable Tryz.prog 191=true:=by kernel_rfl
theorem cal192:callable Tryz.prog 192=true:=by kernel_rfl
theorem cal193:callable Tryz.prog 193=true:=by kernel_rfl
theorem cal194:callable Tryz.prog 194=true:=by kernel_rfl
theorem cal20:callable Tryz.prog 20=true:=by kernel_rfl
theorem cal201:callable Tryz.prog 201=true:=by kernel_rfl
theorem cal202:callable Tryz.prog 202=true:=by kernel_rfl
theorem cal203:callable Tryz.prog 203=true:=by kernel_rfl
theorem cal204:callable Tryz.prog 204=true:=by kernel_rfl
theorem cal205:callable Tryz.prog 205=true:=by kernel_rfl
theorem cal206:callable Tryz.prog 206=true:=by kernel_rfl
theorem cal21:callable Tryz.prog 21=true:=by kernel_rfl
theorem cal210:callable Tryz.prog 210=true:=by kernel_rfl
theorem cal211:callable Tryz.prog 211=true:=by kernel_rfl
theorem cal212:callable Tryz.prog 212=true:=by kernel_rfl
theorem cal213:callable Tryz.prog 213=true:=by kernel_rfl
theorem cal214:callable Tryz.prog 214=true:=by kernel_rfl
theorem cal215:callable Tryz.prog 215=true:=by kernel_rfl
theorem cal216:callable Tryz.prog 216=true:=by kernel_rfl
theorem cal22:callable Tryz.prog 22=true:=by kernel_rfl
theorem cal220:callable Tryz.prog 220=true:=by kernel_rfl
theorem cal221:callable Tryz.prog 221=true:=by kernel_rfl
theorem cal222:callable Tryz.prog 222=true:=by kernel_rfl
theorem cal225:callable Tryz.prog 225=true:=by kernel_rfl
theorem cal226:callable Tryz.prog 226=true:=by kernel_rfl
theorem cal227:callable Tryz.prog 227=true:=by kernel_rfl
theorem cal228:callable Tryz.prog 228=true:=by kernel_rfl
theorem cal229:callable Tryz.prog 229=true:=by kernel_rfl
theorem cal23:callable Tryz.prog 23=true:=by kernel_rfl
theorem cal230:callable Tryz.prog 230=true:=by kernel_rfl
theorem cal233:callable Tryz.prog 233=true:=by kernel_rfl
theorem cal235:callable Tryz.prog 235=true:=by kernel_rfl
theorem cal24:callable Tryz.prog 24=true:=by kernel_rfl
theorem cal25:callable Tryz.prog 25=true:=by kernel_rfl
theorem cal26:callable Tryz.prog 26=true:=by kernel_rfl
theorem cal27:callable Tryz.prog 27=true:=by kernel_rfl
theorem cal28:callable Tryz.prog 28=true:=by kernel_rfl
theorem cal40:callable Tryz.prog 40=true:=by kernel_rfl
theorem cal41:callable Tryz.prog 41=true:=by kernel_rfl
theorem cal42:callable Tryz.prog 42=true:=by kernel_rfl
theorem cal43:callable Tryz.prog 43=true:=by kernel_rfl
theorem cal44:callable Tryz.prog 44=true:=by kernel_rfl
theorem cal45:callable Tryz.prog 45=true:=by kernel_rfl
theorem cal46:callable Tryz.prog 46=true:=by kernel_rfl
theorem cal48:callable Tryz.prog 48=true:=by kernel_rfl
theorem cal49:callable Tryz.prog 49=true:=by kernel_rfl
theorem cal50:callable Tryz.prog 50=true:=by kernel_rfl
theorem cal51:callable Tryz.prog 51=true:=by kernel_rfl
theorem cal52:callable Tryz.prog 52=true:=by kernel_rfl
theorem cal53:callable Tryz.prog 53=true:=by kernel_rfl
theorem cal57:callable Tryz.prog 57=true:=by kernel_rfl
theorem cal58:callable Tryz.prog 58=true:=by kernel_rfl
theorem cal59:callable Tryz.prog 59=true:=by kernel_rfl
theorem cal60:callable Tryz.prog 60=true:=by kernel_rfl
theorem cal61:callable Tryz.prog 61=true:=by kernel_rfl
theorem cal62:callable Tryz.prog 62=true:=by kernel_rfl
theorem cal63:callable Tryz.prog 63=true:=by kernel_rfl
theorem cal64:callable Tryz.prog 64=true:=by kernel_rfl
theorem cal66:callable Tryz.prog 66=true:=by kernel_rfl
theorem cal67:callable Tryz.prog 67=true:=by kernel_rfl
theorem cal69:callable Tryz.prog 69=true:=by kernel_rfl
theorem cal70:callable Tryz.prog 70=true:=by kernel_rfl
theorem cal71:callable Tryz.prog 71=true:=by kernel_rfl
theorem cal72:callable Tryz.prog 72=true:=by kernel_rfl
theorem cal73:callable Tryz.prog 73=true:=by kernel_rfl
theorem cal74:callable Tryz.prog 74=true:=by kernel_rfl
theorem cal75:callable Tryz.prog 75=true:=by kernel_rfl
theorem cal76:callable Tryz.prog 76=true:=by kernel_rfl
theorem cal77:callable Tryz.prog 77=true:=by kernel_rfl
theorem cal78:callable Tryz.prog 78=true:=by kernel_rfl
theorem cal81:callable Tryz.prog 81=true:=by kernel_rfl
theorem cal82:callable Tryz.prog 82=true:=by kernel_rfl
theorem cal83:callable Tryz.prog 83=true:=by kernel_rfl
theorem cal84:callable Tryz.prog 84=true:=by kernel_rfl
theorem cal85:callable Tryz.prog 85=true:=by kernel_rfl
theorem cal86:callable Tryz.prog 86=true:=by kernel_rfl
theorem cal90:callable Tryz.prog 90=true:=by kernel_rfl
theorem cal91:callable Tryz.prog 91=true:=by kernel_rfl
theorem cal92:callable Tryz.prog 92=true:=by kernel_rfl
theorem cal93:callable Tryz.prog 93=true:=by kernel_rfl
theorem cal94:callable Tryz.prog 94=true:=by kernel_rfl
theorem cal95:callable Tryz.prog 95=true:=by kernel_rfl
theorem cal96:callable Tryz.prog 96=true:=by kernel_rfl
theorem cal97:callable Tryz.prog 97=true:=by kernel_rfl
theorem cal98:callable Tryz.prog 98=true:=by kernel_rfl
theorem ce5:Tryz.prog.cellsOf 5=1:=by kernel_rfl
theorem fl31:flt Tryz.prog 31=some [(0,.int .u32),(1,.string)]:=by kernel_rfl
theorem fl54:flt Tryz.prog 54=some [(0,.int .u32),(1,.int .u32),(2,.int .i64)]:=by kernel_rfl
theorem fl79:flt Tryz.prog 79=some [(0,.int .u64),(1,.int .u32),(2,.int .u32),(3,.string)]:=by kernel_rfl
theorem fo106_0:fo Tryz.prog 106 0=some 0:=by kernel_rfl
theorem fo106_1:fo Tryz.prog 106 1=some 1:=by kernel_rfl
theorem fo106_2:fo Tryz.prog 106 2=some 2:=by kernel_rfl
theorem fo125_0:fo Tryz.prog 125 0=some 0:=by kernel_rfl
theorem fo125_1:fo Tryz.prog 125 1=some 1:=by kernel_rfl
theorem fo125_2:fo Tryz.prog 125 2=some 2:=by kernel_rfl
theorem fo125_3:fo Tryz.prog 125 3=some 3:=by kernel_rfl
theorem fo128_1:fo Tryz.prog 128 1=some 1:=by kernel_rfl
theorem fo130_0:fo Tryz.prog 130 0=some 0:=by kernel_rfl
theorem fo130_1:fo Tryz.prog 130 1=some 4:=by kernel_rfl
theorem fo130_2:fo Tryz.prog 130 2=some 5:=by kernel_rfl
theorem fo130_3:fo Tryz.prog 130 3=some 6:=by kernel_rfl
theorem fo130_4:fo Tryz.prog 130 4=some 7:=by kernel_rfl
theorem fo132_0:fo Tryz.prog 132 0=some 0:=by kernel_rfl
theorem fo132_1:fo Tryz.prog 132 1=some 1:=by kernel_rfl
theorem fo132_2:fo Tryz.prog 132 2=some 2:=by kernel_rfl
theorem fo138_0:fo Tryz.prog 138 0=some 0:=by kernel_rfl
theorem fo138_1:fo Tryz.prog 138 1=some 1:=by kernel_rfl
theorem fo143_0:fo Tryz.prog 143 0=some 0:=by kernel_rfl
theorem fo143_1:fo Tryz.prog 143 1=some 1:=by kernel_rfl
theorem fo143_2:fo Tryz.prog 143 2=some 2:=by kernel_rfl
theorem fo143_3:fo Tryz.prog 143 3=some 3:=by kernel_rfl
theorem fo148_0:fo Tryz.prog 148 0=some 0:=by kernel_rfl
theorem fo148_1:fo Tryz.prog 148 1=some 1:=by kernel_rfl
theorem fo148_2:fo Tryz.prog 148 2=some 4:=by kernel_rfl
theorem fo148_3:fo Tryz.prog 148 3=some 5:=by kernel_rfl
theorem fo148_4:fo Tryz.prog 148 4=some 6:=by kernel_rfl
theorem fo172_0:fo Tryz.prog 172 0=some 0:=by kernel_rfl
theorem fo172_1:fo Tryz.prog 172 1=some 1:=by kernel_rfl
theorem fo194_0:fo Tryz.prog 194 0=some 0:=by kernel_rfl
theorem fo194_1:fo Tryz.prog 194 1=some 1:=by kernel_rfl
theorem fo228_0:fo Tryz.prog 228 0=some 0:=by kernel_rfl
theorem fo243_0:fo Tryz.prog 243 0=some 0:=by kernel_rfl
theorem fo255_0:fo Tryz.prog 255 0=some 0:=by kernel_rfl
theorem fo255_1:fo Tryz.prog 255 1=some 1:=by kernel_rfl
theorem fo255_2:fo Tryz.prog 255 2=some 2:=by kernel_rfl
theorem fo255_3:fo Tryz.prog 255 3=some 3:=by kernel_rfl
theorem fo274_0:fo Tryz.prog 274 0=some 0:=by kernel_rfl
theorem fo274_1:fo Tryz.prog 274 1=some 8:=by kernel_rfl
theorem fo274_2:fo Tryz.prog 274 2=some 9:=by kernel_rfl
theorem fo31_0:fo Tryz.prog 31 0=some 0:=by kernel_rfl
theorem fo31_1:fo Tryz.prog 31 1=some 1:=by kernel_rfl
theorem fo54_0:fo Tryz.prog 54 0=some 0:=by kernel_rfl
theorem fo54_1:fo Tryz.prog 54 1=some 1:=by kernel_rfl
theorem fo54_2:fo Tryz.prog 54 2=some 2:=by kernel_rfl
theorem fo57_0:fo Tryz.prog 57 0=some 0:=by kernel_rfl
theorem fo57_1:fo Tryz.prog 57 1=some 3:=by kernel_rfl
theorem fo57_2:fo Tryz.prog 57 2=some 4:=by kernel_rfl
theorem fo69_5:fo Tryz.prog 69 5=some 5:=by kernel_rfl
theorem fo72_0:fo Tryz.prog 72 0=some 0:=by kernel_rfl
theorem fo72_1:fo Tryz.prog 72 1=some 1:=by kernel_rfl
theorem fo79_0:fo Tryz.prog 79 0=some 0:=by kernel_rfl
theorem fo79_1:fo Tryz.prog 79 1=some 1:=by kernel_rfl
theorem fo79_2:fo Tryz.prog 79 2=some 2:=by kernel_rfl
theorem fo79_3:fo Tryz.prog 79 3=some 3:=by kernel_rfl
theorem fo96_0:fo Tryz.prog 96 0=some 0:=by kernel_rfl
theorem fo96_1:fo Tryz.prog 96 1=some 1:=by kernel_rfl
theorem fo96_2:fo Tryz.prog 96 2=some 2:=by kernel_rfl
theorem fo96_3:fo Tryz.prog 96 3=some 3:=by kernel_rfl
theorem fo96_4:fo Tryz.prog 96 4=some 4:=by kernel_rfl
theorem fo96_5:fo Tryz.prog 96 5=some 5:=by kernel_rfl
theorem fo99_0:fo Tryz.prog 99 0=some 0:=by kernel_rfl
theorem fo99_1:fo Tryz.prog 99 1=some 1:=by kernel_rfl
theorem fo99_2:fo Tryz.prog 99 2=some 2:=by kernel_rfl
theorem fo99_3:fo Tryz.prog 99 3=some 3:=by kernel_rfl
theorem li172:liesAt Tryz.prog Tryz.prog.depth 172 (2 / Tryz.prog.cellsOf 172) 0 172 1=true:=by kernel_rfl
theorem li228:liesAt Tryz.prog Tryz.prog.depth 228 (2 / Tryz.prog.cellsOf 228) 0 172 1=true:=by kernel_rfl
theorem li243:liesAt Tryz.prog Tryz.prog.depth 243 (2 / Tryz.prog.cellsOf 243) 0 172 1=true:=by kernel_rfl
theorem pk106:plk Tryz.prog 106=true:=by kernel_rfl
theorem pk128:plk Tryz.prog 128=true:=by kernel_rfl
theorem pk130:plk Tryz.prog 130=true:=by kernel_rfl
theorem pk132:plk Tryz.prog 132=true:=by kernel_rfl
theorem pk138:plk Tryz.prog 138=true:=by kernel_rfl
theorem pk143:plk Tryz.prog 143=true:=by kernel_rfl
theorem pk148:plk Tryz.prog 148=true:=by kernel_rfl
theorem pk194:plk Tryz.prog 194=true:=by kernel_rfl
theorem pk251:plk Tryz.prog 251=true:=by kernel_rfl
theorem pk252:plk Tryz.prog 252=true:=by kernel_rfl
theorem pk255:plk Tryz.prog 255=true:=by kernel_rfl
theorem pk274:plk Tryz.prog 274=true:=by kernel_rfl
theorem pk299:plk Tryz.prog 299=true:=by kernel_rfl
theorem pk31:plk Tryz.prog 31=true:=by kernel_rfl
theorem pk54:plk Tryz.prog 54=true:=by kernel_rfl
theorem pk57:plk Tryz.prog 57=true:=by kernel_rfl
theorem pk69:plk Tryz.prog 69=true:=by kernel_rfl
theorem pk72:plk Tryz.prog 72=true:=by kernel_rfl
theorem pk79:plk Tryz.prog 79=true:=by kernel_rfl
theorem pk96:plk Tryz.prog 96=true:=by kernel_rfl
theorem pk99:plk Tryz.prog 99=true:=by kernel_rfl
theorem pl106:plc Tryz.prog 106=some [(0,1),(1,1),(2,1)]:=by kernel_rfl
theorem pl128:plc Tryz.prog 128=some [(0,1),(1,1),(2,1)]:=by kernel_rfl
theorem pl130:plc Tryz.prog 130=some [(0,4),(4,1),(5,1),(6,1),(7,3)]:=by kernel_rfl
theorem pl132:plc Tryz.prog 132=some [(0,1),(1,1),(2,1),(3,3),(6,1),(7,1)]:=by kernel_rfl
theorem pl138:plc Tryz.prog 138=some [(0,1),(1,1)]:=by kernel_rfl
theorem pl143:plc Tryz.prog 143=some [(0,1),(1,1),(2,1),(3,1)]:=by kernel_rfl
theorem pl148:plc Tryz.prog 148=some [(0,1),(1,3),(4,1),(5,1),(6,2)]:=by kernel_rfl
theorem pl194:plc Tryz.prog 194=some [(0,1),(1,1)]:=by kernel_rfl
theorem pl251:plc Tryz.prog 251=some [(0,1),(1,1)]:=by kernel_rfl
theorem pl252:plc Tryz.prog 252=some [(0,2),(2,2),(4,2),(6,2)]:=by kernel_rfl
theorem pl255:plc Tryz.prog 255=some [(0,1),(1,1),(2,1),(3,1)]:=by kernel_rfl
theorem pl274:plc Tryz.prog 274=some [(0,8),(8,1),(9,1)]:=by kernel_rfl
theorem pl299:plc Tryz.prog 299=some [(0,2),(2,2)]:=by kernel_rfl
theorem pl31:plc Tryz.prog 31=some [(0,1),(1,1)]:=by kernel_rfl
theorem pl54:plc Tryz.prog 54=some [(0,1),(1,1),(2,1)]:=by kernel_rfl
theorem pl57:plc Tryz.prog 57=some [(0,3),(3,1),(4,1)]:=by kernel_rfl
theorem pl69:plc Tryz.prog 69=some [(0,1),(1,1),(2,1),(3,1),(4,1),(5,1)]:=by kernel_rfl
theorem pl72:plc Tryz.prog 72=some [(0,1),(1,2)]:=by kernel_rfl
theorem pl79:plc Tryz.prog 79=some [(0,1),(1,1),(2,1),(3,1)]:=by kernel_rfl
theorem pl96:plc Tryz.prog 96=some [(0,1),(1,1),(2,1),(3,1),(4,1),(5,1)]:=by kernel_rfl
theorem pl99:plc Tryz.prog 99=some [(0,1),(1,1),(2,1),(3,1)]:=by kernel_rfl
theorem sc104:scl Tryz.prog 104=true:=by kernel_rfl
theorem sc113:scl Tryz.prog 113=true:=by kernel_rfl
theorem sc116:scl Tryz.prog 116=true:=by kernel_rfl
theorem sc126:scl Tryz.prog 126=true:=by kernel_rfl
theorem sc141:scl Tryz.prog 141=true:=by kernel_rfl
theorem sc146:scl Tryz.prog 146=true:=by kernel_rfl
theorem sc170:scl Tryz.prog 170=true:=by kernel_rfl
theorem sc192:scl Tryz.prog 192=true:=by kernel_rfl
theorem sc200:scl Tryz.prog 200=true:=by kernel_rfl
theorem sc22:scl Tryz.prog 22=true:=by kernel_rfl
theorem sc24:scl Tryz.prog 24=true:=by kernel_rfl
theorem sc25:scl Tryz.prog 25=true:=by kernel_rfl
theorem sc268:scl Tryz.prog 268=true:=by kernel_rfl
theorem sc29:scl Tryz.prog 29=true:=by kernel_rfl
theorem sc3:scl Tryz.prog 3=true:=by kernel_rfl
theorem sc32:scl Tryz.prog 32=true:=by kernel_rfl
theorem sc34:scl Tryz.prog 34=true:=by kernel_rfl
theorem sc35:scl Tryz.prog 35=true:=by kernel_rfl
theorem sc36:scl Tryz.prog 36=true:=by kernel_rfl
theorem sc4:scl Tryz.prog 4=true:=by kernel_rfl
theorem sc46:scl Tryz.prog 46=true:=by kernel_rfl
theorem sc48:scl Tryz.prog 48=true:=by kernel_rfl
theorem sc5:scl Tryz.prog 5=true:=by kernel_rfl
theorem sc55:scl Tryz.prog 55=true:=by kernel_rfl
theorem sc66:scl Tryz.prog 66=true:=by kernel_rfl
theorem sc67:scl Tryz.prog 67=true:=by kernel_rfl
theorem sc9:scl Tryz.prog 9=true:=by kernel_rfl
theorem sc94:scl Tryz.prog 94=true:=by kernel_rfl
theorem sc97:scl Tryz.prog 97=true:=by kernel_rfl
theorem sz113:tsz Tryz.prog 113=some 1:=by kernel_rfl
theorem sz116:tsz Tryz.prog 116=some 1:=by kernel_rfl
theorem sz138:tsz Tryz.prog 138=some 2:=by kernel_rfl
theorem sz141:tsz Tryz.prog 141=some 1:=by kernel_rfl
theorem sz143:tsz Tryz.prog 143=some 4:=by kernel_rfl
theorem sz146:tsz Tryz.prog 146=some 1:=by kernel_rfl
theorem sz148:tsz Tryz.prog 148=some 8:=by kernel_rfl
theorem sz170:tsz Tryz.prog 170=some 1:=by kernel_rfl
theorem sz172:tsz Tryz.prog 172=some 2:=by kernel_rfl
theorem sz200:tsz Tryz.prog 200=some 1:=by kernel_rfl
theorem sz22:tsz Tryz.prog 22=some 1:=by kernel_rfl
theorem sz251:tsz Tryz.prog 251=some 2:=by kernel_rfl
theorem sz255:tsz Tryz.prog 255=some 4:=by kernel_rfl
theorem sz265:tsz Tryz.prog 265=some 16:=by kernel_rfl
theorem sz274:tsz Tryz.prog 274=some 10:=by kernel_rfl
theorem sz288:tsz Tryz.prog 288=some 4:=by kernel_rfl
theorem sz29:tsz Tryz.prog 29=some 1:=by kernel_rfl
theorem sz296:tsz Tryz.prog 296=some 64:=by kernel_rfl
theorem sz298:tsz Tryz.prog 298=some 2:=by kernel_rfl
theorem sz3:tsz Tryz.prog 3=some 1:=by kernel_rfl
theorem sz31:tsz Tryz.prog 31=some 2:=by kernel_rfl
theorem sz32:tsz Tryz.prog 32=some 1:=by kernel_rfl
theorem sz35:tsz Tryz.prog 35=some 1:=by kernel_rfl
theorem sz36:tsz Tryz.prog 36=some 1:=by kernel_rfl
theorem sz4:tsz Tryz.prog 4=some 1:=by kernel_rfl
theorem sz48:tsz Tryz.prog 48=some 1:=by kernel_rfl
theorem sz5:tsz Tryz.prog 5=some 1:=by kernel_rfl
theorem sz54:tsz Tryz.prog 54=some 3:=by kernel_rfl
theorem sz55:tsz Tryz.prog 55=some 1:=by kernel_rfl
theorem sz57:tsz Tryz.prog 57=some 5:=by kernel_rfl
theorem sz67:tsz Tryz.prog 67=some 1:=by kernel_rfl
theorem sz72:tsz Tryz.prog 72=some 3:=by kernel_rfl
theorem sz79:tsz Tryz.prog 79=some 4:=by kernel_rfl
theorem sz9:tsz Tryz.prog 9=some 1:=by kernel_rfl
theorem sz97:tsz Tryz.prog 97=some 1:=by kernel_rfl
theorem ty113:Tryz.prog.underlying 113=some (.slice 29):=by kernel_rfl
theorem ty116:Tryz.prog.underlying 116=some (.map 9 31):=by kernel_rfl
theorem ty126:Tryz.prog.underlying 126=some (.map 29 9):=by kernel_rfl
theorem ty141:Tryz.prog.underlying 141=some (.slice 5):=by kernel_rfl
theorem ty146:Tryz.prog.underlying 146=some (.slice 31):=by kernel_rfl
theorem ty159:Tryz.prog.underlying 159=some (.array 4 35):=by kernel_rfl
theorem ty166:Tryz.prog.underlying 166=some (.int .u64):=by kernel_rfl
theorem ty170:Tryz.prog.underlying 170=some (.pointer 172):=by kernel_rfl
theorem ty2:Tryz.prog.underlying 2=some (.int .i64):=by kernel_rfl
theorem ty200:Tryz.prog.underlying 200=some (.slice 35):=by kernel_rfl
theorem ty218:Tryz.prog.underlying 218=some (.pointer 5):=by kernel_rfl
theorem ty22:Tryz.prog.underlying 22=some (.slice 9):=by kernel_rfl
theorem ty24:Tryz.prog.underlying 24=some (.pointer 96):=by kernel_rfl
theorem ty25:Tryz.prog.underlying 25=some (.pointer 130):=by kernel_rfl
theorem ty251:Tryz.prog.underlying 251=some (.array 2 29):=by kernel_rfl
theorem ty252:Tryz.prog.underlying 252=some (.array 4 251):=by kernel_rfl
theorem ty257:Tryz.prog.underlying 257=some (.unsafePointer):=by kernel_rfl
theorem ty265:Tryz.prog.underlying 265=some (.array 16 29):=by kernel_rfl
theorem ty268:Tryz.prog.underlying 268=some (.pointer 274):=by kernel_rfl
theorem ty271:Tryz.prog.underlying 271=some (.array 8 29):=by kernel_rfl
theorem ty272:Tryz.prog.underlying 272=some (.array 8 29):=by kernel_rfl
theorem ty287:Tryz.prog.underlying 287=some (.array 4 3):=by kernel_rfl
theorem ty288:Tryz.prog.underlying 288=some (.array 4 29):=by kernel_rfl
theorem ty29:Tryz.prog.underlying 29=some (.int .u32):=by kernel_rfl
theorem ty296:Tryz.prog.underlying 296=some (.array 64 29):=by kernel_rfl
theorem ty298:Tryz.prog.underlying 298=some (.array 2 3):=by kernel_rfl
theorem ty299:Tryz.prog.underlying 299=some (.array 2 298):=by kernel_rfl
theorem ty3:Tryz.prog.underlying 3=some (.int .i64):=by kernel_rfl
theorem ty308:Tryz.prog.underlying 308=some (.array 5 3):=by kernel_rfl
theorem ty35:Tryz.prog.underlying 35=some (.slice 79):=by kernel_rfl
theorem ty36:Tryz.prog.underlying 36=some (.slice 72):=by kernel_rfl
theorem ty48:Tryz.prog.underlying 48=some (.int .u64):=by kernel_rfl
theorem ty5:Tryz.prog.underlying 5=some (.int .u8):=by kernel_rfl
theorem ty55:Tryz.prog.underlying 55=some (.slice 57):=by kernel_rfl
theorem ty66:Tryz.prog.underlying 66=some (.slice 138):=by kernel_rfl
theorem ty67:Tryz.prog.underlying 67=some (.slice 4):=by kernel_rfl
theorem ty9:Tryz.prog.underlying 9=some (.string):=by kernel_rfl
theorem ty94:Tryz.prog.underlying 94=some (.map 29 4):=by kernel_rfl
theorem ze106:zer Tryz.prog 106=some (.agg #[.nilFunc,.slice none 0 0,.int .i64 0]):=by kernel_rfl
theorem ze113:zer Tryz.prog 113=some (.slice none 0 0):=by kernel_rfl
theorem ze116:zer Tryz.prog 116=some (.map none):=by kernel_rfl
theorem ze128:zer Tryz.prog 128=some (.agg #[.int .u64 0,.string ⟨⟨[]⟩⟩,.int .u32 0]):=by kernel_rfl
theorem ze130:zer Tryz.prog 130=some (.agg #[.bool false,.bool false,.int .i64 0,.int .i64 0,.slice none 0 0,.map none,.map none,.int .u64 0,.string ⟨⟨[]⟩⟩,.int .u32 0]):=by kernel_rfl
theorem ze132:zer Tryz.prog 132=some (.agg #[.slice none 0 0,.slice none 0 0,.slice none 0 0,.int .u64 0,.string ⟨⟨[]⟩⟩,.int .u32 0,.int .i64 0,.bool false]):=by kernel_rfl
theorem ze138:zer Tryz.prog 138=some (.agg #[.int .u32 0,.string ⟨⟨[]⟩⟩]):=by kernel_rfl
theorem ze143:zer Tryz.prog 143=some (.agg #[.int .u32 0,.int .u32 0,.int .u32 0,.int .u64 0]):=by kernel_rfl
theorem ze148:zer Tryz.prog 148=some (.agg #[.int .i64 0,.int .u32 0,.int .u32 0,.int .i64 0,.slice none 0 0,.slice none 0 0,.int .u32 0,.string ⟨⟨[]⟩⟩]):=by kernel_rfl
theorem ze159:zer Tryz.prog 159=some (.agg #[.slice none 0 0,.slice none 0 0,.slice none 0 0,.slice none 0 0]):=by kernel_rfl
theorem ze172:zer Tryz.prog 172=some (.agg #[.pointer none,.slice none 0 0]):=by kernel_rfl
theorem ze194:zer Tryz.prog 194=some (.agg #[.string ⟨⟨[]⟩⟩,.bool false]):=by kernel_rfl
theorem ze228:zer Tryz.prog 228=some (.agg #[.pointer none,.slice none 0 0]):=by kernel_rfl
theorem ze243:zer Tryz.prog 243=some (.agg #[.pointer none,.slice none 0 0]):=by kernel_rfl
theorem ze251:zer Tryz.prog 251=some (.agg #[.int .u32 0,.int .u32 0]):=by kernel_rfl
theorem ze252:zer Tryz.prog 252=some (.agg #[.int .u32 0,.int .u32 0,.int .u32 0,.int .u32 0,.int .u32 0,.int .u32 0,.int .u32 0,.int .u32 0]):=by kernel_rfl
theorem ze255:zer Tryz.prog 255=some (.agg #[.int .u32 0,.int .u32 0,.int .u32 0,.int .u32 0]):=by kernel_rfl
theorem ze265:zer Tryz.prog 265=some (.agg #[.int .u32 0,.int .u32 0,.int .u32 0,.int .u32 0,.int .u32 0,.int .u32 0,.int .u32 0,.int .u32 0,.int .u32 0,.int .u32 0,.int .u32 0,.int .u32 0,.int .u32 0,.int .u32 0,.int .u32 0,.int .u32 0]):=by kernel_rfl
theorem ze271:zer Tryz.prog 271=some (.agg #[.int .u32 0,.int .u32 0,.int .u32 0,.int .u32 0,.int .u32 0,.int .u32 0,.int .u32 0,.int .u32 0]):=by kernel_rfl
theorem ze274:zer Tryz.prog 274=some (.agg #[.int .u32 0,.int .u32 0,.int .u32 0,.int .u32 0,.int .u32 0,.int .u32 0,.int .u32 0,.int .u32 0,.string ⟨⟨[]⟩⟩,.int .i64 0]):=by kernel_rfl
theorem ze287:zer Tryz.prog 287=some (.agg #[.int .i64 0,.int .i64 0,.int .i64 0,.int .i64 0]):=by kernel_rfl
theorem ze288:zer Tryz.prog 288=some (.agg #[.int .u32 0,.int .u32 0,.int .u32 0,.int .u32 0]):=by kernel_rfl
theorem ze29:zer Tryz.prog 29=some (.int .u32 0):=by kernel_rfl
theorem ze296:zer Tryz.prog 296=some (.agg #[.int .u32 0,.int .u32 0,.int .u32 0,.int .u32 0,.int .u32 0,.int .u32 0,.int .u32 0,.int .u32 0,.int .u32 0,.int .u32 0,.int .u32 0,.int .u32 0,.int .u32 0,.int .u32 0,.int .u32 0,.int .u32 0,.int .u32 0,.int .u32 0,.int .u32 0,.int .u32 0,.int .u32 0,.int .u32 0,.int .u32 0,.int .u32 0,.int .u32 0,.int .u32 0,.int .u32 0,.int .u32 0,.int .u32 0,.int .u32 0,.int .u32 0,.int .u32 0,.int .u32 0,.int .u32 0,.int .u32 0,.int .u32 0,.int .u32 0,.int .u32 0,.int .u32 0,.int .u32 0,.int .u32 0,.int .u32 0,.int .u32 0,.int .u32 0,.int .u32 0,.int .u32 0,.int .u32 0,.int .u32 0,.int .u32 0,.int .u32 0,.int .u32 0,.int .u32 0,.int .u32 0,.int .u32 0,.int .u32 0,.int .u32 0,.int .u32 0,.int .u32 0,.int .u32 0,.int .u32 0,.int .u32 0,.int .u32 0,.int .u32 0,.int .u32 0]):=by kernel_rfl
theorem ze298:zer Tryz.prog 298=some (.agg #[.int .i64 0,.int .i64 0]):=by kernel_rfl
theorem ze299:zer Tryz.prog 299=some (.agg #[.int .i64 0,.int .i64 0,.int .i64 0,.int .i64 0]):=by kernel_rfl
theorem ze3:zer Tryz.prog 3=some (.int .i64 0):=by kernel_rfl
theorem ze308:zer Tryz.prog 308=some (.agg #[.int .i64 0,.int .i64 0,.int .i64 0,.int .i64 0,.int .i64 0]):=by kernel_rfl
theorem ze31:zer Tryz.prog 31=some (.agg #[.int .u32 0,.string ⟨⟨[]⟩⟩]):=by kernel_rfl
theorem ze35:zer Tryz.prog 35=some (.slice none 0 0):=by kernel_rfl
theorem ze4:zer Tryz.prog 4=some (.bool false):=by kernel_rfl
theorem ze5:zer Tryz.prog 5=some (.int .u8 0):=by kernel_rfl
theorem ze54:zer Tryz.prog 54=some (.agg #[.int .u32 0,.int .u32 0,.int .i64 0]):=by kernel_rfl
theorem ze57:zer Tryz.prog 57=some (.agg #[.int .u32 0,.int .u32 0,.int .i64 0,.slice none 0 0,.slice none 0 0]):=by kernel_rfl
theorem ze69:zer Tryz.prog 69=some (.agg #[.pointer none,.slice none 0 0,.int .u32 0,.int .u32 0,.int .u64 0,.slice none 0 0]):=by kernel_rfl
theorem ze72:zer Tryz.prog 72=some (.agg #[.string ⟨⟨[]⟩⟩,.int .u32 0,.string ⟨⟨[]⟩⟩]):=by kernel_rfl
theorem ze79:zer Tryz.prog 79=some (.agg #[.int .u64 0,.int .u32 0,.int .u32 0,.string ⟨⟨[]⟩⟩]):=by kernel_rfl
theorem ze9:zer Tryz.prog 9=some (.string ⟨⟨[]⟩⟩):=by kernel_rfl
theorem ze96:zer Tryz.prog 96=some (.agg #[.pointer none,.slice none 0 0,.int .u32 0,.int .u32 0,.int .u64 0,.map none]):=by kernel_rfl
theorem ze97:zer Tryz.prog 97=some (.pointer none):=by kernel_rfl
theorem ze99:zer Tryz.prog 99=some (.agg #[.pointer none,.slice none 0 0,.slice none 0 0,.int .i64 0]):=by kernel_rfl
end Go.Proofs.YtkibffdipniemaaGreatDoor

/- Walks of the ring's functions: what a ring is, what is found in it. Condition: rings of at most 2^40 keys. -/
namespace Go.Proofs.YtkibffdipniemaaGreatDoor
open Go
variable {K:Nat→Prop} {w0:World} {H:List Chunk}

def encGB (p:UInt32×Bool):List Value:=[vU32 p.1,vB p.2]
theorem c_keys_generations (v:Value):Con Tryz.prog K w0 146 [v] [] H (fun r M=>∃b,r=.func (.func 187) #[] #[vP b 0]∧M=[own b (.cells v.cells 66)]):=by
 refine Con.enter Tryz.func146 rfl rfl ?_
 refine SX.sr ?_
 refine SL.box (.r rfl) rfl (fun _=>trivial) fun b0=>?_
 refine SL.asg (.r rfl) rfl (SL.nx (SX.sr ?_))
 refine SL.mkf (fv:=#[]) (cv:=#[_]) (.r rfl) rfl rfl ?_
 refine SL.asg (.r rfl) rfl (SL.nx (SX.ret ?_))
 exact SQ.fret (res1 rfl rfl) (ret_of (M:=[_]) ⟨b0,rfl,rfl⟩ fun _ h=>h)

theorem q_keys_generations (v:Value) (ks:List KeyA) (b:Nat) (hk:SlOf K w0 encKey 2 v ks) (hv:v.cells=#[v]) (hn:ks.length≤1099511627776):Seq Tryz.prog K w0 187 [vP b 0] [own b (.cells v.cells 66)] encGB (gensA ks):=by
 intro lp J X T hy G h0
 rw [hv]
 refine Con.enter Tryz.func187 rfl rfl ?_
 refine SX.sr (SL.asg (.r rfl) rfl (SL.nx (SX.sr (SL.ld (.r rfl) sc66 rfl (cell_own 0 rfl rfl) (SL.lenV hk (.r rfl) ty66 rfl (SL.mv (.r rfl) rfl (SL.nx (SX.block ?_))))))))
 refine SX.mono (SX.loop (α:=Nat×List Chunk) (fun x=>x.1≤ks.length∧J ((gensA ks).take x.1) x.2) (fun x=>[(0,vY lp),(3,vU32 (prevGen ks x.1)),(6,v),(7,vI ks.length),(8,vI x.1)]) (fun x=>own b (.cells #[v] 66)::(x.2++T)) (fun x=>ks.length-x.1) (fun x D hp=>?_) (0,G) ⟨Nat.zero_le _,h0⟩) (by repeat' (first | exact trivial | refine And.intro rfl ?_))
 obtain ⟨i,G⟩:=x
 obtain ⟨hi,hJ⟩:=hp
 simp only at hi hJ
 refine SX.sr (SL.bin (.r rfl) rfl rfl Bin.ltI (SL.nx (SX.seq ?_)))
 refine SX.cond rfl (fun hc=>?_) (fun hc=>?_)
 have hlt:i<ks.length:=by simpa using hc
 obtain ⟨key,hkey⟩:=get_of_lt hlt
 have hg:=gensA_get ks i hlt
 rw [getD_of hkey] at hg
 refine SX.skip (SQ.thn (SX.seq (SX.block (SX.sr ?_))))
 refine SL.iaV i key hk (.r rfl) ty66 sz138 rfl rfl rfl hkey fun be off hcell=>?_
 refine SL.ldA (encKey key) (.r rfl) ag138 rfl rfl (cells_at (hcell _)) ?_
 refine SL.alloc (.r rfl) ze138 (fun _=>trivial) fun b0=>?_
 refine SL.st 0 ⟨rfl,rfl,rfl⟩ rfl rfl rfl sz138 rfl rfl rfl trivial (SL.nx (SX.seq (SX.sr (SL.mv (.r rfl) rfl (SL.fa (.r rfl) rfl fo138_0 (SL.ld (.r rfl) sc29 rfl (cell_own 0 rfl rfl) (SL.fa (.r rfl) rfl fo138_0 (SL.ld (.r rfl) sc29 rfl (cell_own 0 rfl rfl) (SL.mv (.r rfl) rfl ?_)))))))))
 refine SL.bin (.r rfl) rfl rfl (Bin.gt32 (b:=prevGen ks i)) ?_
 refine SL.mv (.r rfl) rfl ?_
 refine SL.and (c:=decide ((key.secret.length:Int)=32)) 19 5 24 rfl (fun hb k=>?_) (fun hb k=>?_) ?_
 refine SL.fa (.r rfl) rfl fo138_1 (SL.ld (.r rfl) sc9 rfl (cell_own 0 rfl rfl) (SL.lenS (.r rfl) ty9 rfl (SL.bin (.r rfl) rfl rfl Bin.eqI (SL.pk (.r rfl) rfl rfl ?_))))
 exact k.mono (by repeat' (first | exact trivial | refine And.intro rfl ?_))
 refine SL.pass rfl rfl rfl (SL.pass rfl rfl rfl (SL.pass rfl rfl rfl (SL.pass rfl rfl rfl (SL.pk (.r rfl) rfl rfl ?_))))
 exact k.mono (by repeat' (first | exact trivial | refine And.intro rfl ?_))
 refine SL.yld (M2:=[_,_]) (G:=G) (T:=T) (vs:=[_,_]) (ok:=fun G1=>J ((gensA ks).take (i+1)) G1) (no:=X) (.r rfl) rfl ⟨rfl,rfl,trivial⟩ rfl ?_ (fun bb G1 hG1=>⟨trivial,?_⟩)
 intro M
 have:=hy _ _ _ (take_split hg).1 G hJ M
 rw [←(take_split hg).2] at this
 have e:keyOk ks i=(decide (prevGen ks i<key.gen)&&decide ((key.secret.length:Int)=32)):=by unfold keyOk;rw [getD_of hkey]
 rw [e] at this
 exact this
 refine SL.not (.r rfl) rfl (SL.nx ?_)
 refine SX.cond rfl (fun hc=>?_) (fun hc=>?_)
 obtain rfl:bb=false:=by simpa using hc
 refine SX.ret (SQ.thnR (SQ.blkR (SQ.thnR (SQ.lpR (SQ.blkR ?_)))))
 exact SQ.fret (res0 rfl) (ret_of (M:=G1) (.inr hG1) fun _ h=>h.skip [_,_])
 obtain rfl:bb=true:=by simpa using hc
 refine SX.skip (SQ.thn (SX.region (SL.fa (.r rfl) rfl fo138_0 (SL.ld (.r rfl) sc29 rfl (cell_own 0 rfl rfl) (SL.asg (.r rfl) rfl (SL.nil (SQ.blk (SQ.thn (SX.region (SL.bin (.r rfl) rfl rfl (Bin.addI (by omega) (by omega)) (SL.mv (.r rfl) rfl (SL.nil ?_))))))))))))
 refine SQ.again (i+1,G1) ⟨hlt,hG1⟩ (by simp only;omega) ⟨rfl,by rw [prevGen,getD_of hkey];rfl,rfl,rfl,rfl,trivial⟩ (fun w h=>h.skip [_])
 refine SX.exit (SQ.thnE (SQ.lpE (SQ.blkE ?_)))
 have hle:i=ks.length:=by simp at hc;omega
 exact SQ.fend (res0 rfl) (ret_of (M:=G) (.inl (by rw [List.take_of_length_le (by rw [gensA_length];omega)] at hJ;exact hJ)) fun _ h=>h.skip [_])

theorem c_keys_Right (v:Value) (ks:List KeyA) (hk:SlOf K w0 encKey 2 v ks) (hv:v.cells=#[v]) (hn:ks.length≤1099511627776):Con Tryz.prog K w0 104 [v] [] H (fun r M=>r=vB (rightA ks)∧M=[]):=by
 refine Con.enter Tryz.func104 rfl rfl ?_
 refine SX.sr (SL.asg (.r rfl) rfl (SL.nx (SX.scope (SX.sr (SL.mv (.r rfl) rfl (SL.lenV hk (.r rfl) ty66 rfl (SL.bin (.r rfl) rfl rfl Bin.leI ?_)))))))
 refine SL.alloc (.r rfl) ze4 (fun _=>trivial) fun b0=>?_
 refine SL.st 0 ⟨rfl,rfl,rfl⟩ rfl rfl rfl sz4 rfl rfl rfl trivial (SL.nx (SX.seq (SX.label (SQ.thn (SX.seq (SX.sr (SL.mv (.r rfl) rfl ?_)))))))
 refine SL.call (vs:=[_]) (Hin:=[]) (.r rfl) rfl ⟨rfl,trivial⟩ cal146 rfl rfl (c_keys_generations v) ?_
 rintro _ _ ⟨b1,rfl,rfl⟩
 refine ⟨trivial,?_⟩
 refine SL.nx (SX.block ?_)
 refine SX.range (enc:=encGB) (gensA ks) (fun pre G=>pre.all (·.2)=true∧G=own b0 (.cells #[vB (decide ((ks.length:Int)≤16))] 4)::H) (fun c G=>c=.exit 0∧(gensA ks).all (·.2)=false∧G=own b0 (.cells #[vB false] 4)::H) rfl cal187 rfl (fun _=>rfl) (q_keys_generations v ks b1 hk hv hn) rfl ⟨rfl,rfl⟩ (fun pre x suf G hxs hJ r lp Rest=>?_) (fun G D hJ=>?_) (fun c G D hX=>?_)
 obtain ⟨hpre,rfl⟩:=hJ
 refine SX.region (SL.asg (.r rfl) rfl (SL.nil (SQ.bgn (SX.block (SX.sr (SL.mv (.r rfl) rfl (SL.not (.r rfl) rfl (SL.nx ?_))))))))
 refine SX.cond rfl (fun hc=>?_) (fun hc=>?_)
 refine SX.sr (SL.st 0 ⟨rfl,rfl,rfl⟩ rfl rfl rfl sz4 rfl rfl rfl trivial (SL.nx (SX.exit (SQ.blkO ?_))))
 exact SQ.rndE ⟨rfl,by rw [hxs];simp at hc;simp [hc],rfl⟩ (fun _ h=>h)
 refine SX.skip (SQ.blk ?_)
 exact SQ.rndN ⟨by simp at hc;simp [hpre,hc],rfl⟩ (fun _ h=>h)
 obtain ⟨hall,rfl⟩:=hJ
 refine SQ.blk (SQ.thn (SX.sr (SL.ld (.r rfl) sc4 rfl (cell_own 0 rfl rfl) (SL.asg (.r rfl) rfl (SL.nx (SX.ret (SQ.scpR ?_)))))))
 exact SQ.fret (res1 rfl rfl) (ret_of (M:=[]) ⟨by simp only [rightA,hall];simp;try omega,rfl⟩ fun _ h=>h.skip [_])
 obtain ⟨rfl,hall,rfl⟩:=hX
 refine SX.exit (SQ.blkE (SQ.thn (SX.sr (SL.ld (.r rfl) sc4 rfl (cell_own 0 rfl rfl) (SL.asg (.r rfl) rfl (SL.nx (SX.ret (SQ.scpR ?_))))))))
 exact SQ.fret (res1 rfl rfl) (ret_of (M:=[]) ⟨by simp only [rightA,hall];simp;try omega,rfl⟩ fun _ h=>h.skip [_])

end Go.Proofs.YtkibffdipniemaaGreatDoor

/- Walks of the ring's functions: the place of a generation, its key. Condition: rings of at most 2^40 keys. -/
namespace Go.Proofs.YtkibffdipniemaaGreatDoor
open Go
variable {K:Nat→Prop} {w0:World} {H:List Chunk}
theorem c_keys_place_1 (k:KeyA) (g:UInt32) (b:Nat):Con Tryz.prog K w0 148 [.agg (encKey k).toArray,vP b 0] [own b (.cells #[vU32 g] 29)] H (fun r M=>r=vB (decide (g≤k.gen))∧M=[own b (.cells #[vU32 g] 29)]):=by
 refine Con.enter Tryz.func148 rfl rfl ?_
 refine SX.sr ?_
 refine SL.box (.r rfl) rfl (fun _=>trivial) fun b0=>?_
 refine SL.asg (.r rfl) rfl (SL.nx (SX.sr (SL.fa (.r rfl) rfl fo138_0 (SL.ld (.r rfl) sc29 rfl (cell_own 0 rfl rfl) (SL.ld (.r rfl) sc29 rfl (cell_own 1 rfl rfl) (SL.bin (.r rfl) rfl rfl Bin.ge32 (SL.asg (.r rfl) rfl (SL.nx (SX.ret ?_)))))))))
 exact SQ.fret (res1 rfl rfl) (ret_of (M:=[_]) ⟨rfl,rfl⟩ fun _ h=>h.skip [_])

theorem c_IndexFunc_Key (v:Value) (ks:List KeyA) (g:FuncId) (cap:List Value) (B:List Chunk) (φ:KeyA→Bool) (hk:SlOf K w0 encKey 2 v ks) (hn:ks.length≤1099511627776) (hcal:callable Tryz.prog g=true)
  (hf:∀(H:List Chunk) (k:KeyA),Con Tryz.prog K w0 g (.agg (encKey k).toArray::cap) B H (fun r M=>r=vB (φ k)∧M=B)):
  Con Tryz.prog K w0 147 [v,.func (.func g) #[] cap.toArray] B H (fun r M=>r=vI (if ks.findIdx φ<ks.length then (ks.findIdx φ:Int) else -1)∧M=B):=by
 refine Con.enter Tryz.func147 rfl rfl ?_
 refine SX.sr (SL.asg (.r rfl) rfl (SL.nx (SX.seq (SX.sr (SL.mv (.r rfl) rfl (SL.lenV hk (.r rfl) ty66 rfl (SL.mv (.r rfl) rfl (SL.nx (SX.block ?_)))))))))
 refine SX.mono (SX.loop (α:=Nat) (fun i=>i≤ks.length∧∀j y,j<i→ks[j]? = some y→φ y=false) (fun i=>[(0,v),(1,.func (.func g) #[] cap.toArray),(7,vI ks.length),(8,vI i)]) (fun i=>B++H) (fun i=>ks.length-i) (fun i D hp=>?_) 0 ⟨Nat.zero_le _,fun j y hj=>absurd hj (Nat.not_lt_zero _)⟩) (by repeat' (first | exact trivial | refine And.intro rfl ?_))
 obtain ⟨hi,hb⟩:=hp
 refine SX.sr (SL.bin (.r rfl) rfl rfl Bin.ltI (SL.nx (SX.seq ?_)))
 refine SX.cond rfl (fun hc=>?_) (fun hc=>?_)
 have hlt:i<ks.length:=by simpa using hc
 obtain ⟨key,hkey⟩:=get_of_lt hlt
 refine SX.skip (SQ.thn (SX.seq (SX.block (SX.sr (SL.mv (.r rfl) rfl (SL.asg (.r rfl) rfl (SL.nx (SX.sr (SL.mv (.r rfl) rfl (SL.mv (.r rfl) rfl (SL.mv (.r rfl) rfl ?_)))))))))))
 refine SL.iaV i key hk (.r rfl) ty66 sz138 rfl rfl rfl hkey fun be off hcell=>?_
 refine SL.ldA (encKey key) (.r rfl) ag138 rfl rfl (cells_at (hcell _)) ?_
 refine SL.call (vs:=[_]) (Hin:=B) (.r rfl) rfl ⟨rfl,trivial⟩ hcal rfl rfl (hf _ key) ?_
 rintro _ M ⟨rfl,hM⟩
 rw [hM]
 refine ⟨trivial,?_⟩
 refine SL.nx ?_
 refine SX.cond rfl (fun hc2=>?_) (fun hc2=>?_)
 refine SX.sr (SL.mv (.r rfl) rfl (SL.asg (.r rfl) rfl (SL.nx (SX.ret (SQ.blkR (SQ.thnR (SQ.lpR (SQ.blkR (SQ.thnR ?_)))))))))
 exact SQ.fret (res1 rfl rfl) (ret_of (M:=B) ⟨by rw [findIdx_at hkey hc2 hb];simp [hlt],rfl⟩ fun _ h=>h)
 refine SX.skip (SQ.blk (SQ.thn (SX.region (SL.bin (.r rfl) rfl rfl (Bin.addI (by omega) (by omega)) (SL.mv (.r rfl) rfl (SL.nil ?_))))))
 refine SQ.again (i+1) ⟨hlt,fun j y hj hy=>?_⟩ (by omega) ⟨rfl,rfl,rfl,rfl,trivial⟩
 rcases Nat.lt_or_ge j i with h | h
 exact hb j y h hy
 obtain rfl:j=i:=by omega
 rw [hkey] at hy
 cases hy
 exact hc2
 refine SX.exit (SQ.thnE (SQ.lpE (SQ.blkE (SQ.thn (SX.sr (SL.asg (.r rfl) rfl (SL.nx (SX.ret ?_))))))))
 have hle:i=ks.length:=by simp at hc;omega
 exact SQ.fret (res1 rfl rfl) (ret_of (M:=B) ⟨by rw [findIdx_no (fun j y hy=>hb j y (by obtain ⟨h,_⟩:=List.getElem?_eq_some_iff.1 hy;omega) hy)];simp,rfl⟩ fun _ h=>h)

theorem c_keys_place (v:Value) (ks:List KeyA) (g:UInt32) (hk:SlOf K w0 encKey 2 v ks) (hn:ks.length≤1099511627776):Con Tryz.prog K w0 105 [v,vU32 g] [] H (fun r M=>r=.tuple #[vI (placeA g ks),vB (thereA g ks)]∧M=[]):=by
 refine Con.enter Tryz.func105 rfl rfl ?_
 refine SX.sr ?_
 refine SL.box (.r rfl) rfl (fun _=>trivial) fun b0=>?_
 refine SL.asg (.r rfl) rfl (SL.asg (.r rfl) rfl (SL.nx (SX.sr (SL.mv (.r rfl) rfl ?_))))
 refine SL.mkf (fv:=#[]) (cv:=#[_]) (.r rfl) rfl rfl ?_
 refine SL.call (vs:=[_,_]) (Hin:=[_]) (.r rfl) rfl ⟨rfl,rfl,trivial⟩ cal147 rfl rfl (c_IndexFunc_Key v ks 148 [vP b0 0] [_] (fun k=>decide (g≤k.gen)) hk hn cal148 (fun H k=>c_keys_place_1 k g b0)) ?_
 rintro _ _ ⟨rfl,rfl⟩
 refine ⟨trivial,?_⟩
 change SL _ _ _ _ _ _ _ _ _ _ ((9,vI (if placeA g ks<ks.length then (placeA g ks:Int) else -1))::_) _
 generalize hpl:placeA g ks=pl
 refine SL.asg (.r rfl) rfl (SL.nx (SX.seq (SX.sr (SL.mv (.r rfl) rfl (SL.bin (.r rfl) rfl rfl Bin.ltI (SL.nx ?_))))))
 refine SX.cond rfl (fun hc=>?_) (fun hc=>?_)
 refine SX.sr ?_
 have hnl:¬pl<ks.length:=by intro h;simp [h] at hc;omega
 have hpe:pl=ks.length:=by have:=placeA_le g ks;omega
 refine SL.mv (.r rfl) rfl (SL.lenV hk (.r rfl) ty66 rfl (SL.asg (.r rfl) rfl (SL.asg (.r rfl) rfl (SL.nx (SX.ret (SQ.thnR ?_))))))
 exact SQ.fret (res2 rfl rfl rfl) (ret_of (M:=[]) ⟨by simp [thereA,hpl,hpe],rfl⟩ fun _ h=>h.skip [_])
 have hlt:pl<ks.length:=by
  rcases Nat.lt_or_ge pl ks.length with h | h
  exact h
  simp [Nat.not_lt.2 h] at hc
 rw [if_pos hlt]
 obtain ⟨key,hkey⟩:=get_of_lt hlt
 refine SX.skip (SQ.thn (SX.seq (SX.drawI mix [0] (Pl.of [(true,0),(true,1),(true,2),(true,3),(true,4),(true,5),(true,6),(true,7),(true,8),(true,9)]) (by kernel_rfl) (SL.mv (.r rfl) rfl (SL.mv (.r rfl) rfl (SL.mv (.r rfl) rfl ?_))))))
 refine SL.iaV pl key hk (.r rfl) ty66 sz138 rfl rfl rfl hkey fun be off hcell=>?_
 refine SL.fa (.r rfl) rfl fo138_0 ?_
 refine SL.ld (.r rfl) sc29 rfl (fun w hw=>hcell _ w hw 0 _ rfl) ?_
 refine SL.ld (.r rfl) sc29 rfl (cell_own 0 rfl rfl) (SL.bin (.r rfl) rfl rfl Bin.eq32 (SL.asg (.r rfl) rfl (SL.asg (.r rfl) rfl (SL.nx (SX.ret ?_)))))
 exact SQ.fret (res2 rfl rfl rfl) (ret_of (M:=[]) ⟨by simp [thereA,hpl,hkey],rfl⟩ fun _ h=>h.skip [_])

theorem c_keys_Find (v:Value) (ks:List KeyA) (g:UInt32) (hk:SlOf K w0 encKey 2 v ks) (hv:v.cells=#[v]) (hn:ks.length≤1099511627776):Con Tryz.prog K w0 72 [v,vU32 g] [] H (fun r M=>r=.tuple #[.agg (encKey (findA ks g).1).toArray,vI (findA ks g).2]∧M=[]):=by
 refine Con.enter Tryz.func72 rfl rfl ?_
 refine SX.sr ?_
 refine SL.alloc (.r rfl) ze138 (fun _=>trivial) fun b0=>?_
 refine SL.asg (.r rfl) rfl (SL.nx (SX.seq (SX.sr (SL.mv (.r rfl) rfl ?_))))
 refine SL.call (vs:=[_]) (Hin:=[]) (.r rfl) rfl ⟨rfl,trivial⟩ cal104 rfl rfl (c_keys_Right v ks hk hv hn) ?_
 rintro _ _ ⟨rfl,rfl⟩
 refine ⟨trivial,?_⟩
 refine SL.not (.r rfl) rfl (SL.nx ?_)
 refine SX.cond rfl (fun hc=>?_) (fun hc=>?_)
 have hf:findA ks g=(key0,40):=by unfold findA;rw [if_pos (by simpa using hc)]
 rw [hf]
 refine SX.sr (SL.bld [] (.r rfl) pl138 pk138 ze138 trivial rfl (SL.st 0 ⟨rfl,rfl,rfl⟩ rfl rfl rfl sz138 rfl rfl rfl trivial (SL.asg (.r rfl) rfl (SL.nx (SX.ret (SQ.thnR ?_))))))
 exact SQ.fret (resv2 rfl (resv.ag 0 (encKey key0) ag138 rfl rfl rfl rfl) rfl) (ret_of (M:=[]) ⟨rfl,rfl⟩ fun _ h=>h.skip [_])
 have hr:rightA ks=true:=by simpa using hc
 refine SX.skip (SQ.thn (SX.sr (SL.mv (.r rfl) rfl (SL.mv (.r rfl) rfl ?_))))
 refine SL.call (vs:=[_,_]) (Hin:=[]) (.r rfl) rfl ⟨rfl,rfl,trivial⟩ cal105 rfl rfl (c_keys_place v ks g hk hn) ?_
 rintro _ _ ⟨rfl,rfl⟩
 refine ⟨trivial,?_⟩
 refine SL.mv (.r rfl) rfl (SL.ext (.r rfl) rfl rfl (SL.ext (.r rfl) rfl rfl (SL.asg (.r rfl) rfl (SL.asg (.r rfl) rfl (SL.nx (SX.seq (SX.sr (SL.mv (.r rfl) rfl (SL.not (.r rfl) rfl (SL.nx ?_))))))))))
 refine SX.cond rfl (fun hc=>?_) (fun hc=>?_)
 have hf:findA ks g=(key0,41):=by
  have:thereA g ks=false:=by simpa using hc
  unfold thereA at this
  unfold findA
  rw [hr]
  cases h:ks[placeA g ks]? with
  | none=>simp
  | some k=>rw [h] at this;simp at this;simp [this]
 rw [hf]
 refine SX.sr (SL.bld [] (.r rfl) pl138 pk138 ze138 trivial rfl (SL.st 0 ⟨rfl,rfl,rfl⟩ rfl rfl rfl sz138 rfl rfl rfl trivial (SL.asg (.r rfl) rfl (SL.nx (SX.ret (SQ.thnR ?_))))))
 exact SQ.fret (resv2 rfl (resv.ag 0 (encKey key0) ag138 rfl rfl rfl rfl) rfl) (ret_of (M:=[]) ⟨rfl,rfl⟩ fun _ h=>h.skip [_])
 have hth:thereA g ks=true:=by simpa using hc
 obtain ⟨key,hkey,hg⟩:∃key,ks[placeA g ks]? = some key∧key.gen=g:=by
  unfold thereA at hth
  cases h:ks[placeA g ks]? with
  | none=>rw [h] at hth;cases hth
  | some k=>rw [h] at hth;exact ⟨k,rfl,by simpa using hth⟩
 have hf:findA ks g=(key,0):=by
  unfold findA
  rw [hr]
  simp [hkey,hg]
 rw [hf]
 refine SX.skip (SQ.thn (SX.sr (SL.mv (.r rfl) rfl (SL.mv (.r rfl) rfl ?_))))
 refine SL.iaV (placeA g ks) key hk (.r rfl) ty66 sz138 rfl rfl rfl hkey fun be off hcell=>?_
 refine SL.ldA (encKey key) (.r rfl) ag138 rfl rfl (cells_at (hcell _)) (SL.st 0 ⟨rfl,rfl,rfl⟩ rfl rfl rfl sz138 rfl rfl rfl trivial (SL.asg (.r rfl) rfl (SL.nx (SX.ret ?_))))
 exact SQ.fret (resv2 rfl (resv.ag 0 (encKey key) ag138 rfl rfl rfl rfl) rfl) (ret_of (M:=[]) ⟨rfl,rfl⟩ fun _ h=>h.skip [_])

end Go.Proofs.YtkibffdipniemaaGreatDoor

/- Walks of small functions: the tag of a block, words turned. No condition. -/
namespace Go.Proofs.YtkibffdipniemaaGreatDoor
open Go
variable {K:Nat→Prop} {w0:World} {H:List Chunk}

theorem c_seal_Tag (b:List UInt8) (hb:b.length≤9223372036854775807):Con Tryz.prog K w0 78 [vS b] [] H (fun v M=>v=vS (b.drop (b.length-32))∧M=[]):=by
 refine Con.enter Tryz.func78 rfl rfl ?_
 refine SX.seq (SX.region (SL.asg (.r rfl) rfl (SL.nil (SQ.thn (SX.seq (SX.region (SL.mv (.r rfl) rfl (SL.mv (.r rfl) rfl (SL.lenS (.r rfl) ty9 rfl (SL.bin (.r rfl) rfl rfl (Bin.subI (by omega) (by omega)) (SL.maxI (.r rfl) rfl rfl (SL.slSl (b.length-32) (.r rfl) ty9 rfl rfl (by omega) (by omega) (SL.asg (.r rfl) rfl (SL.nil (SQ.thn (SX.ret ?_))))))))))))))))
 exact SQ.fret (res1 rfl rfl) (ret_of (M:=[]) ⟨rfl,rfl⟩ fun _ h=>h.skip [])

def rotl32 (x:UInt32) (k:Int):UInt32:=shl32 x (toU64 k &&& 31).toNat ||| shr32 x (32-(toU64 k &&& 31)).toNat
theorem c_math_bits_RotateLeft32 (x:UInt32) (k:Int):Con Tryz.prog K w0 227 [vU32 x,vI k] [] H (fun v M=>v=vU32 (rotl32 x k)∧M=[]):=by
 refine Con.enter Tryz.func227 rfl rfl ?_
 refine SX.seq (SX.region (SL.asg (.r rfl) rfl (SL.nil (SQ.thn (SX.seq (SX.region (SL.mv (.r rfl) rfl (SL.cv (.r rfl) rfl (Cv.i_64 ty3 ty166) ?_))))))))
 refine SL.bin (.r rfl) rfl rfl (Bin.and64 (b:=31)) ?_
 refine SL.asg (.r rfl) rfl (SL.nil (SQ.thn (SX.seq (SX.region (SL.mv (.r rfl) rfl (SL.mv (.r rfl) rfl (SL.bin (.r rfl) rfl rfl Bin.shl32 (SL.mv (.r rfl) rfl (SL.mv (.r rfl) rfl ?_)))))))))
 refine SL.bin (.r rfl) rfl rfl (Bin.sub64 (a:=32)) ?_
 refine SL.bin (.r rfl) rfl rfl Bin.shr32 (SL.bin (.r rfl) rfl rfl Bin.or32 (SL.asg (.r rfl) rfl (SL.nil (SQ.thn (SX.ret ?_)))))
 exact SQ.fret (res1 rfl rfl) (ret_of (M:=[]) ⟨rfl,rfl⟩ fun _ h=>h.skip [])
end Go.Proofs.YtkibffdipniemaaGreatDoor

/- Walks of SHA-256's words: a word turned, a part's sixty-four words. Condition: a part has sixty-four bytes. -/
namespace Go.Proofs.YtkibffdipniemaaGreatDoor
open Go
variable {K:Nat→Prop} {w0:World} {H:List Chunk}

theorem turn_all:∀n:Fin 32,0<n.1→(toU64 (-(n.1:Int)) &&& 31).toNat=32-n.1∧(32-(toU64 (-(n.1:Int)) &&& 31)).toNat=n.1:=by decide
theorem rotl_neg (x:UInt32) (n:Nat) (h0:0<n) (h1:n<32):rotl32 x (-(n:Int))=rotr x n:=by
 obtain ⟨e1,e2⟩:=turn_all ⟨n,h1⟩ h0
 simp only at e1 e2
 unfold rotl32 rotr
 rw [e1,e2,UInt32.or_comm]
theorem c_sha_turn (x:UInt32) (n:Nat) (h0:0<n) (h1:n<32):Con Tryz.prog K w0 229 [vU32 x,vI n] [] H (fun r M=>r=vU32 (rotr x n)∧M=[]):=by
 refine Con.enter Tryz.func229 rfl rfl ?_
 refine SX.sr (SL.asg (.r rfl) rfl (SL.nx (SX.sr (SL.mv (.r rfl) rfl (SL.mv (.r rfl) rfl (SL.negI (.r rfl) rfl (by omega) (by omega) ?_))))))
 refine SL.call (vs:=[_,_]) (Hin:=[]) (.r rfl) rfl ⟨rfl,rfl,trivial⟩ cal227 rfl rfl (c_math_bits_RotateLeft32 x (-(n:Int))) ?_
 rintro _ _ ⟨rfl,rfl⟩
 refine ⟨trivial,?_⟩
 refine SL.asg (.r rfl) rfl (SL.nx (SX.ret ?_))
 exact SQ.fret (res1 rfl rfl) (ret_of (M:=[]) ⟨by rw [rotl_neg x n h0 h1],rfl⟩ fun _ h=>h.skip [])

theorem c_sha_spread (s:List UInt8) (hs:s.length=64):Con Tryz.prog K w0 228 [vS s] [] H (fun r M=>r=.agg (arr vU32 (spreadA s))∧M=[]):=by
 refine Con.enter Tryz.func228 rfl rfl ?_
 refine SX.sr ?_
 refine SL.alloc (.r rfl) ze296 (fun _=>trivial) fun b0=>?_
 refine SL.nx (SX.sr ?_)
 refine SL.alloc (.r rfl) ze296 (fun _=>trivial) fun b1=>?_
 refine SL.nx (SX.seq (SX.sr (SL.mv (.r rfl) rfl (SL.nx (SX.block ?_)))))
 refine SX.mono (SX.loop (α:=Nat) (fun i=>i≤64) (fun i=>[(0,vS s),(2,vP b0 0),(3,vP b1 0),(8,vI i)]) (fun i=>own b1 (.cells (arr vU32 (spreadN s i++List.replicate (64-i) 0)) 296)::own b0 (.cells (arr vU32 (List.replicate 64 0)) 296)::H) (fun i=>64-i) (fun i D hp=>?_) 0 (by omega)) (by repeat' (first | exact trivial | refine And.intro rfl ?_))
 have hlen:=spreadN_length s i
 refine SX.sr (SL.bin (.r rfl) rfl rfl Bin.ltI (SL.nx (SX.seq ?_)))
 refine SX.cond rfl (fun hc1=>?_) (fun hc1=>?_)
 have hi:i<64:=by simp at hc1;omega
 refine SX.skip (SQ.thn (SX.seq (SX.block (SX.sr (SL.mv (.r rfl) rfl (SL.asg (.r rfl) rfl (SL.nx (SX.seq (SX.sr (SL.mv (.r rfl) rfl (SL.bin (.r rfl) rfl rfl Bin.ltI (SL.nx ?_))))))))))))
 refine SX.cond rfl (fun hc2=>?_) (fun hc2=>?_)
 have h16:i<16:=by simp at hc2;omega
 refine SX.sr (SL.mv (.r rfl) rfl (SL.bin (.r rfl) rfl rfl (Bin.mulI (by omega) (by omega)) (SL.asg (.r rfl) rfl (SL.nx (SX.seq (SX.drawI mix [] (Pl.ap [(true,0),(true,1),(true,2),(true,3),(true,4),(true,5),(true,6),(true,7),(true,8),(true,9),(true,10),(true,11),(true,12),(true,13),(true,14),(true,15),(true,16),(true,17),(true,18),(true,19),(true,20),(true,21),(true,22),(true,23),(true,24),(true,25),(true,26)] (.last 27 .nil)) (by kernel_rfl) (SL.mv (.r rfl) rfl (SL.mv (.r rfl) rfl (SL.mv (.r rfl) rfl (SL.ixS (4*i) (.r rfl) ty9 rfl rfl (by omega) (by omega) ?_))))))))))
 refine SL.cv (.r rfl) rfl (Cv.u8_32 ty5 ty29) ?_
 refine SL.bin (.r rfl) rfl rfl (Bin.shl32 (n:=24)) ?_
 refine SL.mv (.r rfl) rfl (SL.mv (.r rfl) rfl (SL.bin (.r rfl) rfl rfl (Bin.addI (by omega) (by omega)) (SL.ixS ((4*i)+1) (.r rfl) ty9 rfl rfl (by omega) (by omega) (SL.cv (.r rfl) rfl (Cv.u8_32 ty5 ty29) ?_))))
 refine SL.bin (.r rfl) rfl rfl (Bin.shl32 (n:=16)) ?_
 refine SL.bin (.r rfl) rfl rfl Bin.or32 (SL.mv (.r rfl) rfl (SL.mv (.r rfl) rfl (SL.bin (.r rfl) rfl rfl (Bin.addI (by omega) (by omega)) (SL.ixS ((4*i)+2) (.r rfl) ty9 rfl rfl (by omega) (by omega) (SL.cv (.r rfl) rfl (Cv.u8_32 ty5 ty29) ?_)))))
 refine SL.bin (.r rfl) rfl rfl (Bin.shl32 (n:=8)) ?_
 refine SL.bin (.r rfl) rfl rfl Bin.or32 (SL.mv (.r rfl) rfl (SL.mv (.r rfl) rfl (SL.bin (.r rfl) rfl rfl (Bin.addI (by omega) (by omega)) (SL.ixS ((4*i)+3) (.r rfl) ty9 rfl rfl (by omega) (by omega) (SL.cv (.r rfl) rfl (Cv.u8_32 ty5 ty29) (SL.bin (.r rfl) rfl rfl Bin.or32 ?_))))))
 refine SL.iaAp (n:=i) (.r rfl) ty296 sz29 rfl rfl (by omega) (by omega) ?_
 refine SL.last ?_
 refine SL.stA (f:=vU32) 0 ⟨rfl,rfl,rfl⟩ rfl rfl rfl sz29 rfl rfl (by simp;omega) trivial ?_
 rw [fill_set _ _ _ 64 i hlen hi]
 refine SL.nx (SX.exit (SQ.thnE (SQ.blkE (SQ.thn (SX.region (SL.bin (.r rfl) rfl rfl (Bin.addI (by omega) (by omega)) (SL.mv (.r rfl) rfl (SL.nil ?_))))))))
 refine SQ.again (i+1) (by omega) (by omega) ⟨rfl,rfl,rfl,rfl,trivial⟩ (fun w h=>by
  have e:nextW s (spreadN s i)=wordBE s (4*i):=by unfold nextW;rw [hlen,if_pos h16]
  rw [spreadN,e]
  exact h)
 have h16:16≤i:=by simp at hc2;omega
 refine SX.skip (SQ.thn (SX.seq (SX.drawI mix [0] (Pl.of [(true,0),(true,1),(true,2),(true,3),(true,4),(true,5),(true,6),(true,7),(true,8),(true,9)]) (by kernel_rfl) (SL.mv (.r rfl) rfl (SL.bin (.r rfl) rfl rfl (Bin.subI (by omega) (by omega)) ?_)))))
 refine SL.iaAp (n:=(i-15)) (.r rfl) ty296 sz29 rfl rfl (by omega) (by omega) ?_
 refine SL.ld (.r rfl) sc29 rfl (cell_own 0 rfl (arr_app 0 (by omega))) (SL.mv (.r rfl) rfl (SL.bin (.r rfl) rfl rfl (Bin.subI (by omega) (by omega)) ?_))
 refine SL.iaAp (n:=(i-2)) (.r rfl) ty296 sz29 rfl rfl (by omega) (by omega) ?_
 refine SL.ld (.r rfl) sc29 rfl (cell_own 0 rfl (arr_app 0 (by omega))) (SL.asg (.r rfl) rfl (SL.asg (.r rfl) rfl (SL.nx (SX.drawI mix [0] (Pl.ap [(true,0),(true,1),(true,2),(true,3),(true,4),(true,5),(true,6),(true,7),(true,8),(true,9),(true,10),(true,12),(true,15),(true,16),(true,19),(true,21),(true,24),(true,25),(false,11),(false,13),(true,14),(true,17),(true,18),(false,20),(false,22),(true,23),(true,26),(true,27),(true,28)] (.last 29 .nil)) (by kernel_rfl) (SL.mv (.r rfl) rfl (SL.mv (.r rfl) rfl (SL.bin (.r rfl) rfl rfl (Bin.subI (by omega) (by omega)) ?_)))))))
 refine SL.iaAp (n:=(i-16)) (.r rfl) ty296 sz29 rfl rfl (by omega) (by omega) ?_
 refine SL.ld (.r rfl) sc29 rfl (cell_own 0 rfl (arr_app 0 (by omega))) (SL.mv (.r rfl) rfl (SL.bin (.r rfl) rfl rfl (Bin.subI (by omega) (by omega)) ?_))
 refine SL.iaAp (n:=(i-7)) (.r rfl) ty296 sz29 rfl rfl (by omega) (by omega) ?_
 refine SL.ld (.r rfl) sc29 rfl (cell_own 0 rfl (arr_app 0 (by omega))) (SL.bin (.r rfl) rfl rfl Bin.add32 (SL.mv (.r rfl) rfl (SL.mv (.r rfl) rfl (SL.mv (.r rfl) rfl ?_))))
 refine SL.bin (.r rfl) rfl rfl (Bin.shr32 (n:=3)) ?_
 refine SL.mv (.r rfl) rfl (SL.mv (.r rfl) rfl (SL.mv (.r rfl) rfl ?_))
 refine SL.bin (.r rfl) rfl rfl (Bin.shr32 (n:=10)) ?_
 refine SL.call (vs:=[_,_]) (Hin:=[]) (.r rfl) rfl ⟨rfl,rfl,trivial⟩ cal229 rfl rfl (c_sha_turn _ 7 (by omega) (by omega)) ?_
 rintro _ _ ⟨rfl,rfl⟩
 refine ⟨⟨⟨0,rfl⟩,trivial⟩,?_⟩
 refine SL.call (vs:=[_,_]) (Hin:=[]) (.r rfl) rfl ⟨rfl,rfl,trivial⟩ cal229 rfl rfl (c_sha_turn _ 18 (by omega) (by omega)) ?_
 rintro _ _ ⟨rfl,rfl⟩
 refine ⟨⟨⟨0,rfl⟩,trivial⟩,?_⟩
 refine SL.bin (.r rfl) rfl rfl Bin.xor32 (SL.bin (.r rfl) rfl rfl Bin.xor32 (SL.bin (.r rfl) rfl rfl Bin.add32 ?_))
 refine SL.call (vs:=[_,_]) (Hin:=[]) (.r rfl) rfl ⟨rfl,rfl,trivial⟩ cal229 rfl rfl (c_sha_turn _ 17 (by omega) (by omega)) ?_
 rintro _ _ ⟨rfl,rfl⟩
 refine ⟨⟨⟨0,rfl⟩,trivial⟩,?_⟩
 refine SL.call (vs:=[_,_]) (Hin:=[]) (.r rfl) rfl ⟨rfl,rfl,trivial⟩ cal229 rfl rfl (c_sha_turn _ 19 (by omega) (by omega)) ?_
 rintro _ _ ⟨rfl,rfl⟩
 refine ⟨⟨⟨0,rfl⟩,trivial⟩,?_⟩
 refine SL.bin (.r rfl) rfl rfl Bin.xor32 (SL.bin (.r rfl) rfl rfl Bin.xor32 (SL.bin (.r rfl) rfl rfl Bin.add32 ?_))
 refine SL.iaAp (n:=i) (.r rfl) ty296 sz29 rfl rfl (by omega) (by omega) ?_
 refine SL.last ?_
 refine SL.stA (f:=vU32) 0 ⟨rfl,rfl,rfl⟩ rfl rfl rfl sz29 rfl rfl (by simp;omega) trivial ?_
 rw [fill_set _ _ _ 64 i hlen hi]
 refine SL.nil (SQ.blk (SQ.thn (SX.region (SL.bin (.r rfl) rfl rfl (Bin.addI (by omega) (by omega)) (SL.mv (.r rfl) rfl (SL.nil ?_))))))
 refine SQ.again (i+1) (by omega) (by omega) ⟨rfl,rfl,rfl,rfl,trivial⟩ (fun w h=>by
  have e:nextW s (spreadN s i)=(spreadN s i).getD (i-16) 0+(spreadN s i).getD (i-7) 0+sig0 ((spreadN s i).getD (i-15) 0)+sig1 ((spreadN s i).getD (i-2) 0):=by unfold nextW;rw [hlen,if_neg (by omega)]
  rw [spreadN,e]
  exact h)
 have hi:i=64:=by simp at hc1;omega
 subst hi
 refine SX.exit (SQ.thnE (SQ.lpE (SQ.blkE (SQ.thn (SX.sr ?_)))))
 refine SL.ldA ((spreadA s).map vU32) (.r rfl) ag296 (by simp [spreadA,hlen]) rfl (cells_own 0 rfl (fun j u hu=>by simpa [arr,spreadA] using hu)) ?_
 refine SL.stF 1 ⟨rfl,rfl,rfl⟩ rfl rfl rfl sz296 (by simp [spreadA,hlen]) (by simp [arr]) (arr_one (fun _=>rfl) (spreadA s)) trivial ?_
 refine SL.nx (SX.ret ?_)
 exact SQ.fret (resv1 rfl (resv.ag 1 ((spreadA s).map vU32) ag296 (by simp [spreadA,hlen]) rfl rfl (by simp only [List.drop_zero];exact List.take_of_length_le (by simp [spreadA,hlen])))) (ret_of (M:=[]) ⟨rfl,rfl⟩ fun _ h=>h.skip [_,_])

end Go.Proofs.YtkibffdipniemaaGreatDoor

/- The walk of SHA-256's part: sixty-four bytes laid to eight words. Condition: the program's table is kept. -/
namespace Go.Proofs.YtkibffdipniemaaGreatDoor
open Go
variable {K:Nat→Prop} {w0:World} {H:List Chunk}
theorem c_sha_laysL (T h:List UInt32) (tl:List Value) (s:List UInt8) (b:Nat) (e:TypeId) (hT:Tab K w0 3 T) (hTl:T.length=64) (hh:h.length=8) (hs:s.length=64):Con Tryz.prog K w0 214 [vP b 0,vS s] [own b (.cells (arrT vU32 h tl) e)] H (fun r M=>r=.tuple #[]∧M=[own b (.cells (arrT vU32 (laysL T h s) tl) e)]):=by
 refine Con.enter Tryz.func214 rfl rfl ?_
 refine SX.seq (SX.drawI mix [0] (Pl.of [(true,0),(true,1),(true,2),(true,3),(true,4),(true,5),(true,6),(true,7),(true,8),(true,9),(true,10),(true,11),(true,12),(true,13),(true,14),(true,15),(true,16),(true,17),(true,18),(true,19),(true,20),(true,21),(true,22),(true,23),(true,24),(true,25),(true,26),(true,27),(true,28),(true,29),(true,30),(true,31),(true,32),(true,33),(true,34),(true,35),(true,36),(true,37),(true,38),(true,39)]) (by kernel_rfl) (SL.mv (.r rfl) rfl (SL.nchk (.r rfl) rfl ?_)))
 refine SL.iaAp (n:=0) (.r rfl) ty272 sz29 rfl rfl (by omega) (by omega) ?_
 refine SL.ld (.r rfl) sc29 rfl (cell_own 0 rfl (arrT_app 0 (by omega))) (SL.mv (.r rfl) rfl (SL.nchk (.r rfl) rfl ?_))
 refine SL.iaAp (n:=1) (.r rfl) ty272 sz29 rfl rfl (by omega) (by omega) ?_
 refine SL.ld (.r rfl) sc29 rfl (cell_own 0 rfl (arrT_app 0 (by omega))) (SL.mv (.r rfl) rfl (SL.nchk (.r rfl) rfl ?_))
 refine SL.iaAp (n:=2) (.r rfl) ty272 sz29 rfl rfl (by omega) (by omega) ?_
 refine SL.ld (.r rfl) sc29 rfl (cell_own 0 rfl (arrT_app 0 (by omega))) (SL.mv (.r rfl) rfl (SL.nchk (.r rfl) rfl ?_))
 refine SL.iaAp (n:=3) (.r rfl) ty272 sz29 rfl rfl (by omega) (by omega) ?_
 refine SL.ld (.r rfl) sc29 rfl (cell_own 0 rfl (arrT_app 0 (by omega))) (SL.mv (.r rfl) rfl (SL.nchk (.r rfl) rfl ?_))
 refine SL.iaAp (n:=4) (.r rfl) ty272 sz29 rfl rfl (by omega) (by omega) ?_
 refine SL.ld (.r rfl) sc29 rfl (cell_own 0 rfl (arrT_app 0 (by omega))) (SL.mv (.r rfl) rfl (SL.nchk (.r rfl) rfl ?_))
 refine SL.iaAp (n:=5) (.r rfl) ty272 sz29 rfl rfl (by omega) (by omega) ?_
 refine SL.ld (.r rfl) sc29 rfl (cell_own 0 rfl (arrT_app 0 (by omega))) (SL.mv (.r rfl) rfl (SL.nchk (.r rfl) rfl ?_))
 refine SL.iaAp (n:=6) (.r rfl) ty272 sz29 rfl rfl (by omega) (by omega) ?_
 refine SL.ld (.r rfl) sc29 rfl (cell_own 0 rfl (arrT_app 0 (by omega))) (SL.mv (.r rfl) rfl (SL.nchk (.r rfl) rfl ?_))
 refine SL.iaAp (n:=7) (.r rfl) ty272 sz29 rfl rfl (by omega) (by omega) ?_
 refine SL.ld (.r rfl) sc29 rfl (cell_own 0 rfl (arrT_app 0 (by omega))) (SL.asg (.r rfl) rfl (SL.asg (.r rfl) rfl (SL.asg (.r rfl) rfl (SL.asg (.r rfl) rfl (SL.asg (.r rfl) rfl (SL.asg (.r rfl) rfl (SL.asg (.r rfl) rfl ?_)))))))
 refine SL.asg (.r rfl) rfl (SL.nx (SX.seq (SX.sr (SL.mv (.r rfl) rfl ?_))))
 refine SL.call (vs:=[_]) (Hin:=[]) (.r rfl) rfl ⟨rfl,trivial⟩ cal228 rfl rfl (c_sha_spread s hs) ?_
 rintro _ _ ⟨rfl,rfl⟩
 refine ⟨trivial,?_⟩
 refine SL.mv (.r rfl) rfl (SL.nx (SX.block ?_))
 refine SX.mono (SX.loop (α:=Nat) (fun i=>i≤64) (fun i=>[(0,vP b 0),(4,vU32 (roundsN T (spreadA s) h i).a),(5,vU32 (roundsN T (spreadA s) h i).b),(6,vU32 (roundsN T (spreadA s) h i).c),(7,vU32 (roundsN T (spreadA s) h i).d),(8,vU32 (roundsN T (spreadA s) h i).e),(9,vU32 (roundsN T (spreadA s) h i).f),(10,vU32 (roundsN T (spreadA s) h i).g),(11,vU32 (roundsN T (spreadA s) h i).i),(51,.agg (arr vU32 (spreadA s))),(52,vI i)]) (fun i=>own b (.cells (arrT vU32 h tl) e)::H) (fun i=>64-i) (fun i D hp=>?_) 0 (by omega)) (by repeat' (first | exact trivial | refine And.intro rfl ?_))
 refine SX.sr (SL.bin (.r rfl) rfl rfl Bin.ltI (SL.nx (SX.seq ?_)))
 refine SX.cond rfl (fun hc1=>?_) (fun hc1=>?_)
 have hi:i<64:=by simp at hc1;omega
 have hw:(spreadA s)[i]? = some ((spreadA s).getD i 0):=by
  rw [List.getD_eq_getElem?_getD,List.getElem?_eq_getElem (by rw [spreadA,spreadN_length];exact hi)]
  rfl
 refine SX.skip (SQ.thn (SX.seq (SX.block (SX.sr (SL.mv (.r rfl) rfl ?_)))))
 refine SL.ixA (i:=i) (.r rfl) ty296 sc29 rfl rfl (by omega) (by omega) (arr_get hw) ?_
 refine SL.asg (.r rfl) rfl (SL.asg (.r rfl) rfl (SL.nx (SX.seq (SX.drawI mix [] (Pl.of [(true,0),(true,1),(true,3),(true,6),(true,10),(true,11),(true,12),(true,13),(true,14),(true,15),(true,16),(true,17),(true,19),(true,20),(true,21),(true,23),(false,2),(false,4),(true,5),(false,7),(true,8),(true,9),(true,18),(true,22),(true,24),(true,25)]) (by kernel_rfl) (SL.mv (.r rfl) rfl (SL.mv (.r rfl) rfl (SL.mv (.r rfl) rfl (SL.mv (.r rfl) rfl (SL.mv (.r rfl) rfl ?_)))))))))
 refine SL.mv (.r rfl) rfl (SL.bin (.r rfl) rfl rfl Bin.and32 (SL.mv (.r rfl) rfl (SL.not32 (.r rfl) rfl (SL.mv (.r rfl) rfl (SL.bin (.r rfl) rfl rfl Bin.and32 (SL.bin (.r rfl) rfl rfl Bin.xor32 (SL.mv (.r rfl) rfl ?_)))))))
 refine SL.iaAp (b:=3) (n:=i) (.r rfl) ty296 sz29 rfl rfl (by omega) (by omega) ?_
 refine SL.ld (.r rfl) sc29 rfl (hT.load (by omega)) (SL.mv (.r rfl) rfl ?_)
 refine SL.call (vs:=[_,_]) (Hin:=[]) (.r rfl) rfl ⟨rfl,rfl,trivial⟩ cal229 rfl rfl (c_sha_turn _ 6 (by omega) (by omega)) ?_
 rintro _ _ ⟨rfl,rfl⟩
 refine ⟨trivial,?_⟩
 refine SL.call (vs:=[_,_]) (Hin:=[]) (.r rfl) rfl ⟨rfl,rfl,trivial⟩ cal229 rfl rfl (c_sha_turn _ 11 (by omega) (by omega)) ?_
 rintro _ _ ⟨rfl,rfl⟩
 refine ⟨trivial,?_⟩
 refine SL.bin (.r rfl) rfl rfl Bin.xor32 ?_
 refine SL.call (vs:=[_,_]) (Hin:=[]) (.r rfl) rfl ⟨rfl,rfl,trivial⟩ cal229 rfl rfl (c_sha_turn _ 25 (by omega) (by omega)) ?_
 rintro _ _ ⟨rfl,rfl⟩
 refine ⟨trivial,?_⟩
 refine SL.bin (.r rfl) rfl rfl Bin.xor32 (SL.bin (.r rfl) rfl rfl Bin.add32 (SL.bin (.r rfl) rfl rfl Bin.add32 (SL.bin (.r rfl) rfl rfl Bin.add32 (SL.bin (.r rfl) rfl rfl Bin.add32 (SL.asg (.r rfl) rfl (SL.nx (SX.sr (SL.mv (.r rfl) rfl ?_))))))))
 refine SL.call (vs:=[_,_]) (Hin:=[]) (.r rfl) rfl ⟨rfl,rfl,trivial⟩ cal229 rfl rfl (c_sha_turn _ 2 (by omega) (by omega)) ?_
 rintro _ _ ⟨rfl,rfl⟩
 refine ⟨trivial,?_⟩
 refine SL.mv (.r rfl) rfl ?_
 refine SL.call (vs:=[_,_]) (Hin:=[]) (.r rfl) rfl ⟨rfl,rfl,trivial⟩ cal229 rfl rfl (c_sha_turn _ 13 (by omega) (by omega)) ?_
 rintro _ _ ⟨rfl,rfl⟩
 refine ⟨trivial,?_⟩
 refine SL.bin (.r rfl) rfl rfl Bin.xor32 (SL.mv (.r rfl) rfl ?_)
 refine SL.call (vs:=[_,_]) (Hin:=[]) (.r rfl) rfl ⟨rfl,rfl,trivial⟩ cal229 rfl rfl (c_sha_turn _ 22 (by omega) (by omega)) ?_
 rintro _ _ ⟨rfl,rfl⟩
 refine ⟨trivial,?_⟩
 refine SL.bin (.r rfl) rfl rfl Bin.xor32 (SL.mv (.r rfl) rfl (SL.mv (.r rfl) rfl (SL.bin (.r rfl) rfl rfl Bin.and32 (SL.mv (.r rfl) rfl (SL.mv (.r rfl) rfl (SL.bin (.r rfl) rfl rfl Bin.and32 (SL.bin (.r rfl) rfl rfl Bin.xor32 ?_)))))))
 refine SL.mv (.r rfl) rfl (SL.mv (.r rfl) rfl (SL.bin (.r rfl) rfl rfl Bin.and32 (SL.bin (.r rfl) rfl rfl Bin.xor32 (SL.bin (.r rfl) rfl rfl Bin.add32 (SL.asg (.r rfl) rfl (SL.nx (SX.region (SL.mv (.r rfl) rfl (SL.mv (.r rfl) rfl ?_)))))))))
 refine SL.mv (.r rfl) rfl (SL.mv (.r rfl) rfl (SL.mv (.r rfl) rfl (SL.bin (.r rfl) rfl rfl Bin.add32 (SL.mv (.r rfl) rfl (SL.mv (.r rfl) rfl (SL.mv (.r rfl) rfl (SL.mv (.r rfl) rfl ?_)))))))
 refine SL.mv (.r rfl) rfl (SL.bin (.r rfl) rfl rfl Bin.add32 (SL.asg (.r rfl) rfl (SL.asg (.r rfl) rfl (SL.asg (.r rfl) rfl (SL.asg (.r rfl) rfl (SL.asg (.r rfl) rfl (SL.asg (.r rfl) rfl ?_)))))))
 refine SL.asg (.r rfl) rfl (SL.asg (.r rfl) rfl (SL.nil (SQ.blk (SQ.thn (SX.region (SL.bin (.r rfl) rfl rfl (Bin.addI (by omega) (by omega)) (SL.mv (.r rfl) rfl (SL.nil ?_))))))))
 exact SQ.again (i+1) (by omega) (by omega) ⟨rfl,rfl,rfl,rfl,rfl,rfl,rfl,rfl,rfl,rfl,rfl,trivial⟩
 have hi:i=64:=by simp at hc1;omega
 subst hi
 generalize hfin:roundsN T (spreadA s) h 64=fin
 refine SX.exit (SQ.thnE (SQ.lpE (SQ.blkE (SQ.thn (SX.sr (SL.mv (.r rfl) rfl (SL.mv (.r rfl) rfl (SL.mv (.r rfl) rfl (SL.mv (.r rfl) rfl (SL.mv (.r rfl) rfl (SL.mv (.r rfl) rfl (SL.mv (.r rfl) rfl (SL.mv (.r rfl) rfl ?_)))))))))))))
 refine SL.bldU (fin.list.map vU32) (.r rfl) ty271 sz29 ze271 rfl ⟨rfl,rfl,rfl,rfl,rfl,rfl,rfl,rfl,trivial⟩ rfl rfl (fun v hv=>by obtain ⟨x,_,rfl⟩:=List.mem_map.1 hv;rfl) ?_
 refine SL.mv (.r rfl) rfl ?_
 have hfl:fin.list.length=h.length:=by rw [hh];rfl
 refine SL.nx (SX.block ?_)
 refine SX.mono (SX.loop (α:=Nat) (fun i=>i≤8) (fun i=>[(0,vP b 0),(122,.agg (arr vU32 fin.list)),(123,vI i)]) (fun i=>own b (.cells (arrT vU32 (mixN h fin.list i) tl) e)::H) (fun i=>8-i) (fun i D hp=>?_) 0 (by omega)) (by repeat' (first | exact trivial | refine And.intro rfl ?_))
 refine SX.sr (SL.bin (.r rfl) rfl rfl Bin.ltI (SL.nx (SX.seq ?_)))
 refine SX.cond rfl (fun hc2=>?_) (fun hc2=>?_)
 have hi:i<8:=by simp at hc2;omega
 have hml:=mixN_length h _ hfl i
 have hw:fin.list[i]? = some (fin.list.getD i 0):=by
  rw [List.getD_eq_getElem?_getD,List.getElem?_eq_getElem (by omega)]
  rfl
 refine SX.skip (SQ.thn (SX.seq (SX.block (SX.sr (SL.mv (.r rfl) rfl ?_)))))
 refine SL.ixA (i:=i) (.r rfl) ty271 sc29 rfl rfl (by omega) (by omega) (arr_get hw) ?_
 refine SL.asg (.r rfl) rfl (SL.asg (.r rfl) rfl (SL.nx (SX.drawI mix [0] (Pl.ap [(true,0),(true,1),(true,2),(true,3),(true,4),(true,5),(true,6),(true,7),(true,8)] (.last 9 .nil)) (by kernel_rfl) (SL.mv (.r rfl) rfl (SL.mv (.r rfl) rfl (SL.nchk (.r rfl) rfl ?_))))))
 refine SL.iaAp (n:=i) (.r rfl) ty272 sz29 rfl rfl (by omega) (by omega) ?_
 refine SL.ld (.r rfl) sc29 rfl (cell_own 0 rfl (arrT_app 0 (by omega))) ?_
 rw [mixN_get h _ hfl i (by omega)]
 refine SL.mv (.r rfl) rfl (SL.bin (.r rfl) rfl rfl Bin.add32 (SL.nchk (.r rfl) rfl ?_))
 refine SL.iaAp (n:=i) (.r rfl) ty272 sz29 rfl rfl (by omega) (by omega) ?_
 refine SL.last ?_
 refine SL.stT (f:=vU32) 0 ⟨rfl,rfl,rfl⟩ rfl rfl rfl sz29 rfl rfl (by omega) trivial ?_
 rw [mixN_set h _ hfl i (by omega)]
 refine SL.nil (SQ.blk (SQ.thn (SX.region (SL.bin (.r rfl) rfl rfl (Bin.addI (by omega) (by omega)) (SL.mv (.r rfl) rfl (SL.nil ?_))))))
 exact SQ.again (i+1) (by omega) (by omega) ⟨rfl,rfl,rfl,trivial⟩
 have hi:i=8:=by simp at hc2;omega
 subst hi
 refine SX.exit (SQ.thnE (SQ.lpE (SQ.blkE ?_)))
 have hfull:=mixN_full h _ hfl
 rw [hh] at hfull
 rw [hfull,←hfin]
 exact SQ.fend (res0 rfl) (ret_of (M:=[_]) ⟨rfl,rfl⟩ fun _ h=>h)
theorem c_sha_lays (T:List UInt32) (h:St8) (rest s:List UInt8) (n:Int) (b:Nat) (e:TypeId) (hT:Tab K w0 3 T) (hTl:T.length=64) (hs:s.length=64):Con Tryz.prog K w0 214 [vP b 0,vS s] [own b (.cells (sumC h rest n) e)] H (fun r M=>r=.tuple #[]∧M=[own b (.cells (sumC (laysA T h s) rest n) e)]):=by
 have h1:=c_sha_laysL (K:=K) (w0:=w0) (H:=H) T h.list [vS rest,vI n] s b e hT hTl rfl hs
 rw [←St8.of_list (laysL_length (T:=T) (s:=s) (show h.list.length=8 from rfl))] at h1
 exact h1
end Go.Proofs.YtkibffdipniemaaGreatDoor

/- Walks of SHA-256's parts of a text, and of the words' bytes. Condition: texts of at most 2^40 bytes. -/
namespace Go.Proofs.YtkibffdipniemaaGreatDoor
open Go
variable {K:Nat→Prop} {w0:World} {H:List Chunk}

def encPart (p:Nat×List UInt8):List Value:=[vI p.1,vS p.2]
theorem q_sha_parts (s:List UInt8) (b:Nat) (hn:s.length≤1099511627776):Seq Tryz.prog K w0 230 [vP b 0] [own b (.cells #[vS s] 9)] encPart (partsA s):=by
 intro lp J X T hy G h0
 refine Con.enter Tryz.func230 rfl rfl ?_
 refine SX.sr (SL.asg (.r rfl) rfl (SL.nx (SX.block ?_)))
 refine SX.mono (SX.loop (α:=Nat×List Chunk) (fun x=>x.1≤s.length / 64∧J ((partsA s).take x.1) x.2) (fun x=>[(0,vY lp),(1,vP b 0),(3,vI (64*(x.1+1):Nat))]) (fun x=>own b (.cells #[vS s] 9)::(x.2++T)) (fun x=>s.length / 64-x.1) (fun x D hp=>?_) (0,G) ⟨Nat.zero_le _,h0⟩) (by repeat' (first | exact trivial | refine And.intro rfl ?_))
 obtain ⟨i,G⟩:=x
 obtain ⟨hi,hJ⟩:=hp
 simp only at hi hJ
 refine SX.seq (SX.sr (SL.mv (.r rfl) rfl (SL.ld (.r rfl) sc9 rfl (cell_own 0 rfl rfl) (SL.lenS (.r rfl) ty9 rfl (SL.bin (.r rfl) rfl rfl Bin.leI (SL.nx ?_))))))
 refine SX.cond rfl (fun hc1=>?_) (fun hc1=>?_)
 have hlt:i<s.length / 64:=by simp at hc1;omega
 have hg:=partsA_get s i hlt
 refine SX.skip (SQ.thn (SX.seq (SX.block (SX.sr (SL.mv (.r rfl) rfl (SL.mv (.r rfl) rfl (SL.ld (.r rfl) sc9 rfl (cell_own 0 rfl rfl) (SL.mv (.r rfl) rfl (SL.bin (.r rfl) rfl rfl (Bin.subI (by omega) (by omega)) (SL.mv (.r rfl) rfl (SL.slS (64*i) (64*(i+1)) (.r rfl) ty9 rfl rfl rfl (by omega) (by omega) (by omega) (by omega) ?_)))))))))))
 have ht:64*(i+1)-64*i=64:=by omega
 rw [ht]
 refine SL.yld (M2:=[_]) (G:=G) (T:=T) (vs:=[_,_]) (ok:=fun G1=>J ((partsA s).take (i+1)) G1) (no:=X) (.r rfl) rfl ⟨rfl,rfl,trivial⟩ rfl ?_ (fun bb G1 hG1=>⟨trivial,?_⟩)
 intro M
 have:=hy _ _ _ (take_split hg).1 G hJ M
 rw [←(take_split hg).2] at this
 exact this
 refine SL.not (.r rfl) rfl (SL.nx ?_)
 refine SX.cond rfl (fun hc2=>?_) (fun hc2=>?_)
 obtain rfl:bb=false:=by simpa using hc2
 refine SX.ret (SQ.blkR (SQ.thnR (SQ.lpR (SQ.blkR ?_))))
 exact SQ.fret (res0 rfl) (ret_of (M:=G1) (.inr hG1) fun _ h=>h.skip [_])
 obtain rfl:bb=true:=by simpa using hc2
 refine SX.skip (SQ.blk (SQ.thn (SX.region (SL.mv (.r rfl) rfl (SL.bin (.r rfl) rfl rfl (Bin.addI (by omega) (by omega)) (SL.asg (.r rfl) rfl (SL.nil ?_)))))))
 refine SQ.again (i+1,G1) ⟨hlt,hG1⟩ (by simp only;omega) ⟨rfl,rfl,?_,trivial⟩
 have e:((64*(i+1):Nat):Int)+64=((64*(i+1+1):Nat):Int):=by omega
 simp only [look,Nat.beq,cond_true]
 rw [←e]
 refine SX.exit (SQ.thnE (SQ.lpE (SQ.blkE ?_)))
 have hle:i=s.length / 64:=by simp at hc1;omega
 exact SQ.fend (res0 rfl) (ret_of (M:=G) (.inl (by rw [List.take_of_length_le (by rw [partsA_length];omega)] at hJ;exact hJ)) fun _ h=>h.skip [_])

theorem c_sha_parts (s:List UInt8):Con Tryz.prog K w0 215 [vS s] [] H (fun r M=>∃b,r=.func (.func 230) #[] #[vP b 0]∧M=[own b (.cells #[vS s] 9)]):=by
 refine Con.enter Tryz.func215 rfl rfl ?_
 refine SX.sr ?_
 refine SL.box (.r rfl) rfl (fun _=>trivial) fun b0=>?_
 refine SL.asg (.r rfl) rfl (SL.nx (SX.sr ?_))
 refine SL.mkf (fv:=#[]) (cv:=#[_]) (.r rfl) rfl rfl ?_
 refine SL.asg (.r rfl) rfl (SL.nx (SX.ret ?_))
 exact SQ.fret (res1 rfl rfl) (ret_of (M:=[_]) ⟨b0,rfl,rfl⟩ fun _ h=>h)

theorem c_sha_bytes (h:St8) (tl:List Value) (b:Nat) (e:TypeId):Con Tryz.prog K w0 216 [vP b 0] [own b (.cells (arrT vU32 h.list tl) e)] H (fun r M=>r=vS (h.list.flatMap beBytes)∧M=[own b (.cells (arrT vU32 h.list tl) e)]):=by
 refine Con.enter Tryz.func216 rfl rfl ?_
 refine SX.sr (SL.asg (.r rfl) rfl (SL.nx (SX.sr (SL.asg (.r rfl) rfl (SL.nx (SX.seq (SX.sr (SL.mv (.r rfl) rfl (SL.mv (.r rfl) rfl (SL.nx (SX.block (SX.nilRow 5 1 ?_))))))))))))
 refine SX.mono (SX.loop (α:=Nat×Value) (fun x=>x.1≤8) (fun x=>[(3,x.2),(6,vP b 0),(7,vI x.1)]) (fun x=>rowC 5 1 x.2 (4*x.1) (((h.list.take x.1).flatMap beBytes).map fun b=>vU8 b)::own b (.cells (arrT vU32 h.list tl) e)::H) (fun x=>8-x.1) (fun x D hp=>?_) (0,.slice none 0 0) (by decide)) (by repeat' (first | exact trivial | refine And.intro rfl ?_))
 obtain ⟨i,v⟩:=x
 simp only at hp
 refine SX.sr (SL.bin (.r rfl) rfl rfl Bin.ltI (SL.nx (SX.seq ?_)))
 refine SX.cond rfl (fun hc1=>?_) (fun hc1=>?_)
 have hlt:i<8:=by simp at hc1;omega
 refine SX.skip (SQ.thn (SX.seq (SX.block (SX.sr (SL.nchk (.r rfl) rfl ?_)))))
 refine SL.iaAp (n:=i) (.r rfl) ty272 sz29 rfl rfl (by omega) (by omega) ?_
 refine SL.ld (.r rfl) sc29 rfl (cell_own 1 rfl (arrT_app 0 hlt)) (SL.asg (.r rfl) rfl (SL.nx (SX.region (SL.mv (.r rfl) rfl (SL.mv (.r rfl) rfl ?_)))))
 refine SL.bin (.r rfl) rfl rfl (Bin.shr32 (n:=24)) ?_
 refine SL.cv (.r rfl) rfl (Cv.u32_8 ty29 ty5) (SL.mv (.r rfl) rfl ?_)
 refine SL.bin (.r rfl) rfl rfl (Bin.shr32 (n:=16)) ?_
 refine SL.cv (.r rfl) rfl (Cv.u32_8 ty29 ty5) (SL.mv (.r rfl) rfl ?_)
 refine SL.bin (.r rfl) rfl rfl (Bin.shr32 (n:=8)) ?_
 refine SL.cv (.r rfl) rfl (Cv.u32_8 ty29 ty5) (SL.mv (.r rfl) rfl (SL.cv (.r rfl) rfl (Cv.u32_8 ty29 ty5) ?_))
 refine SL.bsl [_,_,_,_] (.r rfl) ty141 sz5 ze5 ⟨rfl,rfl,rfl,rfl,trivial⟩ rfl rfl rfl (by simp [Value.cells]) rfl rfl (fun _=>trivial) fun b0=>?_
 refine SL.app 1 (.r rfl) (m:=4) (news:=(beBytes (h.list.getD i 0)).map fun b=>vU8 b) ty141 sz5 by5 ze5 rfl (by decide) rfl rfl rfl rfl (cells_all 0 rfl) (by intro u hu;obtain ⟨x,_,rfl⟩:=List.mem_map.1 hu;rfl) (by omega) (by omega) (fun _=>trivial) fun v'=>?_
 refine SL.asg (.r rfl) rfl (SL.nil (SQ.blk (SQ.thn (SX.region (SL.bin (.r rfl) rfl rfl (Bin.addI (by omega) (by omega)) (SL.mv (.r rfl) rfl (SL.nil ?_)))))))
 refine SQ.again (i+1,v') (by simp only;omega) (by simp only;omega) ⟨rfl,rfl,rfl,trivial⟩ (fun w hw=>by
  have e1:h.list.take (i+1)=h.list.take i++[h.list.getD i 0]:=by
   rw [List.take_add_one,List.getD_eq_getElem?_getD,List.getElem?_eq_getElem (show i<h.list.length from hlt)]
   rfl
  simp only
  rw [e1,List.flatMap_append,List.map_append]
  simp only [List.flatMap_cons,List.flatMap_nil,List.append_nil]
  exact hw.skip [_])
 have hi:i=8:=by simp at hc1;omega
 subst hi
 refine SX.exit (SQ.thnE (SQ.lpE (SQ.blkE (SQ.thn (SX.sr (SL.mv (.r rfl) rfl ?_))))))
 refine SL.btsR (s:=h.list.flatMap beBytes) 0 (.r rfl) ty141 ty5 ty9 rfl rfl ?_
 refine SL.asg (.r rfl) rfl (SL.nx (SX.ret ?_))
 exact SQ.fret (res1 rfl rfl) (ret_of (M:=[_]) ⟨rfl,rfl⟩ fun _ h=>h.skip [_])

end Go.Proofs.YtkibffdipniemaaGreatDoor

/- The walk of what a sum takes in: bytes behind those that it has. Condition: texts of at most 2^40 bytes. -/
namespace Go.Proofs.YtkibffdipniemaaGreatDoor
open Go
variable {K:Nat→Prop} {w0:World} {H:List Chunk}
theorem c_sha_takes (T:List UInt32) (h:St8) (rest s:List UInt8) (n:Int) (b:Nat) (e:TypeId) (hT:Tab K w0 3 T) (hTl:T.length=64) (hr:rest.length<64) (hn:s.length≤1099511627776):Con Tryz.prog K w0 192 [vP b 0,vS s] [own b (.cells (sumC h rest n) e)] H (fun r M=>r=.tuple #[]∧M=[own b (.cells (sumC (absorb T h (rest++s)).1 (absorb T h (rest++s)).2 n) e)]):=by
 refine Con.enter Tryz.func192 rfl rfl ?_
 refine SX.sr ?_
 refine SL.box (.r rfl) rfl (fun _=>trivial) fun b0=>?_
 refine SL.box (.r rfl) rfl (fun _=>trivial) fun b1=>?_
 refine SL.nx (SX.scope ?_)
 refine SX.meet (α:=St8×List UInt8×List UInt8) (fun x=>absorb T x.1 (x.2.1++x.2.2)=absorb T h (rest++s)∧x.2.1.length<64∧(x.2.1≠[]→(x.2.1++x.2.2).length<64)∧x.2.2.length≤s.length) (fun x=>[(2,vP b0 0),(3,vP b1 0)]) (fun x=>own b1 (.cells #[vS x.2.2] 9)::own b0 (.cells #[vP b 0] 268)::own b (.cells (sumC x.1 x.2.1 n) e)::H) ?_ (fun x hx=>?_)
 refine SX.seq (SX.drawI mix [0,1,2] (Pl.of [(true,0),(true,1),(true,2),(true,3),(true,4),(true,5),(true,6),(true,7),(true,8),(true,9),(true,10),(true,11),(true,12),(true,13),(true,14),(true,15)]) (by kernel_rfl) (SL.ld (.r rfl) sc268 rfl (cell_own 1 rfl rfl) (SL.nchk (.r rfl) rfl (SL.fa (.r rfl) rfl fo274_1 (SL.ld (.r rfl) sc9 rfl (cell_own 2 rfl rfl) ?_)))))
 refine SL.bin (.r rfl) rfl rfl (Bin.neS (t:=[])) ?_
 refine SL.mv (.r rfl) rfl ?_
 refine SL.and (c:=decide ((64:Int)≤(rest.length:Int)+s.length)) 13 10 23 rfl (fun hb k=>?_) (fun hb k=>?_) ?_
 refine SL.ld (.r rfl) sc268 rfl (cell_own 1 rfl rfl) (SL.nchk (.r rfl) rfl (SL.fa (.r rfl) rfl fo274_1 (SL.ld (.r rfl) sc9 rfl (cell_own 2 rfl rfl) (SL.lenS (.r rfl) ty9 rfl (SL.ld (.r rfl) sc9 rfl (cell_own 0 rfl rfl) (SL.lenS (.r rfl) ty9 rfl (SL.bin (.r rfl) rfl rfl (Bin.addI (by omega) (by omega)) ?_)))))))
 refine SL.bin (.r rfl) rfl rfl Bin.geI (SL.pk (.r rfl) rfl rfl ?_)
 exact k.mono (by repeat' (first | exact trivial | refine And.intro rfl ?_))
 refine SL.pass rfl rfl rfl (SL.pass rfl rfl rfl (SL.pass rfl rfl rfl (SL.pass rfl rfl rfl (SL.pass rfl rfl rfl (SL.pass rfl rfl rfl (SL.pass rfl rfl rfl (SL.pass rfl rfl rfl ?_)))))))
 refine SL.pass rfl rfl rfl (SL.pk (.r rfl) rfl rfl ?_)
 exact k.mono (by repeat' (first | exact trivial | refine And.intro rfl ?_))
 refine SL.nx ?_
 refine SX.cond rfl (fun hc1=>?_) (fun hc1=>?_)
 have hne:rest≠[]∧64≤rest.length+s.length:=by simp at hc1;exact ⟨hc1.1,by omega⟩
 refine SX.sr (SL.ld (.r rfl) sc268 rfl (cell_own 1 rfl rfl) (SL.nchk (.r rfl) rfl (SL.fa (.r rfl) rfl fo274_1 (SL.ld (.r rfl) sc9 rfl (cell_own 2 rfl rfl) (SL.lenS (.r rfl) ty9 rfl (SL.bin (.r rfl) rfl rfl (Bin.subI (by omega) (by omega)) (SL.asg (.r rfl) rfl (SL.nx (SX.seq (SX.drawI mix [0,1,2] (Pl.ap [(true,0),(true,1),(true,2),(true,3),(true,4),(true,5),(true,6),(true,7),(true,8),(true,9),(true,10)] (.last 11 .nil)) (by kernel_rfl) ?_))))))))))
 refine SL.ld (.r rfl) sc268 rfl (cell_own 1 rfl rfl) (SL.nchk (.r rfl) rfl (SL.fa (.r rfl) rfl fo274_0 (SL.ld (.r rfl) sc268 rfl (cell_own 1 rfl rfl) (SL.nchk (.r rfl) rfl (SL.fa (.r rfl) rfl fo274_1 (SL.ld (.r rfl) sc9 rfl (cell_own 2 rfl rfl) (SL.ld (.r rfl) sc9 rfl (cell_own 0 rfl rfl) ?_)))))))
 refine SL.mv (.r rfl) rfl (SL.slSh (64-rest.length) (.r rfl) ty9 rfl rfl (by omega) (by omega) (SL.bin (.r rfl) rfl rfl (Bin.cat (by simp;omega)) (SL.last (SL.pick [2,0,1] 3 ?_))))
 refine SL.call (vs:=[_,_]) (Hin:=[_]) (.r rfl) rfl ⟨rfl,rfl,trivial⟩ cal214 rfl rfl (c_sha_lays T h rest (rest++s.take (64-rest.length)) n b e hT hTl (by simp;omega)) ?_
 rintro _ _ ⟨rfl,rfl⟩
 refine ⟨trivial,?_⟩
 refine SL.pick [1,2,0] 3 (SL.nx (SX.drawI mix [0,1] (Pl.ap [(true,0),(true,1),(true,2),(true,3),(true,4),(true,5),(false,6)] (.last 7 .nil)) (by kernel_rfl) (SL.ld (.r rfl) sc268 rfl (cell_own 1 rfl rfl) (SL.ld (.r rfl) sc9 rfl (cell_own 0 rfl rfl) (SL.mv (.r rfl) rfl (SL.slSl (64-rest.length) (.r rfl) ty9 rfl rfl (by omega) (by omega) (SL.nchk (.r rfl) rfl (SL.fa (.r rfl) rfl fo274_1 ?_))))))))
 refine SL.st 2 ⟨rfl,rfl,rfl⟩ rfl rfl rfl sz9 rfl rfl rfl ⟨⟨0,rfl⟩,⟨1,rfl⟩,trivial⟩ (SL.last (SL.st 0 ⟨rfl,rfl,rfl⟩ rfl rfl rfl sz9 rfl rfl rfl trivial (SL.nil ?_)))
 refine SQ.mid (laysA T h (rest++s.take (64-rest.length)),[],s.drop (64-rest.length)) ⟨?_,by simp,fun h=>absurd rfl h,by simp⟩ (by repeat' (first | exact trivial | refine And.intro rfl ?_))
 have e1:rest++s=(rest++s.take (64-rest.length))++s.drop (64-rest.length):=by rw [List.append_assoc,List.take_append_drop]
 have e2:=absorb_part (T:=T) (h:=h) (p:=rest++s.take (64-rest.length)) (s:=s.drop (64-rest.length)) (by simp;omega)
 rw [e1,e2]
 rfl
 refine SX.skip ?_
 refine SQ.mid (h,rest,s) ⟨rfl,hr,fun hne=>?_,Nat.le_refl _⟩ (by repeat' (first | exact trivial | refine And.intro rfl ?_))
 simp at hc1
 have:=hc1 hne
 simp
 omega
 
 obtain ⟨h1,r1,s1⟩:=x
 obtain ⟨hx1,hx2,hx3,hx4⟩:=hx
 simp only at hx1 hx2 hx3 hx4
 refine SX.seq (SX.sr (SL.ld (.r rfl) sc268 rfl (cell_own 1 rfl rfl) (SL.nchk (.r rfl) rfl (SL.fa (.r rfl) rfl fo274_1 (SL.ld (.r rfl) sc9 rfl (cell_own 2 rfl rfl) ?_)))))
 refine SL.bin (.r rfl) rfl rfl (Bin.neS (t:=[])) ?_
 refine SL.nx ?_
 refine SX.cond rfl (fun hc2=>?_) (fun hc2=>?_)
 have hsh:=hx3 (by simpa using hc2)
 rw [absorb_short hsh] at hx1
 rw [←hx1]
 refine SX.seq (SX.drawI mix [0,1,2] (Pl.ap [(true,0),(true,1),(true,2),(true,3),(true,4),(true,5),(true,6),(true,7)] (.last 8 .nil)) (by kernel_rfl) (SL.ld (.r rfl) sc268 rfl (cell_own 1 rfl rfl) (SL.nchk (.r rfl) rfl (SL.fa (.r rfl) rfl fo274_1 (SL.ld (.r rfl) sc9 rfl (cell_own 2 rfl rfl) (SL.ld (.r rfl) sc9 rfl (cell_own 0 rfl rfl) (SL.bin (.r rfl) rfl rfl (Bin.cat (by simp;omega)) (SL.nchk (.r rfl) rfl ?_))))))))
 refine SL.fa (.r rfl) rfl fo274_1 (SL.last (SL.st 2 ⟨rfl,rfl,rfl⟩ rfl rfl rfl sz9 rfl rfl rfl trivial (SL.nx (SX.ret (SQ.thnR (SQ.scpR ?_))))))
 exact SQ.fret (res0 rfl) (ret_of (M:=[_]) ⟨rfl,rfl⟩ fun _ h=>h.skip [_,_])
 have hr1:r1=[]:=by simpa using hc2
 subst hr1
 rw [List.nil_append,absorb_parts] at hx1
 rw [←hx1]
 refine SX.skip (SQ.thn (SX.sr ?_))
 refine SL.alloc (.r rfl) ze3 (fun _=>trivial) fun b2=>?_
 refine SL.st 0 ⟨rfl,rfl,rfl⟩ rfl rfl rfl sz3 rfl rfl rfl trivial (SL.nx (SX.seq (SX.label (SQ.thn (SX.seq (SX.sr (SL.ld (.r rfl) sc9 rfl (cell_own 1 rfl rfl) ?_)))))))
 refine SL.call (vs:=[_]) (Hin:=[]) (.r rfl) rfl ⟨rfl,trivial⟩ cal215 rfl rfl (c_sha_parts s1) ?_
 rintro _ _ ⟨bi,rfl,rfl⟩
 refine ⟨trivial,?_⟩
 refine SL.nx (SX.block ?_)
 refine SX.range (enc:=encPart) (partsA s1) (fun pre G=>G=own b2 (.cells #[vI (64*pre.length:Nat)] 3)::own b1 (.cells #[vS s1] 9)::own b0 (.cells #[vP b 0] 268)::own b (.cells (sumC (partsN T h1 s1 pre.length) [] n) e)::H) (fun c G=>c=.exit 0∧G=own b2 (.cells #[vI (64*(s1.length / 64):Nat)] 3)::own b1 (.cells #[vS s1] 9)::own b0 (.cells #[vP b 0] 268)::own b (.cells (sumC (partsN T h1 s1 (s1.length / 64)) [] n) e)::H) rfl cal230 rfl (fun _=>rfl) (q_sha_parts s1 bi (by omega)) rfl rfl (fun pre x suf G hxs hJ r lp Rest=>?_) (fun G D hJ=>?_) (fun c G D hX=>?_)
 obtain rfl:=hJ
 have hget:(partsA s1)[pre.length]? = some x:=by rw [hxs];simp
 have hlt:pre.length<s1.length / 64:=by
  have:=partsA_length s1
  rw [hxs] at this
  simp at this
  omega
 rw [partsA_get s1 _ hlt] at hget
 obtain rfl:=Option.some.inj hget
 refine SX.sr (SL.asg (.r rfl) rfl (SL.nx (SX.region (SL.asg (.r rfl) rfl (SL.nil (SQ.bgn (SX.block (SX.sr (SL.ld (.r rfl) sc268 rfl (cell_own 2 rfl rfl) (SL.nchk (.r rfl) rfl (SL.fa (.r rfl) rfl fo274_0 (SL.mv (.r rfl) rfl (SL.pick [3,0,1,2] 4 ?_)))))))))))))
 refine SL.call (vs:=[_,_]) (Hin:=[_]) (.r rfl) rfl ⟨rfl,rfl,trivial⟩ cal214 rfl rfl (c_sha_lays T (partsN T h1 s1 pre.length) [] _ n b e hT hTl (by simp;omega)) ?_
 rintro _ _ ⟨rfl,rfl⟩
 refine ⟨trivial,?_⟩
 refine SL.pick [1,2,3,0] 4 (SL.nx (SX.sr (SL.mv (.r rfl) rfl (SL.st 0 ⟨rfl,rfl,rfl⟩ rfl rfl rfl sz3 rfl rfl rfl trivial (SL.nx (SX.sr (SL.ld (.r rfl) sc9 rfl (cell_own 1 rfl rfl) (SL.lenS (.r rfl) ty9 rfl (SL.mv (.r rfl) rfl (SL.bin (.r rfl) rfl rfl (Bin.subI (by omega) (by omega)) (SL.bin (.r rfl) rfl rfl Bin.ltI (SL.nx ?_))))))))))))
 refine SX.cond rfl (fun hc3=>?_) (fun hc3=>?_)
 refine SX.exit (SQ.blkO ?_)
 have e1:pre.length+1=s1.length / 64:=by simp at hc3;omega
 exact SQ.rndE (G:=_::_::_::_::H) (by rw [←e1];exact ⟨rfl,rfl⟩) (fun _ h=>h)
 refine SX.skip (SQ.blk ?_)
 exact SQ.rndN (G:=_::_::_::_::H) (by rw [show (pre++[(64*(pre.length+1),(s1.drop (64*pre.length)).take 64)]).length=pre.length+1 by simp];rfl) (fun _ h=>h)
 obtain rfl:=hJ
 rw [partsA_length]
 refine SQ.blk (SQ.thn (SX.drawI mix [0,1,2] (Pl.ap [(true,0),(true,1),(true,2),(true,3),(true,4),(true,5)] (.last 6 .nil)) (by kernel_rfl) (SL.ld (.r rfl) sc268 rfl (cell_own 2 rfl rfl) (SL.ld (.r rfl) sc9 rfl (cell_own 1 rfl rfl) (SL.ld (.r rfl) sc3 rfl (cell_own 0 rfl rfl) (SL.slSl (64*(s1.length / 64)) (.r rfl) ty9 rfl rfl (by omega) (by omega) (SL.nchk (.r rfl) rfl (SL.fa (.r rfl) rfl fo274_1 (SL.last (SL.st 3 ⟨rfl,rfl,rfl⟩ rfl rfl rfl sz9 rfl rfl rfl trivial (SL.nil (SQ.scp ?_))))))))))))
 exact SQ.fend (res0 rfl) (ret_of (M:=[_]) ⟨rfl,rfl⟩ fun _ h=>h.skip [_,_,_])
 obtain ⟨rfl,rfl⟩:=hX
 refine SX.exit (SQ.blkE (SQ.thn (SX.drawI mix [0,1,2] (Pl.ap [(true,0),(true,1),(true,2),(true,3),(true,4),(true,5)] (.last 6 .nil)) (by kernel_rfl) (SL.ld (.r rfl) sc268 rfl (cell_own 2 rfl rfl) (SL.ld (.r rfl) sc9 rfl (cell_own 1 rfl rfl) (SL.ld (.r rfl) sc3 rfl (cell_own 0 rfl rfl) (SL.slSl (64*(s1.length / 64)) (.r rfl) ty9 rfl rfl (by omega) (by omega) (SL.nchk (.r rfl) rfl (SL.fa (.r rfl) rfl fo274_1 (SL.last (SL.st 3 ⟨rfl,rfl,rfl⟩ rfl rfl rfl sz9 rfl rfl rfl trivial (SL.nil (SQ.scp ?_)))))))))))))
 exact SQ.fend (res0 rfl) (ret_of (M:=[_]) ⟨rfl,rfl⟩ fun _ h=>h.skip [_,_,_])

end Go.Proofs.YtkibffdipniemaaGreatDoor

/- Walks of strings.Builder's methods: what is written is held, String hands it back. Condition: the bytes number at most 2^47. -/
namespace Go.Proofs.YtkibffdipniemaaGreatDoor
open Go
variable {K:Nat→Prop} {w0:World} {H:List Chunk}

def lies (e:TypeId):Prop:=liesAt Tryz.prog Tryz.prog.depth e (2 / Tryz.prog.cellsOf e) 0 172 1=true
theorem nesc (v:Value) (w:World):(callFunc 185 [v].toArray).run Tryz.prog w=.ok (.value v) w:=by
 rw [run_callFunc_extern (e:=Extern.AbiNoEscape.same) Tryz.func185 (by kernel_rfl) (by kernel_rfl) (by kernel_rfl) (by kernel_rfl)]
 rfl

theorem c_copyCheck0 (e:TypeId) (b:Nat) (v:Value) (hl:lies e):Con Tryz.prog K w0 144 [vP b 0] [own b (.cells #[.pointer none,v] e)] H (fun r M=>r=.tuple #[]∧M=[own b (.cells #[vP b 0,v] e)]):=by
 refine Con.enter Tryz.func144 rfl rfl ?_
 refine SX.sr (SL.mv (.r rfl) rfl (SL.nchk (.r rfl) rfl (SL.fa (.r rfl) rfl fo172_0 (SL.ld (.r rfl) sc170 rfl (cell_own 0 rfl rfl) (SL.eqPN (.r rfl) ty170 rfl rfl (SL.nx (SX.condT rfl (SX.region (SL.mv (.r rfl) rfl (SL.mv (.r rfl) rfl ?_))))))))))
 refine SL.toU 0 (.r rfl) ty170 ty257 sz172 rfl rfl rfl rfl ?_
 refine SL.extv (.r rfl) (vs:=[_]) ⟨rfl,trivial⟩ (nesc _) ?_
 refine SL.frU 0 (.r rfl) ty257 ty170 sz172 rfl rfl hl (SL.nchk (.r rfl) rfl (SL.fa (.r rfl) rfl fo172_0 (SL.st 0 ⟨rfl,rfl,rfl⟩ rfl rfl rfl sz170 rfl rfl rfl trivial (SL.nil ?_))))
 exact SQ.fend (res0 rfl) (ret_of (M:=[_]) ⟨rfl,rfl⟩ fun _ h=>h)

theorem c_copyCheck1 (e:TypeId) (b:Nat) (v:Value):Con Tryz.prog K w0 144 [vP b 0] [own b (.cells #[vP b 0,v] e)] H (fun r M=>r=.tuple #[]∧M=[own b (.cells #[vP b 0,v] e)]):=by
 refine Con.enter Tryz.func144 rfl rfl ?_
 refine SX.sr (SL.mv (.r rfl) rfl (SL.nchk (.r rfl) rfl (SL.fa (.r rfl) rfl fo172_0 (SL.ld (.r rfl) sc170 rfl (cell_own 0 rfl rfl) (SL.eqPN (.r rfl) ty170 rfl rfl (SL.nx (SX.condF rfl (SX.sr (SL.mv (.r rfl) rfl (SL.nchk (.r rfl) rfl ?_))))))))))
 refine SL.fa (.r rfl) rfl fo172_0 (SL.ld (.r rfl) sc170 rfl (cell_own 0 rfl rfl) (SL.mv (.r rfl) rfl (SL.nePP (.r rfl) ty170 sz172 rfl rfl (SL.nx (SX.condF rfl (SX.skip ?_))))))
 exact SQ.fend (res0 rfl) (ret_of (M:=[_]) ⟨rfl,rfl⟩ fun _ h=>h)

def adr (b:Nat) (p:Value):Prop:=p=.pointer none∨p=vP b 0
theorem c_copyCheck (e:TypeId) (b:Nat) (p v:Value) (hp:adr b p) (hl:lies e):Con Tryz.prog K w0 144 [vP b 0] [own b (.cells #[p,v] e)] H (fun r M=>r=.tuple #[]∧M=[own b (.cells #[vP b 0,v] e)]):=by
 rcases hp with rfl | rfl
 exact c_copyCheck0 e b v hl
 exact c_copyCheck1 e b v

theorem c_WriteByte (e:TypeId) (b:Nat) (p v:Value) (n:Nat) (xs:List Value) (c:UInt8) (hp:adr b p) (hl:lies e) (hn:n+1≤140737488355328):
  Con Tryz.prog K w0 151 [vP b 0,vU8 c] [own b (.cells #[p,v] e),rowC 5 1 v n xs] H
   (fun r M=>r=.nilIface∧∃v',M=[own b (.cells #[vP b 0,v'] e),rowC 5 1 v' (n+1) (xs++[vU8 c])]):=by
 refine Con.enter Tryz.func151 rfl rfl ?_
 refine SX.sr (SL.asg (.r rfl) rfl (SL.nx (SX.sr (SL.mv (.r rfl) rfl ?_))))
 refine SL.call (vs:=[_]) (Hin:=[_]) (.r rfl) rfl ⟨rfl,trivial⟩ cal144 rfl rfl (c_copyCheck e b p v hp hl) ?_
 rintro _ _ ⟨rfl,rfl⟩
 refine ⟨trivial,?_⟩
 refine SL.nx (SX.sr (SL.mv (.r rfl) rfl (SL.mv (.r rfl) rfl (SL.nchk (.r rfl) rfl (SL.fa (.r rfl) rfl fo172_1 (SL.ld (.r rfl) sc141 rfl (cell_own 0 rfl rfl) (SL.mv (.r rfl) rfl ?_)))))))
 refine SL.bsl [vU8 c] (.r rfl) ty141 sz5 ze5 ⟨rfl,trivial⟩ rfl rfl rfl (by simp [Value.cells]) rfl rfl (fun _=>trivial) fun b1=>?_
 refine SL.app 2 (.r rfl) (news:=[vU8 c]) ty141 sz5 by5 ze5 rfl (by decide) rfl rfl rfl rfl (cells_all 0 rfl) (by simp [Value.oneCell']) (by omega) (by omega) (fun _=>trivial) fun v'=>?_
 refine SL.nchk (.r rfl) rfl (SL.fa (.r rfl) rfl fo172_1 ?_)
 refine SL.fact (fun w hw=>row_shape (hw.holds _ (List.mem_append_left _ (List.mem_of_getElem? (i:=2) rfl)))) fun hsh=>?_
 have hc1:v'.cells=#[v']:=by rcases hsh with ⟨rfl,_⟩ | ⟨g,cap,rfl,_⟩<;>rfl
 have ho1:v'.oneCell'=true:=by rcases hsh with ⟨rfl,_⟩ | ⟨g,cap,rfl,_⟩<;>rfl
 refine SL.st 1 ⟨rfl,rfl,rfl⟩ rfl rfl rfl sz141 (by rw [hc1];rfl) (by rw [hc1];simp [ho1]) rfl trivial ?_
 rw [hc1]
 refine SL.nx (SX.sr (SL.asg (.r rfl) rfl (SL.nx (SX.ret ?_))))
 exact SQ.fret (res1 rfl rfl) (ret_of (M:=[_,_]) ⟨rfl,v',rfl⟩ fun _ h=>h.skip [_])

theorem c_WriteString (e:TypeId) (b:Nat) (p v:Value) (n:Nat) (xs:List Value) (s:List UInt8) (hp:adr b p) (hl:lies e) (hn:n+s.length≤140737488355328):
  Con Tryz.prog K w0 101 [vP b 0,vS s] [own b (.cells #[p,v] e),rowC 5 1 v n xs] H
   (fun r M=>r=.tuple #[vI s.length,.nilIface]∧∃v',M=[own b (.cells #[vP b 0,v'] e),rowC 5 1 v' (n+s.length) (xs++s.map fun b=>vU8 b)]):=by
 refine Con.enter Tryz.func101 rfl rfl ?_
 refine SX.sr (SL.asg (.r rfl) rfl (SL.asg (.r rfl) rfl (SL.nx (SX.sr (SL.mv (.r rfl) rfl ?_)))))
 refine SL.call (vs:=[_]) (Hin:=[_]) (.r rfl) rfl ⟨rfl,trivial⟩ cal144 rfl rfl (c_copyCheck e b p v hp hl) ?_
 rintro _ _ ⟨rfl,rfl⟩
 refine ⟨trivial,?_⟩
 refine SL.nx (SX.sr (SL.mv (.r rfl) rfl (SL.mv (.r rfl) rfl (SL.nchk (.r rfl) rfl (SL.fa (.r rfl) rfl fo172_1 (SL.ld (.r rfl) sc141 rfl (cell_own 0 rfl rfl) (SL.mv (.r rfl) rfl ?_)))))))
 refine SL.appS 1 (.r rfl) ty141 ty9 sz5 by5 ze5 rfl rfl rfl hn (fun _=>trivial) fun v'=>?_
 refine SL.nchk (.r rfl) rfl (SL.fa (.r rfl) rfl fo172_1 ?_)
 refine SL.fact (fun w hw=>row_shape (hw.holds _ (List.mem_append_left _ (List.mem_of_getElem? (i:=1) rfl)))) fun hsh=>?_
 have hc1:v'.cells=#[v']:=by rcases hsh with ⟨rfl,_⟩ | ⟨g,cap,rfl,_⟩<;>rfl
 have ho1:v'.oneCell'=true:=by rcases hsh with ⟨rfl,_⟩ | ⟨g,cap,rfl,_⟩<;>rfl
 refine SL.st 0 ⟨rfl,rfl,rfl⟩ rfl rfl rfl sz141 (by rw [hc1];rfl) (by rw [hc1];simp [ho1]) rfl trivial ?_
 rw [hc1]
 refine SL.nx (SX.sr (SL.mv (.r rfl) rfl (SL.lenS (.r rfl) ty9 rfl (SL.asg (.r rfl) rfl (SL.asg (.r rfl) rfl (SL.nx (SX.ret ?_)))))))
 exact SQ.fret (res2 rfl rfl rfl) (ret_of (M:=[_,_]) ⟨rfl,v',rfl⟩ fun _ h=>h)

theorem c_Len (e:TypeId) (b:Nat) (p v:Value) (n:Nat) (xs:List Value):
  Con Tryz.prog K w0 102 [vP b 0] [own b (.cells #[p,v] e),rowC 5 1 v n xs] H
   (fun r M=>r=vI n∧M=[own b (.cells #[p,v] e),rowC 5 1 v n xs]):=by
 refine Con.enter Tryz.func102 rfl rfl ?_
 refine SX.sr (SL.asg (.r rfl) rfl (SL.nx (SX.sr (SL.mv (.r rfl) rfl (SL.nchk (.r rfl) rfl (SL.fa (.r rfl) rfl fo172_1 (SL.ld (.r rfl) sc141 rfl (cell_own 0 rfl rfl) (SL.lenR 1 (.r rfl) ty141 rfl rfl (SL.asg (.r rfl) rfl (SL.nx (SX.ret ?_)))))))))))
 exact SQ.fret (res1 rfl rfl) (ret_of (M:=[_,_]) ⟨rfl,rfl⟩ fun _ h=>h)

theorem c_String (e:TypeId) (b:Nat) (p v:Value) (n:Nat) (s:List UInt8) (hn:n≤140737488355328):
  Con Tryz.prog K w0 103 [vP b 0] [own b (.cells #[p,v] e),rowC 5 1 v n (s.map fun b=>vU8 b)] H
   (fun r M=>r=vS s∧M=[own b (.cells #[p,v] e),rowC 5 1 v n (s.map fun b=>vU8 b)]):=by
 refine Con.enter Tryz.func103 rfl rfl ?_
 refine SX.sr (SL.asg (.r rfl) rfl (SL.nx (SX.seq (SX.drawI mix [0,1] (Pl.of [(true,0),(true,1),(true,2),(true,3),(true,5),(true,6),(true,7),(true,8),(true,9),(false,4),(false,10),(true,11)]) (by kernel_rfl) (SL.mv (.r rfl) rfl (SL.nchk (.r rfl) rfl (SL.fa (.r rfl) rfl fo172_1 (SL.ld (.r rfl) sc141 rfl (cell_own 0 rfl rfl) (SL.mv (.r rfl) rfl (SL.nchk (.r rfl) rfl ?_))))))))))
 refine SL.fa (.r rfl) rfl fo172_1 (SL.ld (.r rfl) sc141 rfl (cell_own 0 rfl rfl) (SL.lenR 1 (.r rfl) ty141 rfl rfl ?_))
 refine SL.usdR 1 (.r rfl) ty218 rfl rfl ⟨⟨0,rfl⟩,⟨1,rfl⟩,trivial⟩ fun q hq=>?_
 refine SL.ustR 1 (.r rfl) ty218 ce5 rfl rfl hq rfl (by omega) ⟨⟨0,rfl⟩,⟨1,rfl⟩,trivial⟩ (SL.asg (.r rfl) rfl (SL.nx (SX.ret ?_)))
 exact SQ.fret (res1 rfl rfl) (ret_of (M:=[_,_]) ⟨rfl,rfl⟩ fun _ h=>h)
end Go.Proofs.YtkibffdipniemaaGreatDoor

/- Walks of strings.Repeat at the text of one zero byte, and of what it calls. Condition: at most 8192 times. -/
namespace Go.Proofs.YtkibffdipniemaaGreatDoor
open Go
variable {K:Nat→Prop} {w0:World} {H:List Chunk}

theorem shr64_small {y:UInt64} (h:y.toNat<4294967296):shr64 y 32=0:=by
 apply UInt64.toNat_inj.1
 have h1:y.toNat / 4294967296=0:=Nat.div_eq_of_lt h
 simp [shr64,h1]
theorem big63 (n:Nat) (h:n<9223372036854775808):decide ((9223372036854775807:UInt64)<toU64 n)=false:=by
 rw [decide_eq_false_iff_not,UInt64.lt_iff_toNat_lt]
 have h1:(9223372036854775807:UInt64).toNat=9223372036854775807:=by decide
 have h2:(toU64 n).toNat=n:=by simp only [toU64,UInt64.toNat_ofNat'];omega
 omega
theorem and64_small {y:UInt64} (h:y.toNat<4294967296):y &&& 4294967295=y:=by
 apply UInt64.toNat_inj.1
 rw [UInt64.toNat_and]
 exact Nat.and_two_pow_sub_one_of_lt_two_pow (n:=32) h
theorem c_Mul64 (y:UInt64) (hy:y.toNat<4294967296):Con Tryz.prog K w0 142 [vU64 1,vU64 y] [] H (fun r M=>r=.tuple #[vU64 0,vU64 y]∧M=[]):=by
 refine Con.enter Tryz.func142 rfl rfl ?_
 refine SX.sr (SL.asg (.r rfl) rfl (SL.asg (.r rfl) rfl (SL.nx (SX.sr (SL.mv (.r rfl) rfl ?_)))))
 refine SL.bin (.r rfl) rfl rfl (Bin.and64 (b:=4294967295)) ?_
 refine SL.asg (.r rfl) rfl (SL.nx (SX.sr (SL.mv (.r rfl) rfl ?_)))
 refine SL.bin (.r rfl) rfl rfl (Bin.shr64 (n:=32)) ?_
 refine SL.asg (.r rfl) rfl (SL.nx (SX.sr (SL.mv (.r rfl) rfl ?_)))
 refine SL.bin (.r rfl) rfl rfl (Bin.and64 (b:=4294967295)) ?_
 refine SL.asg (.r rfl) rfl (SL.nx (SX.sr (SL.mv (.r rfl) rfl ?_)))
 refine SL.bin (.r rfl) rfl rfl (Bin.shr64 (n:=32)) ?_
 refine SL.asg (.r rfl) rfl (SL.nx (SX.sr (SL.mv (.r rfl) rfl (SL.mv (.r rfl) rfl (SL.bin (.r rfl) rfl rfl Bin.mul64 (SL.asg (.r rfl) rfl (SL.nx (SX.sr (SL.mv (.r rfl) rfl (SL.mv (.r rfl) rfl (SL.bin (.r rfl) rfl rfl Bin.mul64 ?_)))))))))))
 refine SL.mv (.r rfl) rfl ?_
 refine SL.bin (.r rfl) rfl rfl (Bin.shr64 (n:=32)) ?_
 refine SL.bin (.r rfl) rfl rfl Bin.add64 (SL.asg (.r rfl) rfl (SL.nx (SX.sr (SL.mv (.r rfl) rfl ?_))))
 refine SL.bin (.r rfl) rfl rfl (Bin.and64 (b:=4294967295)) ?_
 refine SL.asg (.r rfl) rfl (SL.nx (SX.sr (SL.mv (.r rfl) rfl ?_)))
 refine SL.bin (.r rfl) rfl rfl (Bin.shr64 (n:=32)) ?_
 refine SL.asg (.r rfl) rfl (SL.nx (SX.sr (SL.mv (.r rfl) rfl (SL.mv (.r rfl) rfl (SL.mv (.r rfl) rfl (SL.bin (.r rfl) rfl rfl Bin.mul64 (SL.bin (.r rfl) rfl rfl Bin.add64 (SL.asg (.r rfl) rfl (SL.nx (SX.sr (SL.mv (.r rfl) rfl ?_)))))))))))
 refine SL.mv (.r rfl) rfl (SL.bin (.r rfl) rfl rfl Bin.mul64 (SL.mv (.r rfl) rfl (SL.bin (.r rfl) rfl rfl Bin.add64 (SL.mv (.r rfl) rfl ?_))))
 refine SL.bin (.r rfl) rfl rfl (Bin.shr64 (n:=32)) ?_
 refine SL.bin (.r rfl) rfl rfl Bin.add64 (SL.asg (.r rfl) rfl (SL.nx (SX.sr (SL.mv (.r rfl) rfl (SL.mv (.r rfl) rfl (SL.bin (.r rfl) rfl rfl Bin.mul64 (SL.asg (.r rfl) rfl (SL.nx (SX.ret ?_)))))))))
 have h1:shr64 y 32=0:=shr64_small hy
 have h2:y &&& 4294967295=y:=and64_small hy
 have h3:shr64 (1:UInt64) 32=0:=by decide
 have h4:(1:UInt64) &&& 4294967295=1:=by decide
 have h5:shr64 (0:UInt64) 32=0:=by decide
 have h6:(0:UInt64) &&& 4294967295=0:=by decide
 refine SQ.fret (res2 rfl rfl rfl) (ret_of (M:=[]) ⟨?_,rfl⟩ fun _ h=>h.skip [])
 simp [h1,h2,h3,h4,h5,h6]

theorem c_Mul (y:UInt64) (hy:y.toNat<4294967296):Con Tryz.prog K w0 98 [vU64 1,vU64 y] [] H (fun r M=>r=.tuple #[vU64 0,vU64 y]∧M=[]):=by
 refine Con.enter Tryz.func98 rfl rfl ?_
 refine SX.sr (SL.asg (.r rfl) rfl (SL.asg (.r rfl) rfl (SL.nx (SX.seq ?_))))
 refine SX.cond rfl (fun hc1=>absurd hc1 (by decide)) (fun hc1=>?_)
 refine SX.skip (SQ.thn (SX.sr (SL.mv (.r rfl) rfl (SL.mv (.r rfl) rfl ?_))))
 refine SL.call (vs:=[_,_]) (Hin:=[]) (.r rfl) rfl ⟨rfl,rfl,trivial⟩ cal142 rfl rfl (c_Mul64 y hy) ?_
 rintro _ _ ⟨rfl,rfl⟩
 refine ⟨trivial,?_⟩
 refine SL.mv (.r rfl) rfl (SL.ext (.r rfl) rfl rfl (SL.ext (.r rfl) rfl rfl (SL.asg (.r rfl) rfl (SL.asg (.r rfl) rfl (SL.nx (SX.sr (SL.mv (.r rfl) rfl (SL.mv (.r rfl) rfl (SL.asg (.r rfl) rfl ?_)))))))))
 refine SL.asg (.r rfl) rfl (SL.nx (SX.ret ?_))
 exact SQ.fret (res2 rfl rfl rfl) (ret_of (M:=[]) ⟨rfl,rfl⟩ fun _ h=>h.skip [])

theorem c_grow0 (b n:Nat) (hn:n≤281474976710656):Con Tryz.prog K w0 145 [vP b 0,vI n] [own b (.cells #[vP b 0,.slice none 0 0] 172)] H (fun r M=>r=.tuple #[]∧∃v,M=[own b (.cells #[vP b 0,v] 172),rowC 5 1 v 0 []]):=by
 refine Con.enter Tryz.func145 rfl rfl ?_
 refine SX.seq (SX.drawI mix [0] (Pl.of [(true,0),(true,1),(true,2),(true,3),(true,4),(true,5),(true,6),(true,7),(true,9),(true,10),(true,11),(true,12),(true,13),(false,8),(true,14),(true,15)]) (by kernel_rfl) (SL.mv (.r rfl) rfl (SL.nchk (.r rfl) rfl (SL.fa (.r rfl) rfl fo172_1 (SL.ld (.r rfl) sc141 rfl (cell_own 0 rfl rfl) (SL.capL (.r rfl) ty141 rfl (SL.bin (.r rfl) rfl rfl (Bin.mulI (by omega) (by omega)) (SL.mv (.r rfl) rfl ?_))))))))
 refine SL.bin (.r rfl) rfl rfl (Bin.addI (by omega) (by omega)) (SL.mv (.r rfl) rfl (SL.nchk (.r rfl) rfl (SL.fa (.r rfl) rfl fo172_1 (SL.ld (.r rfl) sc141 rfl (cell_own 0 rfl rfl) (SL.lenL (.r rfl) ty141 rfl ?_)))))
 refine SL.mnz (n:=n) (fn:=Tryz.f186) (.r rfl) rfl (by omega) hn ty141 (fun w r w' hr=>by rw [run_callFunc_extern (e:=Extern.BytealgMakeNoZero.makeNoZero #[3] #[141]) Tryz.func186 (by kernel_rfl) (by kernel_rfl) (by kernel_rfl) (by kernel_rfl)];rw [show (Extern.BytealgMakeNoZero.makeNoZero #[3] #[141] #[vI n]).run Tryz.prog w=.ok r w' from hr];rfl) (fun _ _=>⟨⟨1,rfl⟩,trivial⟩) fun b1 cs hcs hcm=>?_
 refine SL.slHR 0 (.r rfl) ty141 sz5 rfl rfl rfl (by omega) (SL.asg (.r rfl) rfl (SL.nx (SX.sr (SL.mv (.r rfl) rfl (SL.mv (.r rfl) rfl (SL.nchk (.r rfl) rfl (SL.fa (.r rfl) rfl fo172_1 (SL.ld (.r rfl) sc141 rfl (cell_own 1 rfl rfl) (SL.cpN (.r rfl) ty141 sz5 rfl rfl (SL.nx (SX.region ?_)))))))))))
 refine SL.mv (.r rfl) rfl (SL.mv (.r rfl) rfl (SL.nchk (.r rfl) rfl (SL.fa (.r rfl) rfl fo172_1 (SL.st 1 ⟨rfl,rfl,rfl⟩ rfl rfl rfl sz141 rfl rfl rfl trivial (SL.nil ?_)))))
 refine SQ.heap (H':=rowC 5 1 (.slice (some ⟨b1,0,none⟩) 0 cs.size) 0 []::own b (.cells #[vP b 0,.slice (some ⟨b1,0,none⟩) 0 cs.size] 172)::H) ?_ fun w hw=>HpOk.asRow hw (by simp) (by omega)
 exact SQ.fend (res0 rfl) (ret_of (M:=[_,_]) ⟨rfl,_,rfl⟩ fun _ h=>h.perm (List.Perm.swap _ _ _))

theorem c_Grow0 (b n:Nat) (p:Value) (hp:adr b p) (h0:0<n) (hn:n≤281474976710656):Con Tryz.prog K w0 100 [vP b 0,vI n] [own b (.cells #[p,.slice none 0 0] 172)] H (fun r M=>r=.tuple #[]∧∃v,M=[own b (.cells #[vP b 0,v] 172),rowC 5 1 v 0 []]):=by
 refine Con.enter Tryz.func100 rfl rfl ?_
 refine SX.sr (SL.mv (.r rfl) rfl ?_)
 refine SL.call (vs:=[_]) (Hin:=[_]) (.r rfl) rfl ⟨rfl,trivial⟩ cal144 rfl rfl (c_copyCheck 172 b p (.slice none 0 0) hp li172) ?_
 rintro _ _ ⟨rfl,rfl⟩
 refine ⟨trivial,?_⟩
 refine SL.nx (SX.seq (SX.sr (SL.mv (.r rfl) rfl (SL.bin (.r rfl) rfl rfl Bin.ltI (SL.nx ?_)))))
 refine SX.cond rfl (fun hc1=>absurd hc1 (by simp)) (fun hc1=>?_)
 refine SX.skip (SQ.thn (SX.seq (SX.drawI mix [0] (Pl.of [(true,0),(true,1),(true,2),(true,3),(true,4),(true,5),(true,6),(true,7),(true,8),(true,9),(true,10),(true,11),(true,12)]) (by kernel_rfl) (SL.mv (.r rfl) rfl (SL.nchk (.r rfl) rfl (SL.fa (.r rfl) rfl fo172_1 (SL.ld (.r rfl) sc141 rfl (cell_own 0 rfl rfl) (SL.capL (.r rfl) ty141 rfl (SL.mv (.r rfl) rfl (SL.nchk (.r rfl) rfl ?_))))))))))
 refine SL.fa (.r rfl) rfl fo172_1 (SL.ld (.r rfl) sc141 rfl (cell_own 0 rfl rfl) (SL.lenL (.r rfl) ty141 rfl (SL.bin (.r rfl) rfl rfl (Bin.subI (by omega) (by omega)) (SL.mv (.r rfl) rfl (SL.bin (.r rfl) rfl rfl Bin.ltI (SL.nx ?_))))))
 refine SX.cond rfl (fun hc2=>?_) (fun hc2=>absurd hc2 (by simp;omega))
 refine SX.region (SL.mv (.r rfl) rfl (SL.mv (.r rfl) rfl ?_))
 refine SL.call (vs:=[_,_]) (Hin:=[_]) (.r rfl) rfl ⟨rfl,rfl,trivial⟩ cal145 rfl rfl (c_grow0 b n hn) ?_
 rintro _ _ ⟨rfl,v,rfl⟩
 refine ⟨trivial,?_⟩
 refine SL.nil ?_
 exact SQ.fend (res0 rfl) (ret_of (M:=[_,_]) ⟨rfl,v,rfl⟩ fun _ h=>h)

theorem c_Repeat0 (n:Nat) (hn:n≤8192):Con Tryz.prog K w0 70 [vS [0],vI n] [] H (fun r M=>r=vS (List.replicate n 0)∧M=[]):=by
 refine Con.enter Tryz.func70 rfl rfl ?_
 refine SX.sr (SL.asg (.r rfl) rfl (SL.nx (SX.seq (SX.sr (SL.mv (.r rfl) rfl (SL.nx (SX.block (SX.sr (SL.bin (.r rfl) rfl rfl Bin.eqI (SL.asg (.r rfl) rfl (SL.nx ?_)))))))))))
 refine SX.cond rfl (fun hc1=>?_) (fun hc1=>?_)
 refine SX.sr (SL.asg (.r rfl) rfl (SL.nx (SX.ret (SQ.blkR (SQ.thnR ?_)))))
 exact SQ.fret (res1 rfl rfl) (ret_of (M:=[]) ⟨by have h0:n=0:=(by simpa using hc1);subst h0;rfl,rfl⟩ fun _ h=>h.skip [])
 have h0:n≠0:=by intro h;subst h;simp at hc1
 refine SX.sr (SL.bin (.r rfl) rfl rfl Bin.eqI (SL.asg (.r rfl) rfl (SL.nx ?_)))
 refine SX.cond rfl (fun hc2=>?_) (fun hc2=>?_)
 refine SX.sr (SL.mv (.r rfl) rfl (SL.asg (.r rfl) rfl (SL.nx (SX.ret (SQ.blkR (SQ.thnR ?_))))))
 exact SQ.fret (res1 rfl rfl) (ret_of (M:=[]) ⟨by have h1:n=1:=(by simp at hc2;omega);subst h1;rfl,rfl⟩ fun _ h=>h.skip [])
 refine SX.skip (SQ.blk (SQ.thn (SX.seq (SX.sr (SL.mv (.r rfl) rfl (SL.bin (.r rfl) rfl rfl Bin.ltI (SL.nx ?_)))))))
 refine SX.cond rfl (fun hc3=>absurd hc3 (by simp)) (fun hc3=>?_)
 refine SX.skip (SQ.thn (SX.sr (SL.mv (.r rfl) rfl (SL.lenS (.r rfl) ty9 rfl (SL.cv (.r rfl) rfl (Cv.i_64 ty3 ty166) (SL.mv (.r rfl) rfl (SL.cv (.r rfl) rfl (Cv.i_64 ty3 ty166) ?_)))))))
 refine SL.call (vs:=[_,_]) (Hin:=[]) (.r rfl) rfl ⟨rfl,rfl,trivial⟩ cal98 rfl rfl (c_Mul (toU64 n) (by simp [toU64];omega)) ?_
 rintro _ _ ⟨rfl,rfl⟩
 refine ⟨trivial,?_⟩
 refine SL.mv (.r rfl) rfl (SL.ext (.r rfl) rfl rfl (SL.ext (.r rfl) rfl rfl (SL.asg (.r rfl) rfl (SL.asg (.r rfl) rfl (SL.nx (SX.seq (SX.sr (SL.mv (.r rfl) rfl ?_))))))))
 refine SL.bin (.r rfl) rfl rfl (Bin.gt64 (b:=0)) ?_
 refine SL.mv (.r rfl) rfl ?_
 refine SL.or (c:=false) 31 3 34 rfl (fun hb k=>?_) (fun hb k=>?_) ?_
 refine SL.pass rfl rfl rfl (SL.pass rfl rfl rfl (SL.pk (.r rfl) rfl rfl ?_))
 exact k.mono (by repeat' (first | exact trivial | refine And.intro rfl ?_))
 refine SL.mv (.r rfl) rfl ?_
 refine SL.bin (.r rfl) rfl rfl (Bin.gt64 (b:=9223372036854775807)) ?_
 rw [big63 n (by omega)]
 refine SL.pk (.r rfl) rfl rfl ?_
 exact k.mono (by repeat' (first | exact trivial | refine And.intro rfl ?_))
 refine SL.nx ?_
 refine SX.cond rfl (fun hc4=>absurd hc4 (by decide)) (fun hc4=>?_)
 refine SX.skip (SQ.thn (SX.sr (SL.mv (.r rfl) rfl ?_)))
 have hto:((toU64 n).toNat:Int)=n:=by simp only [toU64,UInt64.toNat_ofNat'];omega
 refine SL.cv (.r rfl) rfl (Cv.i_I (n:=((toU64 n).toNat:Int)) ty166 ty3 (by omega) (by omega)) ?_
 rw [hto]
 refine SL.asg (.r rfl) rfl (SL.nx (SX.seq (SX.sr (SL.mv (.r rfl) rfl (SL.lenS (.r rfl) ty9 rfl (SL.bin (.r rfl) rfl rfl Bin.eqI (SL.nx ?_)))))))
 refine SX.cond rfl (fun hc5=>absurd hc5 (by decide)) (fun hc5=>?_)
 refine SX.skip (SQ.thn (SX.seq (SX.sr (SL.mv (.r rfl) rfl (SL.ixS 0 (.r rfl) ty9 rfl rfl (by decide) (by decide) (SL.nx (SX.block (SX.seq (SX.sr ?_)))))))))
 refine SL.bin (.r rfl) rfl rfl (Bin.eq8 (b:=32)) ?_
 refine SL.asg (.r rfl) rfl (SL.nx ?_)
 refine SX.cond rfl (fun hc6=>absurd hc6 (by decide)) (fun hc6=>?_)
 refine SX.sr ?_
 refine SL.bin (.r rfl) rfl rfl (Bin.eq8 (b:=45)) ?_
 refine SL.asg (.r rfl) rfl (SL.nx ?_)
 refine SX.cond rfl (fun hc7=>absurd hc7 (by decide)) (fun hc7=>?_)
 refine SX.sr ?_
 refine SL.bin (.r rfl) rfl rfl (Bin.eq8 (b:=48)) ?_
 refine SL.asg (.r rfl) rfl (SL.nx ?_)
 refine SX.cond rfl (fun hc8=>absurd hc8 (by decide)) (fun hc8=>?_)
 refine SX.sr ?_
 refine SL.bin (.r rfl) rfl rfl (Bin.eq8 (b:=61)) ?_
 refine SL.asg (.r rfl) rfl (SL.nx ?_)
 refine SX.cond rfl (fun hc9=>absurd hc9 (by decide)) (fun hc9=>?_)
 refine SX.region ?_
 refine SL.bin (.r rfl) rfl rfl (Bin.eq8 (b:=9)) ?_
 refine SL.asg (.r rfl) rfl (SL.nx ?_)
 refine SX.cond rfl (fun hc10=>absurd hc10 (by decide)) (fun hc10=>?_)
 refine SX.skip (SQ.blk (SQ.thn (SX.sr (SL.mv (.r rfl) rfl (SL.asg (.r rfl) rfl (SL.nx (SX.seq (SX.sr (SL.mv (.r rfl) rfl (SL.bin (.r rfl) rfl rfl Bin.gtI (SL.nx ?_)))))))))))
 refine SX.cond rfl (fun hc11=>absurd hc11 (by simp;omega)) (fun hc11=>?_)
 refine SX.skip (SQ.thn (SX.sr ?_))
 refine SL.alloc (.r rfl) ze172 (fun _=>trivial) fun b0=>?_
 refine SL.nx (SX.sr (SL.mv (.r rfl) rfl ?_))
 refine SL.call (vs:=[_,_]) (Hin:=[_]) (.r rfl) rfl ⟨rfl,rfl,trivial⟩ cal100 rfl rfl (c_Grow0 b0 n _ (.inl rfl) (by omega) (by omega)) ?_
 rintro _ _ ⟨rfl,v1,rfl⟩
 refine ⟨trivial,?_⟩
 refine SL.nx (SX.sr (SL.mv (.r rfl) rfl ?_))
 refine SL.call (vs:=[_,_]) (Hin:=[_,_]) (.r rfl) rfl ⟨rfl,rfl,trivial⟩ cal101 rfl rfl (c_WriteString 172 b0 _ v1 0 [] [0] (.inr rfl) li172 (by simp)) ?_
 rintro _ _ ⟨rfl,v2,rfl⟩
 refine ⟨trivial,?_⟩
 refine SL.nx (SX.seq (SX.block ?_))
 refine SX.mono (SX.loop (α:=Nat×Value) (fun x=>1≤x.1∧x.1≤n) (fun x=>[(0,vS [0]),(7,vI n),(8,vI n),(9,vP b0 0)]) (fun x=>own b0 (.cells #[vP b0 0,x.2] 172)::rowC 5 1 x.2 x.1 ((List.replicate x.1 0).map fun b=>vU8 b)::H) (fun x=>n-x.1) (fun x D hp=>?_) (1,v2) ⟨Nat.le_refl _,by simp only;omega⟩) (by repeat' (first | exact trivial | refine And.intro rfl ?_))
 obtain ⟨m,v⟩:=x
 obtain ⟨h1,h2⟩:=hp
 simp only at h1 h2
 refine SX.seq (SX.sr ?_)
 refine SL.call (vs:=[_]) (Hin:=[_,_]) (.r rfl) rfl ⟨rfl,trivial⟩ cal102 rfl rfl (c_Len 172 b0 (vP b0 0) v m _) ?_
 rintro _ _ ⟨rfl,rfl⟩
 refine ⟨trivial,?_⟩
 refine SL.mv (.r rfl) rfl (SL.bin (.r rfl) rfl rfl Bin.ltI (SL.nx ?_))
 refine SX.cond rfl (fun hc12=>?_) (fun hc12=>?_)
 refine SX.skip (SQ.thn (SX.block (SX.sr (SL.mv (.r rfl) rfl ?_))))
 refine SL.call (vs:=[_]) (Hin:=[_,_]) (.r rfl) rfl ⟨rfl,trivial⟩ cal102 rfl rfl (c_Len 172 b0 (vP b0 0) v m _) ?_
 rintro _ _ ⟨rfl,rfl⟩
 refine ⟨trivial,?_⟩
 refine SL.bin (.r rfl) rfl rfl (Bin.subI (by omega) (by omega)) ?_
 refine SL.call (vs:=[_]) (Hin:=[_,_]) (.r rfl) rfl ⟨rfl,trivial⟩ cal102 rfl rfl (c_Len 172 b0 (vP b0 0) v m _) ?_
 rintro _ _ ⟨rfl,rfl⟩
 refine ⟨trivial,?_⟩
 refine SL.mv (.r rfl) rfl (SL.minI3 (.r rfl) rfl rfl rfl (SL.asg (.r rfl) rfl (SL.nx (SX.region ?_))))
 refine SL.call (vs:=[_]) (Hin:=[_,_]) (.r rfl) rfl ⟨rfl,trivial⟩ cal103 rfl rfl (c_String 172 b0 (vP b0 0) v m (List.replicate m 0) (by omega)) ?_
 rintro _ _ ⟨rfl,rfl⟩
 refine ⟨trivial,?_⟩
 refine SL.mv (.r rfl) rfl (SL.slSh (min (n-m) m) (.r rfl) ty9 rfl rfl (by omega) (by simp;omega) ?_)
 refine SL.call (vs:=[_,_]) (Hin:=[_,_]) (.r rfl) rfl ⟨rfl,rfl,trivial⟩ cal101 rfl rfl (c_WriteString 172 b0 _ v m _ ((List.replicate m 0).take (min (n-m) m)) (.inr rfl) li172 (by simp;omega)) ?_
 rintro _ _ ⟨rfl,v',rfl⟩
 refine ⟨trivial,?_⟩
 refine SL.nil (SQ.blk ?_)
 exact SQ.again (m+min (n-m) m,v') ⟨by simp only;omega,by simp only;omega⟩ (by simp at hc12;simp only;omega) ⟨rfl,rfl,rfl,rfl,trivial⟩ (fun w h=>by
  have e:(List.replicate m 0).map (fun b=>vU8 b)++((List.replicate m 0).take (min (n-m) m)).map (fun b=>vU8 b)=(List.replicate (m+min (n-m) m) 0).map fun b=>vU8 b:=by
   rw [←List.map_append,List.take_replicate,List.replicate_append_replicate];congr 2;omega
  have e2:((List.replicate m (0:UInt8)).take (min (n-m) m)).length=min (n-m) m:=by simp
  rw [e,e2] at h
  exact h)
 refine SX.exit (SQ.thnE (SQ.lpE (SQ.blkE (SQ.thn (SX.sr ?_)))))
 refine SL.call (vs:=[_]) (Hin:=[_,_]) (.r rfl) rfl ⟨rfl,trivial⟩ cal103 rfl rfl (c_String 172 b0 (vP b0 0) v m (List.replicate m 0) (by omega)) ?_
 rintro _ _ ⟨rfl,rfl⟩
 refine ⟨trivial,?_⟩
 refine SL.asg (.r rfl) rfl (SL.nx (SX.ret ?_))
 exact SQ.fret (res1 rfl rfl) (ret_of (M:=[]) ⟨by have h3:m=n:=(by simp at hc12;omega);subst h3;rfl,rfl⟩ fun _ h=>h.skip [_,_])
end Go.Proofs.YtkibffdipniemaaGreatDoor

/- Walks of SHA-256's sum: of what was taken in, of texts behind each other, of a text. Condition: texts of at most 2^40 bytes together. -/
namespace Go.Proofs.YtkibffdipniemaaGreatDoor
open Go
variable {K:Nat→Prop} {w0:World} {H:List Chunk}

theorem be64_step (n:UInt64) (i:Nat) (h:i<8):(be64 n).take (i+1)=(be64 n).take i++[(shr64 n (56-8*i)).toUInt8]:=by
 have:i=0∨i=1∨i=2∨i=3∨i=4∨i=5∨i=6∨i=7:=by omega
 rcases this with rfl | rfl | rfl | rfl | rfl | rfl | rfl | rfl<;>rfl
theorem absorb_rest_len (T:List UInt32) (h:St8) (s:List UInt8):(absorb T h s).2.length=s.length%64:=by
 rw [absorb_parts]
 simp
 omega
theorem c_sha_SumOf (T:List UInt32) (h:St8) (rest:List UInt8) (n:Nat) (b:Nat) (e:TypeId) (hT:Tab K w0 3 T) (hTl:T.length=64) (hr:rest.length=n%64) (hn:n≤1099511627776):Con Tryz.prog K w0 193 [vP b 0] [own b (.cells (sumC h rest n) e)] H (fun r M=>r=vS ((absorb T h (rest++tailA n)).1.list.flatMap beBytes)∧M=[own b (.cells (sumC h rest n) e)]):=by
 refine Con.enter Tryz.func193 rfl rfl ?_
 refine SX.sr (SL.asg (.r rfl) rfl (SL.nx (SX.seq (SX.sr (SL.mv (.r rfl) rfl (SL.eqPN (.r rfl) ty268 rfl rfl (SL.nx ?_)))))))
 refine SX.cond rfl (fun hc1=>absurd hc1 (by simp)) (fun hc1=>?_)
 refine SX.skip (SQ.thn (SX.sr (SL.mv (.r rfl) rfl (SL.nchk (.r rfl) rfl ?_))))
 refine SL.ldA (sumC h rest n).toList (.r rfl) ag274 rfl rfl (cells_own 0 rfl (fun j u hu=>by simpa using hu)) ?_
 refine SL.alloc (.r rfl) ze274 (fun _=>trivial) fun b0=>?_
 refine SL.stF (c':=sumC h rest n) 0 ⟨rfl,rfl,rfl⟩ rfl rfl rfl sz274 rfl rfl (List.all_eq_true.1 (show (sumC h rest n).toList.all (·.oneCell')=true from rfl)) trivial ?_
 refine SL.nx (SX.sr (SL.mv (.r rfl) rfl (SL.nchk (.r rfl) rfl (SL.fa (.r rfl) rfl fo274_2 (SL.ld (.r rfl) sc3 rfl (cell_own 1 rfl rfl) (SL.cv (.r rfl) rfl (Cv.i_64 ty3 ty48) ?_))))))
 refine SL.bin (.r rfl) rfl rfl (Bin.mul64 (b:=8)) ?_
 refine SL.asg (.r rfl) rfl (SL.nx (SX.sr (SL.mv (.r rfl) rfl (SL.nchk (.r rfl) rfl (SL.fa (.r rfl) rfl fo274_2 (SL.ld (.r rfl) sc3 rfl (cell_own 1 rfl rfl) (SL.bin (.r rfl) rfl rfl (Bin.modI (by omega) (by omega)) (SL.bin (.r rfl) rfl rfl (Bin.subI (by omega) (by omega)) (SL.bin (.r rfl) rfl rfl (Bin.modI (by omega) (by omega)) ?_)))))))))
 refine SL.asg (.r rfl) rfl (SL.nx (SX.sr (SL.asg (.r rfl) rfl (SL.nx (SX.seq (SX.sr (SL.asg (.r rfl) rfl (SL.nx (SX.block (SX.nilRow 5 1 ?_))))))))))
 refine SX.mono (SX.loop (α:=Nat×Value) (fun x=>x.1≤8) (fun x=>[(3,vP b0 0),(4,vU64 (toU64 n*8)),(5,vI (padZ n)),(6,x.2),(7,vI (56-8*(x.1:Int)))]) (fun x=>rowC 5 1 x.2 x.1 (((be64 (toU64 n*8)).take x.1).map fun b=>vU8 b)::own b0 (.cells (sumC h rest n) 274)::own b (.cells (sumC h rest n) e)::H) (fun x=>8-x.1) (fun x D hp=>?_) (0,.slice none 0 0) (by decide)) ⟨rfl,rfl,?_,rfl,rfl,trivial⟩
 rotate_left
 have e1:((119-(n:Int)%64)%64)=(padZ n:Int):=by unfold padZ;omega
 rw [←e1]
 rfl
 obtain ⟨i,v⟩:=x
 simp only at hp
 refine SX.seq (SX.sr (SL.mv (.r rfl) rfl (SL.bin (.r rfl) rfl rfl Bin.geI (SL.nx ?_))))
 refine SX.cond rfl (fun hc2=>?_) (fun hc2=>?_)
 have hi:i<8:=by simp at hc2;omega
 have e1:(56-8*(i:Int))=((56-8*i:Nat):Int):=by omega
 refine SX.skip (SQ.thn (SX.seq (SX.block (SX.region (SL.mv (.r rfl) rfl (SL.mv (.r rfl) rfl (SL.mv (.r rfl) rfl ?_)))))))
 refine SL.bin (.r rfl) rfl (congrArg (fun z=>some (vI z)) e1) (Bin.shr64 (n:=56-8*i)) ?_
 refine SL.cv (.r rfl) rfl (Cv.u64_8 ty48 ty5) ?_
 refine SL.bsl [_] (.r rfl) ty141 sz5 ze5 ⟨rfl,trivial⟩ rfl rfl rfl (by simp [Value.cells]) rfl rfl (fun _=>trivial) fun b1=>?_
 refine SL.app 1 (.r rfl) (m:=1) (news:=[vU8 (shr64 (toU64 n*8) (56-8*i)).toUInt8]) ty141 sz5 by5 ze5 rfl (by decide) rfl rfl rfl rfl (cells_all 0 rfl) (by simp [Value.oneCell']) (by omega) (by omega) (fun _=>trivial) fun v'=>?_
 refine SL.asg (.r rfl) rfl (SL.nil (SQ.blk (SQ.thn (SX.region (SL.mv (.r rfl) rfl (SL.bin (.r rfl) rfl rfl (Bin.subI (by omega) (by omega)) (SL.asg (.r rfl) rfl (SL.nil ?_))))))))
 refine SQ.again (i+1,v') (by simp only;omega) (by simp only;omega) ⟨rfl,rfl,rfl,rfl,?_,trivial⟩ (fun w hw=>by
  simp only
  rw [be64_step _ _ hi,List.map_append]
  exact hw.skip [_])
 have e2:(56-8*((i+1:Nat):Int))=56-8*(i:Int)-8:=by omega
 simp only [e2]
 rfl
 have hi:i=8:=by simp at hc2;omega
 subst hi
 refine SX.exit (SQ.thnE (SQ.lpE (SQ.blkE (SQ.thn (SX.seq (SX.drawI mix [0] (Pl.ap [(true,0),(true,3),(true,4),(false,1),(true,2),(true,5)] (.last 6 .nil)) (by kernel_rfl) (SL.mv (.r rfl) rfl (SL.mv (.r rfl) rfl ?_))))))))
 refine SL.btsR (s:=be64 (toU64 n*8)) 0 (.r rfl) ty141 ty5 ty9 rfl rfl ?_
 refine SL.call (vs:=[_,_]) (Hin:=[]) (.r rfl) rfl ⟨rfl,rfl,trivial⟩ cal70 rfl rfl (c_Repeat0 (padZ n) (by unfold padZ;omega)) ?_
 rintro _ _ ⟨rfl,rfl⟩
 refine ⟨⟨⟨0,rfl⟩,trivial⟩,?_⟩
 refine SL.bin (.r rfl) rfl rfl (Bin.cat (by simp [padZ];omega)) (SL.bin (.r rfl) rfl rfl (Bin.cat (by simp [padZ,be64];omega)) (SL.last (SL.pick [1] 2 ?_)))
 refine SL.call (vs:=[_,_]) (Hin:=[_]) (.r rfl) rfl ⟨rfl,rfl,trivial⟩ cal192 rfl rfl (c_sha_takes T h rest (tailA n) n b0 274 hT hTl (by omega) (by simp [tailA,padZ,be64];omega)) ?_
 rintro _ _ ⟨rfl,rfl⟩
 refine ⟨trivial,?_⟩
 refine SL.nx (SX.sr (SL.fa (.r rfl) rfl fo274_0 ?_))
 refine SL.call (vs:=[_]) (Hin:=[_]) (.r rfl) rfl ⟨rfl,trivial⟩ cal216 rfl rfl (c_sha_bytes (absorb T h (rest++tailA n)).1 [vS (absorb T h (rest++tailA n)).2,vI n] b0 274) ?_
 rintro _ _ ⟨rfl,rfl⟩
 refine ⟨trivial,?_⟩
 refine SL.asg (.r rfl) rfl (SL.nx (SX.ret ?_))
 exact SQ.fret (res1 rfl rfl) (ret_of (M:=[_]) ⟨rfl,rfl⟩ fun _ h=>h.skip [_])

theorem c_sha_New (hF:Tab K w0 1 firstA.list):Con Tryz.prog K w0 191 [] [] H (fun r M=>∃b,r=vP b 0∧M=[own b (.cells (sumC firstA [] 0) 274)]):=by
 refine Con.enter Tryz.func191 rfl rfl ?_
 refine SX.sr (SL.asg (.r rfl) rfl (SL.nx (SX.sr ?_)))
 refine SL.ldA (ad:=⟨1,0,none⟩) (firstA.list.map vU32) (.r rfl) ag272 rfl rfl (fun w hw j u hu=>by
  rw [Addr.add_mk,Nat.zero_add]
  rw [List.getElem?_map] at hu
  cases hx:firstA.list[j]? with
  | none=>rw [hx] at hu;cases hu
  | some x=>
   rw [hx] at hu
   obtain rfl:=Option.some.inj hu
   exact cell_base (ad:=⟨1,j,none⟩) hF.keep (hF.cell j x hx) w hw) ?_
 refine SL.bld [_] (.r rfl) pl274 pk274 ze274 ⟨rfl,trivial⟩ rfl ?_
 refine SL.box (.r rfl) rfl (fun _=>trivial) fun b0=>?_
 refine SL.asg (.r rfl) rfl (SL.nx (SX.ret ?_))
 exact SQ.fret (res1 rfl rfl) (ret_of (M:=[_]) ⟨b0,rfl,rfl⟩ fun _ h=>h)

theorem c_sha_Add (T:List UInt32) (v:Value) (ls:List (List UInt8)) (hT:Tab K w0 3 T) (hTl:T.length=64) (hF:Tab K w0 1 firstA.list) (hk:SlOf K w0 encS 1 v ls) (hn:ls.flatten.length≤1099511627776) (hl:ls.length≤1099511627776):Con Tryz.prog K w0 153 [v] [] H (fun r M=>r=vS (sumA T ls.flatten)∧M=[]):=by
 refine Con.enter Tryz.func153 rfl rfl ?_
 refine SX.sr (SL.asg (.r rfl) rfl (SL.nx (SX.sr ?_)))
 refine SL.call (vs:=[]) (Hin:=[]) (.r rfl) rfl trivial cal191 rfl rfl (c_sha_New hF) ?_
 rintro _ _ ⟨b0,rfl,rfl⟩
 refine ⟨trivial,?_⟩
 refine SL.asg (.r rfl) rfl (SL.nx (SX.seq (SX.sr (SL.mv (.r rfl) rfl (SL.lenV hk (.r rfl) ty22 rfl (SL.mv (.r rfl) rfl (SL.nx (SX.block ?_))))))))
 have h0:absorb T firstA (ls.take 0).flatten=(firstA,[]):=absorb_short (by simp)
 refine SX.heap (H':=own b0 (.cells (sumC (absorb T firstA (ls.take 0).flatten).1 (absorb T firstA (ls.take 0).flatten).2 ((ls.take 0).flatten.length:Nat)) 274)::H) ?_ (fun w hw=>by rw [h0];exact hw)
 refine SX.mono (SX.loop (α:=Nat) (fun i=>i≤ls.length) (fun i=>[(3,vP b0 0),(7,v),(8,vI ls.length),(9,vI i)]) (fun i=>own b0 (.cells (sumC (absorb T firstA (ls.take i).flatten).1 (absorb T firstA (ls.take i).flatten).2 ((ls.take i).flatten.length:Nat)) 274)::H) (fun i=>ls.length-i) (fun i D hp=>?_) 0 (Nat.zero_le _)) (by repeat' (first | exact trivial | refine And.intro rfl ?_))
 refine SX.sr (SL.bin (.r rfl) rfl rfl Bin.ltI (SL.nx (SX.seq ?_)))
 refine SX.cond rfl (fun hc1=>?_) (fun hc1=>?_)
 have hlt:i<ls.length:=by simpa using hc1
 obtain ⟨s,hs⟩:=get_of_lt hlt
 have hts:=(take_split hs).2
 have hfl:(ls.take (i+1)).flatten=(ls.take i).flatten++s:=by rw [hts];simp
 have hle:(ls.take (i+1)).flatten.length≤1099511627776:=by
  have:ls.flatten=(ls.take (i+1)).flatten++(ls.drop (i+1)).flatten:=by rw [←List.flatten_append,List.take_append_drop]
  rw [this] at hn
  simp only [List.length_append] at hn
  omega
 rw [hfl,List.length_append] at hle
 refine SX.skip (SQ.thn (SX.seq (SX.block (SX.sr ?_))))
 refine SL.iaV i s hk (.r rfl) ty22 sz9 rfl rfl rfl hs fun be off hcell=>?_
 refine SL.ld (.r rfl) sc9 rfl (fun w hw=>hcell _ w hw 0 _ rfl) ?_
 refine SL.asg (.r rfl) rfl (SL.nx (SX.sr (SL.mv (.r rfl) rfl (SL.mv (.r rfl) rfl ?_))))
 refine SL.call (vs:=[_,_]) (Hin:=[_]) (.r rfl) rfl ⟨rfl,rfl,trivial⟩ cal192 rfl rfl (c_sha_takes T _ _ s _ b0 274 hT hTl (absorb_rest T firstA _) (by omega)) ?_
 rintro _ _ ⟨rfl,rfl⟩
 refine ⟨trivial,?_⟩
 refine SL.nx (SX.region (SL.mv (.r rfl) rfl (SL.nchk (.r rfl) rfl (SL.fa (.r rfl) rfl fo274_2 (SL.ld (.r rfl) sc3 rfl (cell_own 0 rfl rfl) (SL.mv (.r rfl) rfl (SL.lenS (.r rfl) ty9 rfl (SL.bin (.r rfl) rfl rfl (Bin.addI (by omega) (by omega)) (SL.nchk (.r rfl) rfl ?_)))))))))
 refine SL.fa (.r rfl) rfl fo274_2 (SL.st 0 ⟨rfl,rfl,rfl⟩ rfl rfl rfl sz3 rfl rfl rfl trivial (SL.nil (SQ.blk (SQ.thn (SX.region (SL.bin (.r rfl) rfl rfl (Bin.addI (by omega) (by omega)) (SL.mv (.r rfl) rfl (SL.nil ?_))))))))
 refine SQ.again (i+1) hlt (by omega) (by repeat' (first | exact trivial | refine And.intro rfl ?_)) (fun w hw=>by
  rw [hfl,absorb_append T firstA (ls.take i).flatten s,List.length_append]
  exact hw)
 have hi:i=ls.length:=by simp at hc1;omega
 have ht:ls.take i=ls:=by rw [hi];exact List.take_length
 rw [ht]
 refine SX.exit (SQ.thnE (SQ.lpE (SQ.blkE (SQ.thn (SX.sr (SL.mv (.r rfl) rfl ?_))))))
 refine SL.call (vs:=[_]) (Hin:=[_]) (.r rfl) rfl ⟨rfl,trivial⟩ cal193 rfl rfl (c_sha_SumOf T _ _ ls.flatten.length b0 274 hT hTl (absorb_rest_len T firstA ls.flatten) hn) ?_
 rintro _ _ ⟨rfl,rfl⟩
 refine ⟨trivial,?_⟩
 refine SL.asg (.r rfl) rfl (SL.nx (SX.ret ?_))
 exact SQ.fret (res1 rfl rfl) (ret_of (M:=[]) ⟨by unfold sumA;rw [absorb_append T firstA ls.flatten],rfl⟩ fun _ h=>h.skip [_])

theorem c_sha_Sum (T:List UInt32) (s:List UInt8) (hT:Tab K w0 3 T) (hTl:T.length=64) (hF:Tab K w0 1 firstA.list) (hn:s.length≤1099511627776):Con Tryz.prog K w0 194 [vS s] [] H (fun r M=>r=vS (sumA T s)∧M=[]):=by
 refine Con.enter Tryz.func194 rfl rfl ?_
 refine SX.sr (SL.asg (.r rfl) rfl (SL.nx (SX.sr (SL.mv (.r rfl) rfl ?_))))
 refine SL.bsl [_] (.r rfl) ty22 sz9 ze9 ⟨rfl,trivial⟩ rfl rfl rfl (by simp [Value.cells]) rfl rfl (fun _=>trivial) fun b0=>?_
 refine SL.call (vs:=[_]) (Hin:=[_]) (.r rfl) rfl ⟨rfl,trivial⟩ cal153 rfl rfl (Con.lend (B:=[own b0 (.cells #[vS s] 9)]) (Hin:=[]) fun K' w1 hk hB=>(c_sha_Add T _ [s] (hT.keeps hk) hTl (hF.keeps hk) (SlOf.lent (enc:=encS) (sz:=1) (xs:=[s]) (fun _=>rfl) (Nat.le_refl 1) rfl (hB _ (List.mem_cons_self ..))) (by simpa using hn) (by simp))) ?_
 rintro _ _ ⟨M',rfl,rfl,rfl⟩
 refine ⟨trivial,?_⟩
 refine SL.asg (.r rfl) rfl (SL.nx (SX.ret ?_))
 exact SQ.fret (res1 rfl rfl) (ret_of (M:=[]) ⟨by simp,rfl⟩ fun _ h=>h.skip [_])

end Go.Proofs.YtkibffdipniemaaGreatDoor

/- Walks of HMAC and of what a key expands to (thirty-two bytes). Condition: texts of at most 2^39 bytes. -/
namespace Go.Proofs.YtkibffdipniemaaGreatDoor
open Go
variable {K:Nat→Prop} {w0:World} {H:List Chunk}

structure ShaT (K:Nat→Prop) (w0:World) (T:List UInt32):Prop where
 tab:Tab K w0 3 T
 len:T.length=64
 first:Tab K w0 1 firstA.list
theorem ShaT.keeps {T:List UInt32} {K':Nat→Prop} {w1:World} (h:ShaT K w0 T) (hk:Keeps K w0 K' w1):ShaT K' w1 T:=⟨h.tab.keeps hk,h.len,h.first.keeps hk⟩
theorem flatMap_encS (ls:List (List UInt8)):ls.flatMap encS=ls.map vS:=by
 induction ls with
 | nil=>rfl
 | cons s r ih=>rw [List.flatMap_cons,ih];rfl
theorem getD_append0 (k:List UInt8) (n i:Nat):(k++List.replicate n 0).getD i 0=k.getD i 0:=by
 simp only [List.getD_eq_getElem?_getD]
 rcases Nat.lt_or_ge i k.length with h | h
 rw [List.getElem?_append_left h]
 rw [List.getElem?_append_right h,List.getElem?_eq_none h]
 rw [List.getElem?_replicate]
 split<;>rfl
theorem c_sha_AddR (T:List UInt32) (v:Value) (ls:List (List UInt8)) (hT:ShaT K w0 T) (hn:ls.flatten.length≤1099511627776) (hl:ls.length≤1099511627776):Con Tryz.prog K w0 153 [v] [rowC 9 1 v ls.length (ls.flatMap encS)] H (fun r M=>r=vS (sumA T ls.flatten)∧M=[rowC 9 1 v ls.length (ls.flatMap encS)]):=by
 intro w hw
 have h1:=Con.lend (P:=Tryz.prog) (K:=K) (w0:=w0) (f:=153) (args:=[v]) (H:=H) (B:=[rowC 9 1 v ls.length (ls.flatMap encS)]) (Hin:=[]) (post:=fun r M=>r=vS (sumA T ls.flatten)∧M=[]) (fun K' w1 hk hB=>c_sha_Add T v ls (hT.keeps hk).tab hT.len (hT.keeps hk).first (SlOf.lentR (fun _=>rfl) (hB _ (List.mem_cons_self ..))) hn hl) w hw
 refine h1.mono ?_
 rintro e w' ⟨r,M,rfl,⟨M',rfl,hr,rfl⟩,hw'⟩
 exact ⟨r,_,rfl,⟨hr,rfl⟩,hw'⟩
theorem c_sha_AddL (T:List UInt32) (b:Nat) (ls:List (List UInt8)) (hT:ShaT K w0 T) (hn:ls.flatten.length≤1099511627776) (hl:ls.length≤1099511627776):Con Tryz.prog K w0 153 [.slice (some ⟨b,0,none⟩) ls.length ls.length] [own b (.cells (arr vS ls) 9)] H (fun r M=>r=vS (sumA T ls.flatten)∧M=[own b (.cells (arr vS ls) 9)]):=by
 intro w hw
 have h1:=Con.lend (P:=Tryz.prog) (K:=K) (w0:=w0) (f:=153) (args:=[.slice (some ⟨b,0,none⟩) ls.length ls.length]) (H:=H) (B:=[own b (.cells (arr vS ls) 9)]) (Hin:=[]) (post:=fun r M=>r=vS (sumA T ls.flatten)∧M=[]) (fun K' w1 hk hB=>c_sha_Add T _ ls (hT.keeps hk).tab hT.len (hT.keeps hk).first (SlOf.lent (enc:=encS) (sz:=1) (fun _=>rfl) (Nat.le_refl _) (by rw [flatMap_encS,arr_toList];exact List.take_of_length_le (by simp)) (hB _ (List.mem_cons_self ..))) hn hl) w hw
 refine h1.mono ?_
 rintro e w' ⟨r,M,rfl,⟨M',rfl,hr,rfl⟩,hw'⟩
 exact ⟨r,_,rfl,⟨hr,rfl⟩,hw'⟩
theorem c_mac_part (T:List UInt32) (key:List UInt8) (c:UInt8) (hT:ShaT K w0 T) (hn:key.length≤549755813888):Con Tryz.prog K w0 154 [vS key,vU8 c] [] H (fun r M=>r=vS (partA T key c)∧M=[]):=by
 refine Con.enter Tryz.func154 rfl rfl ?_
 refine SX.sr (SL.asg (.r rfl) rfl (SL.nx ?_))
 refine SX.meet (α:=Unit) (fun _=>True) (fun _=>[(0,vS (macKeyOf T key)),(1,vU8 c)]) (fun _=>H) ?_ (fun x hx=>?_)
 refine SX.sr (SL.mv (.r rfl) rfl (SL.lenS (.r rfl) ty9 rfl (SL.bin (.r rfl) rfl rfl Bin.gtI (SL.nx ?_))))
 refine SX.cond rfl (fun hc1=>?_) (fun hc1=>?_)
 refine SX.region (SL.mv (.r rfl) rfl ?_)
 refine SL.call (vs:=[_]) (Hin:=[]) (.r rfl) rfl ⟨rfl,trivial⟩ cal194 rfl rfl (c_sha_Sum T key hT.tab hT.len hT.first (by omega)) ?_
 rintro _ _ ⟨rfl,rfl⟩
 refine ⟨trivial,?_⟩
 refine SL.asg (.r rfl) rfl (SL.nil ?_)
 have hk:macKeyOf T key=sumA T key:=by unfold macKeyOf;rw [if_pos (by simp at hc1;omega)]
 exact SQ.mid () trivial (by rw [hk];exact ⟨rfl,rfl,trivial⟩)
 refine SX.skip ?_
 have hk:macKeyOf T key=key:=by unfold macKeyOf;rw [if_neg (by simp at hc1;omega)]
 exact SQ.mid () trivial (by rw [hk];exact ⟨rfl,rfl,trivial⟩)
 
 have hkl:=macKeyOf_length T key
 refine SX.sr (SL.mv (.r rfl) rfl (SL.mv (.r rfl) rfl (SL.lenS (.r rfl) ty9 rfl (SL.bin (.r rfl) rfl rfl (Bin.subI (by omega) (by omega)) ?_))))
 refine SL.call (vs:=[_,_]) (Hin:=[]) (.r rfl) rfl ⟨rfl,rfl,trivial⟩ cal70 (by rw [show (64-(((macKeyOf T key).length:Nat):Int))=((64-(macKeyOf T key).length:Nat):Int) by omega];rfl) rfl (c_Repeat0 (64-(macKeyOf T key).length) (by omega)) ?_
 rintro _ _ ⟨rfl,rfl⟩
 refine ⟨trivial,?_⟩
 refine SL.bin (.r rfl) rfl rfl (Bin.cat (by simp;omega)) (SL.asg (.r rfl) rfl (SL.nx (SX.sr ?_)))
 refine SL.alloc (.r rfl) ze172 (fun _=>trivial) fun b0=>?_
 refine SL.nx (SX.seq (SX.sr (SL.mv (.r rfl) rfl (SL.nx (SX.block (SX.nilRow 5 1 (SX.pick [1,0] 2 ?_)))))))
 refine SX.mono (SX.loop (α:=Nat×Value×Value) (fun x=>x.1≤64∧adr b0 x.2.1) (fun x=>[(0,vS (macKeyOf T key++List.replicate (64-(macKeyOf T key).length) 0)),(1,vU8 c),(5,vP b0 0),(18,vI x.1)]) (fun x=>own b0 (.cells #[x.2.1,x.2.2] 172)::rowC 5 1 x.2.2 x.1 (((partA T key c).take x.1).map fun b=>vU8 b)::H) (fun x=>64-x.1) (fun x D hp=>?_) (0,.pointer none,.slice none 0 0) ⟨by decide,.inl rfl⟩) (by repeat' (first | exact trivial | refine And.intro rfl ?_))
 obtain ⟨i,p,v⟩:=x
 obtain ⟨hp,hadr⟩:=hp
 simp only at hp hadr
 refine SX.sr (SL.bin (.r rfl) rfl rfl Bin.ltI (SL.nx (SX.seq ?_)))
 refine SX.cond rfl (fun hc2=>?_) (fun hc2=>?_)
 have hi:i<64:=by simp at hc2;omega
 refine SX.skip (SQ.thn (SX.seq (SX.block (SX.sr (SL.mv (.r rfl) rfl (SL.asg (.r rfl) rfl (SL.nx (SX.region (SL.mv (.r rfl) rfl (SL.mv (.r rfl) rfl (SL.ixS i (.r rfl) ty9 rfl rfl (by omega) (by simp;omega) (SL.mv (.r rfl) rfl (SL.bin (.r rfl) rfl rfl Bin.xor8 ?_)))))))))))))
 refine SL.call (vs:=[_,_]) (Hin:=[_,_]) (.r rfl) rfl ⟨rfl,rfl,trivial⟩ cal151 rfl rfl (c_WriteByte 172 b0 p v i _ _ hadr li172 (by omega)) ?_
 rintro _ _ ⟨rfl,v',rfl⟩
 refine ⟨trivial,?_⟩
 refine SL.nil (SQ.blk (SQ.thn (SX.region (SL.bin (.r rfl) rfl rfl (Bin.addI (by omega) (by omega)) (SL.mv (.r rfl) rfl (SL.nil ?_))))))
 refine SQ.again (i+1,vP b0 0,v') ⟨by simp only;omega,.inr rfl⟩ (by simp only;omega) (by repeat' (first | exact trivial | refine And.intro rfl ?_)) (fun w hw=>by
  have e1:(partA T key c).take (i+1)=(partA T key c).take i++[(macKeyOf T key++List.replicate (64-(macKeyOf T key).length) 0).getD i 0 ^^^ c]:=by
   rw [List.take_add_one,getD_append0]
   simp [partA,hi]
  simp only
  rw [e1,List.map_append]
  exact hw)
 have hi:i=64:=by simp at hc2;omega
 subst hi
 have ht:(partA T key c).take 64=partA T key c:=List.take_of_length_le (by rw [partA_length];omega)
 rw [ht]
 refine SX.exit (SQ.thnE (SQ.lpE (SQ.blkE (SQ.thn (SX.sr ?_)))))
 refine SL.call (vs:=[_]) (Hin:=[_,_]) (.r rfl) rfl ⟨rfl,trivial⟩ cal103 rfl rfl (c_String 172 b0 p v 64 (partA T key c) (by omega)) ?_
 rintro _ _ ⟨rfl,rfl⟩
 refine ⟨trivial,?_⟩
 refine SL.asg (.r rfl) rfl (SL.nx (SX.ret ?_))
 exact SQ.fret (res1 rfl rfl) (ret_of (M:=[]) ⟨rfl,rfl⟩ fun _ h=>h.skip [_,_])

theorem c_mac_Mac (T:List UInt32) (key:List UInt8) (ls:List (List UInt8)) (bs:Nat) (hT:ShaT K w0 T) (hn:key.length≤549755813888) (hls:ls.flatten.length≤549755813888) (hl:ls.length≤549755813888):Con Tryz.prog K w0 112 [vS key,.slice (some ⟨bs,0,none⟩) ls.length ls.length] [own bs (.cells (arr vS ls) 9)] H (fun r M=>r=vS (macA T key ls.flatten)∧M=[]):=by
 refine Con.enter Tryz.func112 rfl rfl ?_
 refine SX.sr (SL.asg (.r rfl) rfl (SL.nx (SX.sr (SL.mv (.r rfl) rfl ?_))))
 refine SL.call (vs:=[_,_]) (Hin:=[]) (.r rfl) rfl ⟨rfl,rfl,trivial⟩ cal154 rfl rfl (c_mac_part T key 54 hT hn) ?_
 rintro _ _ ⟨rfl,rfl⟩
 refine ⟨trivial,?_⟩
 refine SL.bsl [_] (.r rfl) ty22 sz9 ze9 ⟨rfl,trivial⟩ rfl rfl rfl (by simp [Value.cells]) rfl rfl (fun _=>trivial) fun b0=>?_
 refine SL.mv (.r rfl) rfl ?_
 refine SL.heap (H':=rowC 9 1 (.slice (some ⟨b0,0,none⟩) 1 1) 1 [vS (partA T key 54)]::own bs (.cells (arr vS ls) 9)::H) ?_ (fun w hw=>HpOk.asRowF hw rfl (Nat.le_refl 1) (by decide))
 refine SL.app 0 (.r rfl) (m:=ls.length) (news:=ls.map vS) ty22 sz9 by9 ze9 rfl (by decide) rfl rfl rfl (by simp) (cells_all 1 rfl) (by intro u hu;obtain ⟨x,_,rfl⟩:=List.mem_map.1 hu;rfl) (by omega) (by omega) (fun _=>trivial) fun v'=>?_
 have e1:rowC 9 1 v' (1+ls.length) ([vS (partA T key 54)]++ls.map vS)=rowC 9 1 v' (partA T key 54::ls).length ((partA T key 54::ls).flatMap encS):=by
  rw [flatMap_encS,List.length_cons,Nat.add_comm];rfl
 rw [e1]
 refine SL.call (vs:=[_]) (Hin:=[_]) (.r rfl) rfl ⟨rfl,trivial⟩ cal153 rfl rfl (c_sha_AddR T v' (partA T key 54::ls) hT (by simp only [List.flatten_cons,List.length_append,partA_length];omega) (by simp only [List.length_cons];omega)) ?_
 rintro _ _ ⟨rfl,rfl⟩
 refine ⟨trivial,?_⟩
 refine SL.asg (.r rfl) rfl (SL.nx (SX.sr (SL.mv (.r rfl) rfl ?_)))
 refine SL.call (vs:=[_,_]) (Hin:=[]) (.r rfl) rfl ⟨rfl,rfl,trivial⟩ cal154 rfl rfl (c_mac_part T key 92 hT hn) ?_
 rintro _ _ ⟨rfl,rfl⟩
 refine ⟨trivial,?_⟩
 refine SL.mv (.r rfl) rfl ?_
 refine SL.bsl [_,_] (.r rfl) ty22 sz9 ze9 ⟨rfl,rfl,trivial⟩ rfl rfl rfl (by simp [Value.cells]) rfl rfl (fun _=>trivial) fun b1=>?_
 refine SL.call (vs:=[_]) (Hin:=[_]) (.r rfl) rfl ⟨rfl,trivial⟩ cal153 rfl rfl (c_sha_AddL T b1 [partA T key 92,sumA T (partA T key 54::ls).flatten] hT (by simp [partA_length,sumA_length]) (by simp)) ?_
 rintro _ _ ⟨rfl,rfl⟩
 refine ⟨trivial,?_⟩
 refine SL.asg (.r rfl) rfl (SL.nx (SX.ret ?_))
 exact SQ.fret (res1 rfl rfl) (ret_of (M:=[]) ⟨by simp [macA],rfl⟩ fun _ h=>h.skip [_,_,_])

theorem c_mac_Equal (a b:List UInt8) (ha:a.length≤549755813888):Con Tryz.prog K w0 221 [vS a,vS b] [] H (fun r M=>r=vB (decide (a=b))∧M=[]):=by
 refine Con.enter Tryz.func221 rfl rfl ?_
 refine SX.sr (SL.asg (.r rfl) rfl (SL.nx (SX.sr (SL.asg (.r rfl) rfl (SL.nx (SX.seq (SX.sr (SL.mv (.r rfl) rfl (SL.lenS (.r rfl) ty9 rfl (SL.mv (.r rfl) rfl (SL.lenS (.r rfl) ty9 rfl (SL.minI (.r rfl) rfl rfl (SL.mv (.r rfl) rfl (SL.nx (SX.block ?_)))))))))))))))
 refine SX.mono (SX.loop (α:=Nat×UInt8) (fun x=>x.1≤min a.length b.length∧(x.2=0↔∀j,j<x.1→a.getD j 0=b.getD j 0)) (fun x=>[(0,vS a),(1,vS b),(5,vU8 x.2),(11,vI (min (a.length:Int) b.length)),(12,vI x.1)]) (fun x=>H) (fun x=>min a.length b.length-x.1) (fun x D hp=>?_) (0,0) ⟨Nat.zero_le _,by simp⟩) (by repeat' (first | exact trivial | refine And.intro rfl ?_))
 obtain ⟨i,x⟩:=x
 obtain ⟨hi,hx⟩:=hp
 simp only at hi hx
 refine SX.sr (SL.bin (.r rfl) rfl rfl Bin.ltI (SL.nx (SX.seq ?_)))
 refine SX.cond rfl (fun hc1=>?_) (fun hc1=>?_)
 have hlt:i<min a.length b.length:=by simp at hc1;omega
 refine SX.skip (SQ.thn (SX.seq (SX.block (SX.sr (SL.mv (.r rfl) rfl (SL.asg (.r rfl) rfl (SL.nx (SX.drawI mix [] (Pl.of [(true,0),(true,1),(true,2),(true,3),(true,4),(true,5),(true,6),(true,7),(true,8),(true,9)]) (by kernel_rfl) (SL.mv (.r rfl) rfl (SL.mv (.r rfl) rfl (SL.mv (.r rfl) rfl (SL.ixS i (.r rfl) ty9 rfl rfl (by omega) (by omega) (SL.mv (.r rfl) rfl ?_)))))))))))))
 refine SL.mv (.r rfl) rfl (SL.ixS i (.r rfl) ty9 rfl rfl (by omega) (by omega) (SL.bin (.r rfl) rfl rfl Bin.xor8 (SL.bin (.r rfl) rfl rfl Bin.or8 (SL.asg (.r rfl) rfl (SL.nil (SQ.blk (SQ.thn (SX.region (SL.bin (.r rfl) rfl rfl (Bin.addI (by omega) (by omega)) (SL.mv (.r rfl) rfl (SL.nil ?_)))))))))))
 refine SQ.again (i+1,x ||| (a.getD i 0 ^^^ b.getD i 0)) ⟨hlt,?_⟩ (by simp only;omega) (by repeat' (first | exact trivial | refine And.intro rfl ?_))
 simp only
 rw [or_zero8,xor_zero8,hx]
 constructor
 rintro ⟨h1,h2⟩ j hj
 rcases Nat.lt_or_ge j i with h | h
 exact h1 j h
 obtain rfl:j=i:=by omega
 exact h2
 intro h
 exact ⟨fun j hj=>h j (by omega),h i (by omega)⟩
 have hie:i=min a.length b.length:=by simp at hc1;omega
 refine SX.exit (SQ.thnE (SQ.lpE (SQ.blkE (SQ.thn (SX.sr (SL.mv (.r rfl) rfl ?_))))))
 refine SL.bin (.r rfl) rfl rfl (Bin.eq8 (b:=0)) ?_
 refine SL.mv (.r rfl) rfl ?_
 refine SL.and (c:=decide ((a.length:Int)=b.length)) 27 6 33 rfl (fun hb k=>?_) (fun hb k=>?_) ?_
 refine SL.mv (.r rfl) rfl (SL.lenS (.r rfl) ty9 rfl (SL.mv (.r rfl) rfl (SL.lenS (.r rfl) ty9 rfl (SL.bin (.r rfl) rfl rfl Bin.eqI (SL.pk (.r rfl) rfl rfl ?_)))))
 exact k.mono (by repeat' (first | exact trivial | refine And.intro rfl ?_))
 refine SL.pass rfl rfl rfl (SL.pass rfl rfl rfl (SL.pass rfl rfl rfl (SL.pass rfl rfl rfl (SL.pass rfl rfl rfl (SL.pk (.r rfl) rfl rfl ?_)))))
 exact k.mono (by repeat' (first | exact trivial | refine And.intro rfl ?_))
 refine SL.asg (.r rfl) rfl (SL.nx (SX.ret ?_))
 refine SQ.fret (res1 rfl rfl) (ret_of (M:=[]) ⟨?_,rfl⟩ fun _ h=>h.skip [])
 congr 1
 rw [Bool.eq_iff_iff,Bool.and_eq_true,decide_eq_true_eq,decide_eq_true_eq,decide_eq_true_eq,hx]
 constructor
 rintro ⟨h1,h2⟩
 have hl:a.length=b.length:=by omega
 refine List.ext_getElem hl fun j hj hj'=>?_
 have:=h1 j (by omega)
 simpa [List.getD_eq_getElem?_getD,hj,hj'] using this
 rintro rfl
 exact ⟨fun _ _=>rfl,rfl⟩

theorem q_mac_expanded (T:List UInt32) (key label:List UInt8) (bk bl:Nat) (hT:ShaT K w0 T) (hn:key.length≤549755813888) (hl:label.length≤274877906944):Seq Tryz.prog K w0 211 [vP bk 0,vP bl 0] [own bl (.cells #[vS label] 9),own bk (.cells #[vS key] 9)] encS (expA T key label):=by
 intro lp J X T1 hy G h0
 refine Con.enter Tryz.func211 rfl rfl ?_
 refine SX.sr (SL.asg (.r rfl) rfl (SL.nx (SX.sr (SL.asg (.r rfl) rfl (SL.nx (SX.block ?_))))))
 refine SX.mono (SX.loop (α:=Nat×List Chunk) (fun x=>x.1≤255∧J ((expA T key label).take x.1) x.2) (fun x=>[(0,vY lp),(1,vP bk 0),(2,vP bl 0),(4,vS (expN T key label x.1)),(5,vI (x.1+1:Nat))]) (fun x=>own bl (.cells #[vS label] 9)::own bk (.cells #[vS key] 9)::(x.2++T1)) (fun x=>255-x.1) (fun x D hp=>?_) (0,G) ⟨by simp,h0⟩) (by repeat' (first | exact trivial | refine And.intro rfl ?_))
 obtain ⟨i,G⟩:=x
 obtain ⟨hi,hJ⟩:=hp
 simp only at hi hJ
 refine SX.seq (SX.sr (SL.mv (.r rfl) rfl (SL.bin (.r rfl) rfl rfl Bin.leI (SL.nx ?_))))
 refine SX.cond rfl (fun hc1=>?_) (fun hc1=>?_)
 have hlt:i<255:=by simp at hc1;omega
 have hg:=expA_get T key label i hlt
 have hel:=expN_length T key label i
 refine SX.skip (SQ.thn (SX.seq (SX.block (SX.sr (SL.ld (.r rfl) sc9 rfl (cell_own 1 rfl rfl) (SL.mv (.r rfl) rfl (SL.ld (.r rfl) sc9 rfl (cell_own 0 rfl rfl) (SL.mv (.r rfl) rfl (SL.cv (.r rfl) rfl (Cv.i_8 ty3 ty5) ?_)))))))))
 refine SL.bsl [_] (.r rfl) ty141 sz5 ze5 ⟨rfl,trivial⟩ rfl rfl rfl (by simp [Value.cells]) rfl rfl (fun _=>trivial) fun b0=>?_
 refine SL.bts [_] (.r rfl) ty141 ty5 ty9 rfl rfl (cells_all 0 rfl) ?_
 refine SL.bsl [_,_,_] (.r rfl) ty22 sz9 ze9 ⟨rfl,rfl,rfl,trivial⟩ rfl rfl rfl (by simp [Value.cells]) rfl rfl (fun _=>trivial) fun b1=>?_
 refine SL.call (vs:=[_,_]) (Hin:=[_]) (.r rfl) rfl ⟨rfl,rfl,trivial⟩ cal112 rfl rfl (c_mac_Mac T key [expN T key label i,label,[toU8 ((i+1:Nat):Int)]] _ hT hn (by simp;omega) (by simp)) ?_
 rintro _ _ ⟨rfl,rfl⟩
 refine ⟨trivial,?_⟩
 refine SL.asg (.r rfl) rfl (SL.nx (SX.sr (SL.mv (.r rfl) rfl (SL.mv (.r rfl) rfl ?_))))
 have e1:macA T key [expN T key label i,label,[toU8 ((i+1:Nat):Int)]].flatten=expN T key label (i+1):=by simp [expN]
 rw [e1]
 refine SL.yld (M2:=[_,_,_]) (G:=G) (T:=T1) (vs:=[_]) (ok:=fun G1=>J ((expA T key label).take (i+1)) G1) (no:=X) (.r rfl) rfl ⟨rfl,trivial⟩ rfl ?_ (fun bb G1 hG1=>⟨trivial,?_⟩)
 intro M
 have:=hy _ _ _ (take_split hg).1 G hJ M
 rw [←(take_split hg).2] at this
 exact this
 refine SL.not (.r rfl) rfl (SL.nx ?_)
 refine SX.cond rfl (fun hc2=>?_) (fun hc2=>?_)
 obtain rfl:bb=false:=by simpa using hc2
 refine SX.ret (SQ.blkR (SQ.thnR (SQ.lpR (SQ.blkR ?_))))
 exact SQ.fret (res0 rfl) (ret_of (M:=G1) (.inr hG1) fun _ h=>h.skip [_,_,_])
 obtain rfl:bb=true:=by simpa using hc2
 refine SX.skip (SQ.blk (SQ.thn (SX.region (SL.mv (.r rfl) rfl (SL.bin (.r rfl) rfl rfl (Bin.addI (by omega) (by omega)) (SL.asg (.r rfl) rfl (SL.nil ?_)))))))
 exact SQ.again (i+1,G1) ⟨hlt,hG1⟩ (by simp only;omega) (by repeat' (first | exact trivial | refine And.intro rfl ?_)) (fun w hw=>hw.skip [_])
 refine SX.exit (SQ.thnE (SQ.lpE (SQ.blkE ?_)))
 have hle:i=255:=by simp at hc1;omega
 exact SQ.fend (res0 rfl) (ret_of (M:=G) (.inl (by rw [List.take_of_length_le (by rw [expA_length];omega)] at hJ;exact hJ)) fun _ h=>h.skip [_,_])

theorem c_mac_expanded (key label:List UInt8):Con Tryz.prog K w0 188 [vS key,vS label] [] H (fun r M=>∃bk bl,r=.func (.func 211) #[] #[vP bk 0,vP bl 0]∧M=[own bl (.cells #[vS label] 9),own bk (.cells #[vS key] 9)]):=by
 refine Con.enter Tryz.func188 rfl rfl ?_
 refine SX.sr ?_
 refine SL.box (.r rfl) rfl (fun _=>trivial) fun b0=>?_
 refine SL.box (.r rfl) rfl (fun _=>trivial) fun b1=>?_
 refine SL.asg (.r rfl) rfl (SL.nx (SX.sr ?_))
 refine SL.mkf (fv:=#[]) (cv:=#[_,_]) (.r rfl) rfl rfl ?_
 refine SL.asg (.r rfl) rfl (SL.nx (SX.ret ?_))
 exact SQ.fret (res1 rfl rfl) (ret_of (M:=[_,_]) ⟨b0,b1,rfl,rfl⟩ fun _ h=>h)

theorem c_mac_Expand (T:List UInt32) (key label:List UInt8) (hT:ShaT K w0 T) (hn:key.length≤549755813888) (hl:label.length≤274877906944):Con Tryz.prog K w0 149 [vS key,vS label,vI 32] [] H (fun r M=>r=.tuple #[vS (exp32 T key label),vI 0]∧M=[]):=by
 refine Con.enter Tryz.func149 rfl rfl ?_
 refine SX.sr ?_
 refine SL.box (.r rfl) rfl (fun _=>trivial) fun b0=>?_
 refine SL.asg (.r rfl) rfl (SL.asg (.r rfl) rfl (SL.nx (SX.scope (SX.seq (SX.sr (SL.ld (.r rfl) sc3 rfl (cell_own 0 rfl rfl) (SL.bin (.r rfl) rfl rfl Bin.ltI (SL.mv (.r rfl) rfl ?_))))))))
 refine SL.or (c:=decide ((8160:Int)<32)) 12 3 15 rfl (fun hb k=>?_) (fun hb k=>?_) ?_
 refine SL.pass rfl rfl rfl (SL.pass rfl rfl rfl (SL.pk (.r rfl) rfl rfl ?_))
 exact k.mono (by repeat' (first | exact trivial | refine And.intro rfl ?_))
 refine SL.ld (.r rfl) sc3 rfl (cell_own 0 rfl rfl) (SL.bin (.r rfl) rfl rfl Bin.gtI (SL.pk (.r rfl) rfl rfl ?_))
 exact k.mono (by repeat' (first | exact trivial | refine And.intro rfl ?_))
 refine SL.nx ?_
 refine SX.cond rfl (fun hc1=>absurd hc1 (by decide)) (fun hc1=>?_)
 refine SX.skip (SQ.thn (SX.sr ?_))
 refine SL.alloc (.r rfl) ze172 (fun _=>trivial) fun b1=>?_
 refine SL.nx (SX.seq (SX.label (SQ.thn (SX.seq (SX.sr (SL.mv (.r rfl) rfl (SL.mv (.r rfl) rfl ?_)))))))
 refine SL.call (vs:=[_,_]) (Hin:=[]) (.r rfl) rfl ⟨rfl,rfl,trivial⟩ cal188 rfl rfl (c_mac_expanded key label) ?_
 rintro _ _ ⟨bk,bl,rfl,rfl⟩
 refine ⟨trivial,?_⟩
 refine SL.nx (SX.nilRow 5 1 (SX.pick [1,2,3,0,4] 5 (SX.block ?_)))
 refine SX.range (enc:=encS) (expA T key label) (fun pre G=>pre.length≤1∧∃p v,adr b1 p∧G=own b1 (.cells #[p,v] 172)::rowC 5 1 v pre.flatten.length (pre.flatten.map fun b=>vU8 b)::own b0 (.cells #[vI 32] 3)::H) (fun c G=>c=.exit 0∧∃p v,adr b1 p∧G=own b1 (.cells #[p,v] 172)::rowC 5 1 v 32 ((exp32 T key label).map fun b=>vU8 b)::own b0 (.cells #[vI 32] 3)::H) rfl cal211 rfl (fun _=>rfl) (q_mac_expanded T key label bk bl hT hn hl) rfl ⟨Nat.zero_le _,_,_,.inl rfl,rfl⟩ (fun pre x suf G hxs hJ r lp Rest=>?_) (fun G D hJ=>?_) (fun c G D hX=>?_)
 obtain ⟨hpl,p,v,hadr,rfl⟩:=hJ
 have hx0:(expA T key label)[0]? = some (exp32 T key label):=by rw [expA_get T key label 0 (by decide),expN_one]
 have he:(exp32 T key label).length=32:=macA_length ..
 refine SX.region (SL.asg (.r rfl) rfl (SL.nil (SQ.bgn (SX.block (SX.seq (SX.seq (SX.drawI mix [2] (Pl.of [(true,1),(false,0),(true,2)]) (by kernel_rfl) (SL.ld (.r rfl) sc3 rfl (cell_own 0 rfl rfl) ?_))))))))
 refine SL.call (vs:=[_]) (Hin:=[_,_]) (.r rfl) rfl ⟨rfl,trivial⟩ cal102 rfl rfl (c_Len 172 b1 p v _ _) ?_
 rintro _ _ ⟨rfl,rfl⟩
 refine ⟨⟨⟨2,rfl⟩,trivial⟩,?_⟩
 refine SL.bin (.r rfl) rfl rfl Bin.geI (SL.nx ?_)
 refine SX.cond rfl (fun hc2=>?_) (fun hc2=>?_)
 have hpre:pre=[exp32 T key label]:=by
  match pre,hpl with
  | [],_=>simp at hc2
  | [y],_=>rw [hxs] at hx0;simpa using hx0
 subst hpre
 refine SX.exit (SQ.thnE (SQ.blkO ?_))
 refine SQ.rndE (G:=own b1 (.cells #[p,v] 172)::rowC 5 1 v 32 ((exp32 T key label).map fun b=>vU8 b)::own b0 (.cells #[vI 32] 3)::H) ⟨rfl,p,v,hadr,rfl⟩ (fun w hw=>?_)
 have e1:[exp32 T key label].flatten=exp32 T key label:=by simp
 rw [e1,he] at hw
 exact hw
 have hpre:pre=[]:=by
  match pre,hpl with
  | [],_=>rfl
  | [y],_=>
   rw [hxs] at hx0
   obtain rfl:y=exp32 T key label:=by simpa using hx0
   simp [he] at hc2
 subst hpre
 obtain rfl:x=exp32 T key label:=by rw [hxs] at hx0;simpa using hx0
 refine SX.skip (SQ.thn (SX.region (SL.mv (.r rfl) rfl ?_)))
 refine SL.call (vs:=[_,_]) (Hin:=[_,_]) (.r rfl) rfl ⟨rfl,rfl,trivial⟩ cal101 rfl rfl (c_WriteString 172 b1 p v _ _ (exp32 T key label) hadr li172 (by simp [he])) ?_
 rintro _ _ ⟨rfl,v',rfl⟩
 refine ⟨trivial,?_⟩
 refine SL.nil (SQ.blk ?_)
 refine SQ.rndN (G:=own b1 (.cells #[vP b1 0,v'] 172)::rowC 5 1 v' ([]++[exp32 T key label]).flatten.length (([]++[exp32 T key label]).flatten.map fun b=>vU8 b)::own b0 (.cells #[vI 32] 3)::H) ⟨by simp,_,v',.inr rfl,rfl⟩ (fun w hw=>?_)
 have e1:([]++[exp32 T key label]).flatten=exp32 T key label:=by simp
 rw [e1]
 simpa using hw
 exact absurd hJ.1 (by rw [expA_length];omega)
 obtain ⟨rfl,p,v,hadr,rfl⟩:=hX
 have he:(exp32 T key label).length=32:=macA_length ..
 refine SX.exit (SQ.blkE (SQ.thn (SX.seq (SX.drawI mix [2] (Pl.of [(true,1),(false,0),(true,2),(true,3),(true,4)]) (by kernel_rfl) (SL.ld (.r rfl) sc3 rfl (cell_own 0 rfl rfl) ?_)))))
 refine SL.call (vs:=[_]) (Hin:=[_,_]) (.r rfl) rfl ⟨rfl,trivial⟩ cal103 rfl rfl (c_String 172 b1 p v 32 (exp32 T key label) (by omega)) ?_
 rintro _ _ ⟨rfl,rfl⟩
 refine ⟨⟨⟨2,rfl⟩,trivial⟩,?_⟩
 refine SL.slSh 32 (.r rfl) ty9 rfl rfl (by omega) (by omega) (SL.asg (.r rfl) rfl (SL.asg (.r rfl) rfl (SL.nx (SX.ret (SQ.scpR ?_)))))
 exact SQ.fret (res2 rfl rfl rfl) (ret_of (M:=[]) ⟨by rw [List.take_of_length_le (by omega)],rfl⟩ fun _ h=>h.skip [_,_,_])

end Go.Proofs.YtkibffdipniemaaGreatDoor

/- Walks of a key's subkeys, and of texts filled to one size and back. Condition: none but the sizes stated. -/
namespace Go.Proofs.YtkibffdipniemaaGreatDoor
open Go
variable {K:Nat→Prop} {w0:World} {H:List Chunk}
theorem c_keys_Subs (T:List UInt32) (k:KeyA) (hT:ShaT K w0 T):Con Tryz.prog K w0 108 [.agg (encKey k).toArray] [] H (fun r M=>r=(if rightA [k]=true then .tuple #[vS (subA T k sealW),vS (subA T k bindW),vI 0] else .tuple #[vS [],vS [],vI 40])∧M=[]):=by
 refine Con.enter Tryz.func108 rfl rfl ?_
 refine SX.sr ?_
 refine SL.box (.r rfl) rfl (fun _=>trivial) fun b0=>?_
 refine SL.asg (.r rfl) rfl (SL.asg (.r rfl) rfl (SL.asg (.r rfl) rfl (SL.nx (SX.seq (SX.sr (SL.ldA (encKey k) (.r rfl) ag138 rfl rfl (cells_all 0 rfl) ?_))))))
 refine SL.bsl [_] (.r rfl) ty66 sz138 ze138 ⟨rfl,trivial⟩ rfl rfl rfl (by simp [Value.cells,encKey]) rfl rfl (fun _=>trivial) fun b1=>?_
 refine SL.call (vs:=[_]) (Hin:=[_]) (.r rfl) rfl ⟨rfl,trivial⟩ cal104 rfl rfl (Con.lend (B:=[own b1 (.cells (encKey k).toArray 138)]) (Hin:=[]) fun K' w1 hk hB=>c_keys_Right _ [k] (SlOf.lent (enc:=encKey) (sz:=2) (xs:=[k]) (fun _=>rfl) (Nat.le_refl 1) rfl (hB _ (List.mem_cons_self ..))) rfl (by simp)) ?_
 rintro _ _ ⟨M',rfl,rfl,rfl⟩
 refine ⟨trivial,?_⟩
 refine SL.not (.r rfl) rfl (SL.nx ?_)
 refine SX.cond rfl (fun hc1=>?_) (fun hc1=>?_)
 have hr:rightA [k]=false:=by simpa using hc1
 refine SX.sr (SL.asg (.r rfl) rfl (SL.asg (.r rfl) rfl (SL.asg (.r rfl) rfl (SL.nx (SX.ret (SQ.thnR ?_))))))
 exact SQ.fret (res3 rfl rfl rfl rfl) (ret_of (M:=[]) ⟨by rw [hr];rfl,rfl⟩ fun _ h=>h.skip [_,_])
 have hr:rightA [k]=true:=by simpa using hc1
 have hkl:=rightA_one hr
 refine SX.skip (SQ.thn (SX.sr (SL.fa (.r rfl) rfl fo138_0 (SL.ld (.r rfl) sc29 rfl (cell_own 1 rfl rfl) (SL.cv (.r rfl) rfl (Cv.u32_8 ty29 ty5) (SL.fa (.r rfl) rfl fo138_0 (SL.ld (.r rfl) sc29 rfl (cell_own 1 rfl rfl) ?_)))))))
 refine SL.bin (.r rfl) rfl rfl (Bin.shr32 (n:=8)) ?_
 refine SL.cv (.r rfl) rfl (Cv.u32_8 ty29 ty5) (SL.fa (.r rfl) rfl fo138_0 (SL.ld (.r rfl) sc29 rfl (cell_own 1 rfl rfl) ?_))
 refine SL.bin (.r rfl) rfl rfl (Bin.shr32 (n:=16)) ?_
 refine SL.cv (.r rfl) rfl (Cv.u32_8 ty29 ty5) (SL.fa (.r rfl) rfl fo138_0 (SL.ld (.r rfl) sc29 rfl (cell_own 1 rfl rfl) ?_))
 refine SL.bin (.r rfl) rfl rfl (Bin.shr32 (n:=24)) ?_
 refine SL.cv (.r rfl) rfl (Cv.u32_8 ty29 ty5) ?_
 refine SL.bsl [_,_,_,_] (.r rfl) ty141 sz5 ze5 ⟨rfl,rfl,rfl,rfl,trivial⟩ rfl rfl rfl (by simp [Value.cells]) rfl rfl (fun _=>trivial) fun b2=>?_
 refine SL.bts [_,_,_,_] (.r rfl) ty141 ty5 ty9 rfl rfl (cells_all 0 rfl) (SL.asg (.r rfl) rfl (SL.nx (SX.sr (SL.fa (.r rfl) rfl fo138_1 (SL.ld (.r rfl) sc9 rfl (cell_own 2 rfl rfl) (SL.mv (.r rfl) rfl ?_))))))
 refine SL.bin (.r rfl) rfl rfl (Bin.cat (s:=sealW) (t:=le32 k.gen) (by simp [le32,sealW])) ?_
 refine SL.call (vs:=[_,_,_]) (Hin:=[]) (.r rfl) rfl ⟨rfl,rfl,rfl,trivial⟩ cal149 rfl rfl (c_mac_Expand T k.secret (sealW++le32 k.gen) hT (by omega) (by simp [le32,sealW])) ?_
 rintro _ _ ⟨rfl,rfl⟩
 refine ⟨trivial,?_⟩
 refine SL.mv (.r rfl) rfl (SL.ext (.r rfl) rfl rfl (SL.ext (.r rfl) rfl rfl (SL.asg (.r rfl) rfl (SL.asg (.r rfl) rfl (SL.nx (SX.sr (SL.fa (.r rfl) rfl fo138_1 (SL.ld (.r rfl) sc9 rfl (cell_own 2 rfl rfl) (SL.mv (.r rfl) rfl ?_)))))))))
 refine SL.bin (.r rfl) rfl rfl (Bin.cat (s:=bindW) (t:=le32 k.gen) (by simp [le32,bindW])) ?_
 refine SL.call (vs:=[_,_,_]) (Hin:=[]) (.r rfl) rfl ⟨rfl,rfl,rfl,trivial⟩ cal149 rfl rfl (c_mac_Expand T k.secret (bindW++le32 k.gen) hT (by omega) (by simp [le32,bindW])) ?_
 rintro _ _ ⟨rfl,rfl⟩
 refine ⟨trivial,?_⟩
 refine SL.mv (.r rfl) rfl (SL.ext (.r rfl) rfl rfl (SL.ext (.r rfl) rfl rfl (SL.asg (.r rfl) rfl (SL.asg (.r rfl) rfl (SL.nx (SX.sr (SL.mv (.r rfl) rfl (SL.mv (.r rfl) rfl (SL.asg (.r rfl) rfl ?_)))))))))
 refine SL.asg (.r rfl) rfl (SL.asg (.r rfl) rfl (SL.nx (SX.ret ?_)))
 exact SQ.fret (res3 rfl rfl rfl rfl) (ret_of (M:=[]) ⟨by rw [hr];rfl,rfl⟩ fun _ h=>h.skip [_,_,_])

theorem c_pad_Pad (s:List UInt8) (hn:s.length≤9223372036854775807):Con Tryz.prog K w0 107 [vS s] [] H (fun r M=>r=(if 198<s.length then .tuple #[vS [],vI 50] else .tuple #[vS (padA s),vI 0])∧M=[]):=by
 refine Con.enter Tryz.func107 rfl rfl ?_
 refine SX.sr (SL.asg (.r rfl) rfl (SL.asg (.r rfl) rfl (SL.nx (SX.seq (SX.sr (SL.mv (.r rfl) rfl (SL.lenS (.r rfl) ty9 rfl (SL.bin (.r rfl) rfl rfl Bin.gtI (SL.nx ?_)))))))))
 refine SX.cond rfl (fun hc1=>?_) (fun hc1=>?_)
 have h0:198<s.length:=by simp at hc1;omega
 refine SX.sr (SL.asg (.r rfl) rfl (SL.asg (.r rfl) rfl (SL.nx (SX.ret (SQ.thnR ?_)))))
 exact SQ.fret (res2 rfl rfl rfl) (ret_of (M:=[]) ⟨by rw [if_pos h0],rfl⟩ fun _ h=>h.skip [])
 have h0:¬198<s.length:=by simp at hc1;omega
 have e1:(198-(s.length:Int))=((198-s.length:Nat):Int):=by omega
 refine SX.skip (SQ.thn (SX.seq (SX.drawI mix [] (Pl.ap [(true,0),(true,1),(true,2),(true,3),(true,4),(true,5),(true,6),(true,9),(true,11),(true,12),(true,13)] (.alt 7 (.alt 8 (Pl.of [(true,10),(false,14),(true,15),(true,16),(true,17)]) (.cons (false,14) (Pl.of [(false,8),(true,10),(true,15),(true,16),(true,17)]))) (.cons (false,14) (Pl.of [(false,7),(false,8),(true,10),(true,15),(true,16),(true,17)])))) (by kernel_rfl) (SL.mv (.r rfl) rfl (SL.lenS (.r rfl) ty9 rfl ?_)))))
 refine SL.bin (.r rfl) rfl rfl (Bin.shrI (n:=8) (by omega) (by omega)) ?_
 refine SL.cv (.r rfl) rfl (Cv.i_8 ty3 ty5) (SL.mv (.r rfl) rfl (SL.lenS (.r rfl) ty9 rfl (SL.cv (.r rfl) rfl (Cv.i_8 ty3 ty5) (SL.mv (.r rfl) rfl (SL.mv (.r rfl) rfl (SL.lenS (.r rfl) ty9 rfl (SL.bin (.r rfl) rfl rfl (Bin.subI (by omega) (by omega)) ?_)))))))
 rw [e1]
 refine SL.two ?_ ?_
 refine SL.bsl [_,_] (.r rfl) ty141 sz5 ze5 ⟨rfl,rfl,trivial⟩ rfl rfl rfl (by simp [Value.cells]) rfl rfl (fun _=>trivial) fun b0=>?_
 refine SL.two ?_ ?_
 refine SL.bts [_,_] (.r rfl) ty141 ty5 ty9 rfl rfl (cells_all 0 rfl) (SL.bin (.r rfl) rfl rfl (Bin.cat (by simp;omega)) ?_)
 refine SL.call (vs:=[_,_]) (Hin:=[]) (.r rfl) rfl ⟨rfl,rfl,trivial⟩ cal70 rfl rfl (c_Repeat0 (198-s.length) (by omega)) ?_
 rintro _ _ ⟨rfl,rfl⟩
 refine ⟨trivial,?_⟩
 refine SL.bin (.r rfl) rfl rfl (Bin.cat (by simp;omega)) (SL.asg (.r rfl) rfl (SL.asg (.r rfl) rfl (SL.nx (SX.ret ?_))))
 exact SQ.fret (res2 rfl rfl rfl) (ret_of (M:=[]) ⟨by rw [if_neg h0];rfl,rfl⟩ fun _ h=>h.skip [_])
 refine SL.call (vs:=[_,_]) (Hin:=[]) (.r rfl) rfl ⟨rfl,rfl,trivial⟩ cal70 rfl rfl (c_Repeat0 (198-s.length) (by omega)) ?_
 rintro _ _ ⟨rfl,rfl⟩
 refine ⟨trivial,?_⟩
 refine SL.bts [_,_] (.r rfl) ty141 ty5 ty9 rfl rfl (cells_all 0 rfl) (SL.bin (.r rfl) rfl rfl (Bin.cat (by simp;omega)) (SL.bin (.r rfl) rfl rfl (Bin.cat (by simp;omega)) (SL.asg (.r rfl) rfl (SL.asg (.r rfl) rfl (SL.nx (SX.ret ?_))))))
 exact SQ.fret (res2 rfl rfl rfl) (ret_of (M:=[]) ⟨by rw [if_neg h0];rfl,rfl⟩ fun _ h=>h.skip [_])
 refine SL.call (vs:=[_,_]) (Hin:=[]) (.r rfl) rfl ⟨rfl,rfl,trivial⟩ cal70 rfl rfl (c_Repeat0 (198-s.length) (by omega)) ?_
 rintro _ _ ⟨rfl,rfl⟩
 refine ⟨trivial,?_⟩
 refine SL.bsl [_,_] (.r rfl) ty141 sz5 ze5 ⟨rfl,rfl,trivial⟩ rfl rfl rfl (by simp [Value.cells]) rfl rfl (fun _=>trivial) fun b0=>?_
 refine SL.bts [_,_] (.r rfl) ty141 ty5 ty9 rfl rfl (cells_all 0 rfl) (SL.bin (.r rfl) rfl rfl (Bin.cat (by simp;omega)) (SL.bin (.r rfl) rfl rfl (Bin.cat (by simp;omega)) (SL.asg (.r rfl) rfl (SL.asg (.r rfl) rfl (SL.nx (SX.ret ?_))))))
 exact SQ.fret (res2 rfl rfl rfl) (ret_of (M:=[]) ⟨by rw [if_neg h0];rfl,rfl⟩ fun _ h=>h.skip [_])

theorem c_pad_Unpad (b:List UInt8):Con Tryz.prog K w0 222 [vS b] [] H (fun r M=>r=.tuple #[vS (unpadA b).1,vI (unpadA b).2]∧M=[]):=by
 refine Con.enter Tryz.func222 rfl rfl ?_
 refine SX.sr (SL.asg (.r rfl) rfl (SL.asg (.r rfl) rfl (SL.nx (SX.seq (SX.sr (SL.mv (.r rfl) rfl (SL.lenS (.r rfl) ty9 rfl (SL.bin (.r rfl) rfl rfl Bin.neI (SL.nx ?_)))))))))
 refine SX.cond rfl (fun hc1=>?_) (fun hc1=>?_)
 have h0:b.length≠200:=by simp at hc1;omega
 have hu:unpadA b=([],50):=by unfold unpadA;rw [if_pos h0]
 rw [hu]
 refine SX.sr (SL.asg (.r rfl) rfl (SL.asg (.r rfl) rfl (SL.nx (SX.ret (SQ.thnR ?_)))))
 exact SQ.fret (res2 rfl rfl rfl) (ret_of (M:=[]) ⟨rfl,rfl⟩ fun _ h=>h.skip [])
 have h0:b.length=200:=by simp at hc1;omega
 have e1:((b.getD 0 0).toNat:Int)*2^(min 8 64)=(((b.getD 0 0).toNat*256:Nat):Int):=by simp
 have hb0:=(b.getD 0 0).toNat_lt
 have hb1:=(b.getD 1 0).toNat_lt
 refine SX.skip (SQ.thn (SX.seq (SX.drawI mix [] (Pl.of [(true,0),(true,1),(true,2),(true,3),(true,4),(true,5),(true,6),(true,7),(true,8)]) (by kernel_rfl) (SL.mv (.r rfl) rfl (SL.ixS 0 (.r rfl) ty9 rfl rfl (by omega) (by omega) (SL.cv (.r rfl) rfl (Cv.u8_I ty5 ty3) ?_))))))
 refine SL.bin (.r rfl) rfl rfl (Bin.shlI (n:=8) (by rw [e1];omega) (by rw [e1];omega)) ?_
 rw [e1]
 refine SL.mv (.r rfl) rfl (SL.ixS 1 (.r rfl) ty9 rfl rfl (by omega) (by omega) (SL.cv (.r rfl) rfl (Cv.u8_I ty5 ty3) ?_))
 refine SL.bin (.r rfl) rfl rfl (Bin.orI (a:=(b.getD 0 0).toNat*256) (b:=(b.getD 1 0).toNat) (by omega) (by omega)) ?_
 have e2:(b.getD 0 0).toNat*256 ||| (b.getD 1 0).toNat=lenA b:=by
  have:=Nat.shiftLeft_add_eq_or_of_lt (i:=8) (b:=(b.getD 1 0).toNat) (by omega) (b.getD 0 0).toNat
  rw [Nat.shiftLeft_eq,show (2:Nat)^8=256 from rfl] at this
  unfold lenA
  omega
 rw [e2]
 have hla:lenA b<65536:=by unfold lenA;omega
 refine SL.asg (.r rfl) rfl (SL.nx (SX.seq (SX.sr (SL.mv (.r rfl) rfl (SL.bin (.r rfl) rfl rfl Bin.gtI (SL.nx ?_))))))
 refine SX.cond rfl (fun hc2=>?_) (fun hc2=>?_)
 have h1:198<lenA b:=by simp at hc2;omega
 have hu:unpadA b=([],50):=by unfold unpadA;rw [if_neg (by omega),if_pos h1]
 rw [hu]
 refine SX.sr (SL.asg (.r rfl) rfl (SL.asg (.r rfl) rfl (SL.nx (SX.ret (SQ.thnR ?_)))))
 exact SQ.fret (res2 rfl rfl rfl) (ret_of (M:=[]) ⟨rfl,rfl⟩ fun _ h=>h.skip [])
 have h1:¬198<lenA b:=by simp at hc2;omega
 refine SX.skip (SQ.thn (SX.sr (SL.asg (.r rfl) rfl (SL.nx (SX.seq (SX.sr (SL.mv (.r rfl) rfl (SL.bin (.r rfl) rfl rfl (Bin.subI (by omega) (by omega)) (SL.mv (.r rfl) rfl (SL.nx (SX.block ?_)))))))))))
 refine SX.mono (SX.loop (α:=Nat×UInt8) (fun x=>x.1≤198-lenA b∧(x.2=0↔∀j,j<x.1→b.getD (2+lenA b+j) 0=0)) (fun x=>[(0,vS b),(4,vI (lenA b)),(5,vU8 x.2),(21,vI (198-(lenA b:Int))),(22,vI x.1)]) (fun x=>H) (fun x=>198-lenA b-x.1) (fun x D hp=>?_) (0,0) ⟨Nat.zero_le _,by simp⟩) (by repeat' (first | exact trivial | refine And.intro rfl ?_))
 obtain ⟨i,x⟩:=x
 obtain ⟨hi,hx⟩:=hp
 simp only at hi hx
 refine SX.sr (SL.bin (.r rfl) rfl rfl Bin.ltI (SL.nx (SX.seq ?_)))
 refine SX.cond rfl (fun hc3=>?_) (fun hc3=>?_)
 have hlt:i<198-lenA b:=by simp at hc3;omega
 refine SX.skip (SQ.thn (SX.seq (SX.block (SX.sr (SL.mv (.r rfl) rfl (SL.asg (.r rfl) rfl (SL.nx (SX.region (SL.mv (.r rfl) rfl (SL.mv (.r rfl) rfl (SL.mv (.r rfl) rfl (SL.bin (.r rfl) rfl rfl (Bin.addI (by omega) (by omega)) (SL.mv (.r rfl) rfl (SL.bin (.r rfl) rfl rfl (Bin.addI (by omega) (by omega)) ?_))))))))))))))
 refine SL.ixS (2+lenA b+i) (.r rfl) ty9 rfl rfl (by omega) (by omega) (SL.bin (.r rfl) rfl rfl Bin.or8 (SL.asg (.r rfl) rfl (SL.nil (SQ.blk (SQ.thn (SX.region (SL.bin (.r rfl) rfl rfl (Bin.addI (by omega) (by omega)) (SL.mv (.r rfl) rfl (SL.nil ?_)))))))))
 refine SQ.again (i+1,x ||| b.getD (2+lenA b+i) 0) ⟨hlt,?_⟩ (by simp only;omega) (by repeat' (first | exact trivial | refine And.intro rfl ?_))
 simp only
 rw [or_zero8,hx]
 constructor
 rintro ⟨h1,h2⟩ j hj
 rcases Nat.lt_or_ge j i with h | h
 exact h1 j h
 obtain rfl:j=i:=by omega
 exact h2
 intro h
 exact ⟨fun j hj=>h j (by omega),h i (by omega)⟩
 have hie:i=198-lenA b:=by simp at hc3;omega
 subst hie
 refine SX.exit (SQ.thnE (SQ.lpE (SQ.blkE (SQ.thn (SX.seq (SX.sr (SL.mv (.r rfl) rfl ?_)))))))
 refine SL.bin (.r rfl) rfl rfl (Bin.ne8 (b:=0)) ?_
 refine SL.nx ?_
 refine SX.cond rfl (fun hc4=>?_) (fun hc4=>?_)
 have hu:unpadA b=([],50):=by
  unfold unpadA
  rw [if_neg (by omega),if_neg h1,if_neg (fun hc=>by simp at hc4;exact hc4 (hx.2 hc))]
 rw [hu]
 refine SX.sr (SL.asg (.r rfl) rfl (SL.asg (.r rfl) rfl (SL.nx (SX.ret (SQ.thnR ?_)))))
 exact SQ.fret (res2 rfl rfl rfl) (ret_of (M:=[]) ⟨rfl,rfl⟩ fun _ h=>h.skip [])
 have hu:unpadA b=((b.drop 2).take (lenA b),0):=by
  unfold unpadA
  rw [if_neg (by omega),if_neg h1,if_pos (show cleanA b from hx.1 (by simpa using hc4))]
 rw [hu]
 refine SX.skip (SQ.thn (SX.sr (SL.mv (.r rfl) rfl (SL.mv (.r rfl) rfl (SL.bin (.r rfl) rfl rfl (Bin.addI (by omega) (by omega)) (SL.slS 2 (2+lenA b) (.r rfl) ty9 rfl rfl rfl (by omega) (by omega) (by omega) (by omega) (SL.asg (.r rfl) rfl (SL.asg (.r rfl) rfl (SL.nx (SX.ret ?_))))))))))
 refine SQ.fret (res2 rfl rfl rfl) (ret_of (M:=[]) ⟨?_,rfl⟩ fun _ h=>h.skip [])
 rw [show 2+lenA b-2=lenA b by omega]

end Go.Proofs.YtkibffdipniemaaGreatDoor

/- Walks of ChaCha20's words and of the state that a block begins with. Condition: texts of at most 2^39 bytes. -/
namespace Go.Proofs.YtkibffdipniemaaGreatDoor
open Go
variable {K:Nat→Prop} {w0:World} {H:List Chunk}

def encW (x:UInt32):List Value:=[vU32 x]
theorem wordsOf_get {s:List UInt8} {j:Nat} (h:j<s.length / 4):(wordsOf s)[j]? = some (wordLE s (4*j)):=by simp [wordsOf,h]
theorem c_arx_word (s:List UInt8) (hs:4≤s.length):Con Tryz.prog K w0 226 [vS s] [] H (fun r M=>r=vU32 (wordLE s 0)∧M=[]):=by
 refine Con.enter Tryz.func226 rfl rfl ?_
 refine SX.sr (SL.asg (.r rfl) rfl (SL.nx (SX.seq (SX.drawI mix [] (Pl.of [(true,0),(true,1),(true,2),(true,3),(true,4),(true,5),(true,6),(true,7),(true,8),(true,9),(true,10),(true,11),(true,12),(true,13),(true,14),(true,15),(true,16),(true,17),(true,18)]) (by kernel_rfl) (SL.mv (.r rfl) rfl (SL.ixS 0 (.r rfl) ty9 rfl rfl (by omega) (by omega) (SL.cv (.r rfl) rfl (Cv.u8_32 ty5 ty29) (SL.mv (.r rfl) rfl (SL.ixS 1 (.r rfl) ty9 rfl rfl (by omega) (by omega) (SL.cv (.r rfl) rfl (Cv.u8_32 ty5 ty29) ?_))))))))))
 refine SL.bin (.r rfl) rfl rfl (Bin.shl32 (n:=8)) ?_
 refine SL.bin (.r rfl) rfl rfl Bin.or32 (SL.mv (.r rfl) rfl (SL.ixS 2 (.r rfl) ty9 rfl rfl (by omega) (by omega) (SL.cv (.r rfl) rfl (Cv.u8_32 ty5 ty29) ?_)))
 refine SL.bin (.r rfl) rfl rfl (Bin.shl32 (n:=16)) ?_
 refine SL.bin (.r rfl) rfl rfl Bin.or32 (SL.mv (.r rfl) rfl (SL.ixS 3 (.r rfl) ty9 rfl rfl (by omega) (by omega) (SL.cv (.r rfl) rfl (Cv.u8_32 ty5 ty29) ?_)))
 refine SL.bin (.r rfl) rfl rfl (Bin.shl32 (n:=24)) ?_
 refine SL.bin (.r rfl) rfl rfl Bin.or32 (SL.asg (.r rfl) rfl (SL.nx (SX.ret ?_)))
 exact SQ.fret (res1 rfl rfl) (ret_of (M:=[]) ⟨rfl,rfl⟩ fun _ h=>h.skip [])

theorem q_arx_words (ls:List (List UInt8)) (bl bs:Nat) (hl:ls.length≤549755813888) (hls:∀s∈ls,s.length≤549755813888):Seq Tryz.prog K w0 225 [vP bl 0] [own bl (.cells #[.slice (some ⟨bs,0,none⟩) ls.length ls.length] 22),own bs (.cells (arr vS ls) 9)] encW (ls.flatMap wordsOf):=by
 intro lp J X T1 hy G h0
 refine Con.enter Tryz.func225 rfl rfl ?_
 refine SX.sr (SL.ld (.r rfl) sc22 rfl (cell_own 0 rfl rfl) (SL.lenL (.r rfl) ty22 rfl (SL.mv (.r rfl) rfl (SL.nx (SX.block ?_)))))
 refine SX.mono (SX.loop (α:=Nat×List Chunk) (fun x=>x.1≤ls.length∧J ((ls.take x.1).flatMap wordsOf) x.2) (fun x=>[(0,vY lp),(5,.slice (some ⟨bs,0,none⟩) ls.length ls.length),(6,vI ls.length),(7,vI x.1)]) (fun x=>own bl (.cells #[.slice (some ⟨bs,0,none⟩) ls.length ls.length] 22)::own bs (.cells (arr vS ls) 9)::(x.2++T1)) (fun x=>ls.length-x.1) (fun x D hp=>?_) (0,G) ⟨Nat.zero_le _,h0⟩) (by repeat' (first | exact trivial | refine And.intro rfl ?_))
 obtain ⟨i,G⟩:=x
 obtain ⟨hi,hJ⟩:=hp
 simp only at hi hJ
 refine SX.sr (SL.bin (.r rfl) rfl rfl Bin.ltI (SL.nx (SX.seq ?_)))
 refine SX.cond rfl (fun hc1=>?_) (fun hc1=>?_)
 have hlt:i<ls.length:=by simpa using hc1
 obtain ⟨s,hs⟩:=get_of_lt hlt
 have hsl:=hls s (List.mem_of_getElem? hs)
 have hsplit:=take_split hs
 refine SX.skip (SQ.thn (SX.seq (SX.block (SX.sr ?_))))
 refine SL.iap (n:=i) (.r rfl) ty22 sz9 rfl rfl (by omega) (by omega) ?_
 refine SL.ld (.r rfl) sc9 rfl (cell_own 1 rfl (arr_get hs)) (SL.asg (.r rfl) rfl (SL.nx (SX.block ?_)))
 refine SX.mono (SX.loop (α:=Nat×List Chunk) (fun x=>x.1≤s.length / 4∧J ((ls.take i).flatMap wordsOf++(wordsOf s).take x.1) x.2) (fun x=>[(0,vY lp),(4,vS (s.drop (4*x.1))),(5,.slice (some ⟨bs,0,none⟩) ls.length ls.length),(6,vI ls.length),(7,vI i)]) (fun x=>own bl (.cells #[.slice (some ⟨bs,0,none⟩) ls.length ls.length] 22)::own bs (.cells (arr vS ls) 9)::(x.2++T1)) (fun x=>s.length / 4-x.1) (fun x D hp=>?_) (0,G) ⟨Nat.zero_le _,by simpa using hJ⟩) (by repeat' (first | exact trivial | refine And.intro rfl ?_))
 obtain ⟨j,G⟩:=x
 obtain ⟨hj,hJ2⟩:=hp
 simp only at hj hJ2
 refine SX.seq (SX.sr (SL.mv (.r rfl) rfl (SL.lenS (.r rfl) ty9 rfl (SL.bin (.r rfl) rfl rfl Bin.geI (SL.nx ?_)))))
 refine SX.cond rfl (fun hc2=>?_) (fun hc2=>?_)
 have hjlt:j<s.length / 4:=by simp at hc2;omega
 have hw:=wordsOf_get hjlt
 have hws:=take_split hw
 refine SX.skip (SQ.thn (SX.seq (SX.block (SX.sr (SL.mv (.r rfl) rfl (SL.mv (.r rfl) rfl ?_))))))
 refine SL.call (vs:=[_]) (Hin:=[]) (.r rfl) rfl ⟨rfl,trivial⟩ cal226 rfl rfl (c_arx_word (s.drop (4*j)) (by simp;omega)) ?_
 rintro _ _ ⟨rfl,rfl⟩
 refine ⟨trivial,?_⟩
 rw [wordLE_drop,Nat.add_zero]
 refine SL.yld (M2:=[_,_]) (G:=G) (T:=T1) (vs:=[_]) (ok:=fun G1=>J ((ls.take i).flatMap wordsOf++(wordsOf s).take (j+1)) G1) (no:=X) (.r rfl) rfl ⟨rfl,trivial⟩ rfl ?_ (fun bb G1 hG1=>⟨trivial,?_⟩)
 intro M
 have e1:ls.flatMap wordsOf=((ls.take i).flatMap wordsOf++(wordsOf s).take j)++wordLE s (4*j)::((wordsOf s).drop (j+1)++(ls.drop (i+1)).flatMap wordsOf):=by
  have h1:ls.flatMap wordsOf=(ls.take i).flatMap wordsOf++(wordsOf s++(ls.drop (i+1)).flatMap wordsOf):=by
   rw [←List.flatMap_cons,←List.flatMap_append,←hsplit.1]
  have h2:wordsOf s++(ls.drop (i+1)).flatMap wordsOf=(wordsOf s).take j++wordLE s (4*j)::((wordsOf s).drop (j+1)++(ls.drop (i+1)).flatMap wordsOf):=by
   rw [←List.cons_append,←List.append_assoc,←hws.1]
  rw [h1,h2,List.append_assoc]
 have:=hy _ _ _ e1 G hJ2 M
 rw [List.append_assoc,←hws.2] at this
 exact this
 refine SL.not (.r rfl) rfl (SL.nx ?_)
 refine SX.cond rfl (fun hc3=>?_) (fun hc3=>?_)
 obtain rfl:bb=false:=by simpa using hc3
 refine SX.ret (SQ.blkR (SQ.thnR (SQ.lpR (SQ.blkR (SQ.blkR (SQ.thnR (SQ.lpR (SQ.blkR ?_))))))))
 exact SQ.fret (res0 rfl) (ret_of (M:=G1) (.inr hG1) fun _ h=>h.skip [_,_])
 obtain rfl:bb=true:=by simpa using hc3
 refine SX.skip (SQ.blk (SQ.thn (SX.region (SL.mv (.r rfl) rfl (SL.slSl 4 (.r rfl) ty9 rfl rfl (by omega) (by simp;omega) ?_)))))
 rw [List.drop_drop,show 4*j+4=4*(j+1) by omega]
 refine SL.asg (.r rfl) rfl (SL.nil ?_)
 exact SQ.again (j+1,G1) ⟨hjlt,hG1⟩ (by simp only;omega) (by repeat' (first | exact trivial | refine And.intro rfl ?_))
 have hje:j=s.length / 4:=by simp at hc2;omega
 refine SX.exit (SQ.thnE (SQ.lpE (SQ.blkE (SQ.blk (SQ.thn (SX.region (SL.bin (.r rfl) rfl rfl (Bin.addI (by omega) (by omega)) (SL.mv (.r rfl) rfl (SL.nil ?_)))))))))
 refine SQ.again (i+1,G) ⟨hlt,?_⟩ (by simp only;omega) (by repeat' (first | exact trivial | refine And.intro rfl ?_))
 simp only
 rw [hsplit.2,List.flatMap_append,List.flatMap_cons,List.flatMap_nil,List.append_nil]
 have ht:(wordsOf s).take j=wordsOf s:=List.take_of_length_le (by rw [wordsOf_length];omega)
 rw [ht] at hJ2
 exact hJ2
 have hle:i=ls.length:=by simp at hc1;omega
 refine SX.exit (SQ.thnE (SQ.lpE (SQ.blkE ?_)))
 exact SQ.fend (res0 rfl) (ret_of (M:=G) (.inl (by rw [hle,List.take_length] at hJ;exact hJ)) fun _ h=>h.skip [_,_])

theorem c_arx_words (ls:List (List UInt8)) (bs:Nat):Con Tryz.prog K w0 212 [.slice (some ⟨bs,0,none⟩) ls.length ls.length] [own bs (.cells (arr vS ls) 9)] H (fun r M=>∃bl,r=.func (.func 225) #[] #[vP bl 0]∧M=[own bl (.cells #[.slice (some ⟨bs,0,none⟩) ls.length ls.length] 22),own bs (.cells (arr vS ls) 9)]):=by
 refine Con.enter Tryz.func212 rfl rfl ?_
 refine SX.sr ?_
 refine SL.box (.r rfl) rfl (fun _=>trivial) fun b0=>?_
 refine SL.asg (.r rfl) rfl (SL.nx (SX.sr ?_))
 refine SL.mkf (fv:=#[]) (cv:=#[_]) (.r rfl) rfl rfl ?_
 refine SL.asg (.r rfl) rfl (SL.nx (SX.ret ?_))
 exact SQ.fret (res1 rfl rfl) (ret_of (M:=[_,_]) ⟨b0,rfl,rfl⟩ fun _ h=>h)

theorem c_arx_begun (key nonce:List UInt8) (counter:UInt32) (hk:key.length=32) (hn:nonce.length=12):Con Tryz.prog K w0 189 [vS key,vU32 counter,vS nonce] [] H (fun r M=>r=.agg (arr vU32 (begunA key counter nonce))∧M=[]):=by
 refine Con.enter Tryz.func189 rfl rfl ?_
 refine SX.sr ?_
 refine SL.alloc (.r rfl) ze265 (fun _=>trivial) fun b0=>?_
 refine SL.nx (SX.scope (SX.sr ?_))
 refine SL.alloc (.r rfl) ze265 (fun _=>trivial) fun b1=>?_
 refine SL.nx (SX.sr ?_)
 refine SL.alloc (.r rfl) ze3 (fun _=>trivial) fun b2=>?_
 refine SL.st 0 ⟨rfl,rfl,rfl⟩ rfl rfl rfl sz3 rfl rfl rfl trivial (SL.nx (SX.sr (SL.mv (.r rfl) rfl (SL.cv (.r rfl) rfl (Cv.u32_8 ty29 ty5) (SL.mv (.r rfl) rfl ?_)))))
 refine SL.bin (.r rfl) rfl rfl (Bin.shr32 (n:=8)) ?_
 refine SL.cv (.r rfl) rfl (Cv.u32_8 ty29 ty5) (SL.mv (.r rfl) rfl ?_)
 refine SL.bin (.r rfl) rfl rfl (Bin.shr32 (n:=16)) ?_
 refine SL.cv (.r rfl) rfl (Cv.u32_8 ty29 ty5) (SL.mv (.r rfl) rfl ?_)
 refine SL.bin (.r rfl) rfl rfl (Bin.shr32 (n:=24)) ?_
 refine SL.cv (.r rfl) rfl (Cv.u32_8 ty29 ty5) ?_
 refine SL.bsl [_,_,_,_] (.r rfl) ty141 sz5 ze5 ⟨rfl,rfl,rfl,rfl,trivial⟩ rfl rfl rfl (by simp [Value.cells]) rfl rfl (fun _=>trivial) fun b3=>?_
 refine SL.bts [_,_,_,_] (.r rfl) ty141 ty5 ty9 rfl rfl (cells_all 0 rfl) (SL.asg (.r rfl) rfl (SL.nx (SX.seq (SX.label (SQ.thn (SX.seq (SX.sr (SL.mv (.r rfl) rfl (SL.mv (.r rfl) rfl (SL.mv (.r rfl) rfl ?_))))))))))
 refine SL.bsl [_,_,_,_] (.r rfl) ty22 sz9 ze9 ⟨rfl,rfl,rfl,rfl,trivial⟩ rfl rfl rfl (by simp [Value.cells]) rfl rfl (fun _=>trivial) fun b4=>?_
 refine SL.call (vs:=[_]) (Hin:=[_]) (.r rfl) rfl ⟨rfl,trivial⟩ cal212 rfl rfl (c_arx_words [expandW,key,le32 counter,nonce] b4) ?_
 rintro _ _ ⟨bl,rfl,rfl⟩
 refine ⟨trivial,?_⟩
 refine SL.nx ?_
 have hbl:=begunA_length (counter:=counter) hk hn
 have hfm:[expandW,key,le32 counter,nonce].flatMap wordsOf=begunA key counter nonce:=by simp [begunA,List.flatMap_cons]
 refine SX.block ?_
 refine SX.range (enc:=encW) ([expandW,key,le32 counter,nonce].flatMap wordsOf) (fun pre G=>G=own b3 (.cells (arr vU8 (le32 counter)) 5)::own b2 (.cells #[vI pre.length] 3)::own b1 (.cells (arr vU32 (pre++List.replicate (16-pre.length) 0)) 265)::own b0 (.cells (arr vU32 (List.replicate 16 0)) 265)::H) (fun c G=>False) rfl cal225 rfl (fun _=>rfl) (q_arx_words [expandW,key,le32 counter,nonce] bl b4 (by simp) (by simp [hk,hn,expandW,le32])) rfl rfl (fun pre x suf G hxs hJ r lp Rest=>?_) (fun G D hJ=>?_) (fun c G D hX=>hX.elim)
 obtain rfl:=hJ
 have hlt:pre.length<16:=by
  rw [hfm] at hxs
  rw [hxs] at hbl
  simp at hbl
  omega
 refine SX.region (SL.asg (.r rfl) rfl (SL.nil (SQ.bgn (SX.block (SX.seq (SX.sr (SL.ld (.r rfl) sc3 rfl (cell_own 1 rfl rfl) (SL.bin (.r rfl) rfl rfl Bin.eqI (SL.nx ?_)))))))))
 refine SX.cond rfl (fun hc1=>absurd hc1 (by simp;omega)) (fun hc1=>?_)
 refine SX.skip (SQ.thn (SX.sr (SL.ld (.r rfl) sc3 rfl (cell_own 1 rfl rfl) (SL.mv (.r rfl) rfl ?_))))
 refine SL.iaAp (n:=pre.length) (.r rfl) ty265 sz29 rfl rfl (by omega) (by omega) ?_
 refine SL.stA (f:=vU32) 2 ⟨rfl,rfl,rfl⟩ rfl rfl rfl sz29 rfl rfl (by simp;omega) trivial ?_
 rw [fill_set pre 0 x 16 pre.length rfl hlt]
 refine SL.nx (SX.region (SL.ld (.r rfl) sc3 rfl (cell_own 1 rfl rfl) (SL.bin (.r rfl) rfl rfl (Bin.addI (by omega) (by omega)) (SL.st 1 ⟨rfl,rfl,rfl⟩ rfl rfl rfl sz3 rfl rfl rfl trivial (SL.nil (SQ.blk ?_))))))
 refine SQ.rndN (G:=_::_::_::_::H) ?_ (fun _ h=>h)
 have e1:(pre++[x]).length=pre.length+1:=by simp
 rw [e1]
 rfl
 obtain rfl:=hJ
 rw [hfm,hbl]
 have e1:begunA key counter nonce++List.replicate (16-16) 0=begunA key counter nonce:=by simp
 rw [e1]
 refine SQ.blk (SQ.thn (SX.sr ?_))
 refine SL.ldA ((begunA key counter nonce).map vU32) (.r rfl) ag265 (by simp [hbl]) rfl (cells_own 2 rfl (fun j u hu=>by simpa [arr] using hu)) ?_
 refine SL.stF 3 ⟨rfl,rfl,rfl⟩ rfl rfl rfl sz265 (by simp [hbl]) (by simp [arr]) (arr_one (fun _=>rfl) (begunA key counter nonce)) trivial ?_
 refine SL.nx (SX.ret (SQ.scpR ?_))
 exact SQ.fret (resv1 rfl (resv.ag 3 ((begunA key counter nonce).map vU32) ag265 (by simp [hbl]) rfl rfl (by simp only [List.drop_zero];exact List.take_of_length_le (by simp [hbl])))) (ret_of (M:=[]) ⟨rfl,rfl⟩ fun _ h=>h.skip [_,_,_,_])

end Go.Proofs.YtkibffdipniemaaGreatDoor

/- Walks of ChaCha20's quarter turns and rounds. Condition: none but the sizes stated. -/
namespace Go.Proofs.YtkibffdipniemaaGreatDoor
open Go
variable {K:Nat→Prop} {w0:World} {H:List Chunk}

theorem left_all:∀n:Fin 32,(toU64 (n.1:Int) &&& 31).toNat=n.1∧(32-(toU64 (n.1:Int) &&& 31)).toNat=32-n.1:=by decide
theorem rotl_pos (x:UInt32) (n:Nat) (h1:n<32):rotl32 x (n:Int)=rl x n:=by
 obtain ⟨e1,e2⟩:=left_all ⟨n,h1⟩
 simp only at e1 e2
 unfold rotl32 rl
 rw [e1,e2]
theorem turnA_lt:∀i,turnA i<32 | 0=>(by decide:16<32) | _+1=>(by decide:8<32)
theorem turnB_lt:∀i,turnB i<32 | 0=>(by decide:12<32) | _+1=>(by decide:7<32)
theorem c_arx_Quarter (q:Q4):Con Tryz.prog K w0 213 [vU32 q.a,vU32 q.b,vU32 q.c,vU32 q.d] [] H (fun r M=>r=.agg (arr vU32 q.quarter.list)∧M=[]):=by
 refine Con.enter Tryz.func213 rfl rfl ?_
 refine SX.sr ?_
 refine SL.alloc (.r rfl) ze288 (fun _=>trivial) fun b0=>?_
 refine SL.nx (SX.seq (SX.sr (SL.bldU [vI 16,vI 12] (.r rfl) ty298 sz3 ze298 rfl ⟨rfl,rfl,trivial⟩ rfl rfl (by simp [Value.cells]) (SL.bldU [vI 8,vI 7] (.r rfl) ty298 sz3 ze298 rfl ⟨rfl,rfl,trivial⟩ rfl rfl (by simp [Value.cells]) ?_))))
 refine SL.bld (r:=#[vI 16,vI 12,vI 8,vI 7]) [_,_] (.r rfl) pl299 pk299 ze299 ⟨rfl,rfl,trivial⟩ rfl ?_
 refine SL.mv (.r rfl) rfl (SL.nx (SX.block ?_))
 refine SX.mono (SX.loop (α:=Nat) (fun i=>i≤2) (fun i=>[(0,vU32 (q.steps i).a),(1,vU32 (q.steps i).b),(2,vU32 (q.steps i).c),(3,vU32 (q.steps i).d),(8,vP b0 0),(13,.agg #[vI 16,vI 12,vI 8,vI 7]),(14,vI i)]) (fun i=>own b0 (.cells (arr vU32 [0,0,0,0]) 288)::H) (fun i=>2-i) (fun i D hp=>?_) 0 (by omega)) (by repeat' (first | exact trivial | refine And.intro rfl ?_))
 refine SX.sr (SL.bin (.r rfl) rfl rfl Bin.ltI (SL.nx (SX.seq ?_)))
 refine SX.cond rfl (fun hc1=>?_) (fun hc1=>?_)
 have hi:i<2:=by simp at hc1;omega
 refine SX.skip (SQ.thn (SX.seq (SX.block (SX.sr ?_))))
 refine SL.ixAA (i:=i) (c':=#[vI (turnA i:Int),vI (turnB i:Int)]) (.r rfl) ty299 ag298 rfl rfl (by omega) (by omega) (by rcases (by omega:i=0∨i=1) with rfl | rfl<;>rfl) ?_
 refine SL.alloc (.r rfl) ze298 (fun _=>trivial) fun b1=>?_
 refine SL.st 0 ⟨rfl,rfl,rfl⟩ rfl rfl rfl sz298 rfl rfl rfl trivial (SL.nx (SX.sr (SL.mv (.r rfl) rfl (SL.mv (.r rfl) rfl (SL.bin (.r rfl) rfl rfl Bin.add32 (SL.asg (.r rfl) rfl (SL.nx (SX.sr (SL.mv (.r rfl) rfl (SL.mv (.r rfl) rfl (SL.bin (.r rfl) rfl rfl Bin.xor32 ?_)))))))))))
 refine SL.iaAp (n:=0) (.r rfl) ty298 sz3 rfl rfl (by omega) (by omega) ?_
 refine SL.ld (.r rfl) sc3 rfl (cell_own 0 rfl rfl) ?_
 refine SL.call (vs:=[_,_]) (Hin:=[]) (.r rfl) rfl ⟨rfl,rfl,trivial⟩ cal227 rfl rfl (c_math_bits_RotateLeft32 _ (turnA i:Int)) ?_
 rintro _ _ ⟨rfl,rfl⟩
 refine ⟨trivial,?_⟩
 rw [rotl_pos _ _ (turnA_lt i)]
 refine SL.asg (.r rfl) rfl (SL.nx (SX.sr (SL.mv (.r rfl) rfl (SL.mv (.r rfl) rfl (SL.bin (.r rfl) rfl rfl Bin.add32 (SL.asg (.r rfl) rfl (SL.nx (SX.region (SL.mv (.r rfl) rfl (SL.mv (.r rfl) rfl (SL.bin (.r rfl) rfl rfl Bin.xor32 ?_)))))))))))
 refine SL.iaAp (n:=1) (.r rfl) ty298 sz3 rfl rfl (by omega) (by omega) ?_
 refine SL.ld (.r rfl) sc3 rfl (cell_own 0 rfl rfl) ?_
 refine SL.call (vs:=[_,_]) (Hin:=[]) (.r rfl) rfl ⟨rfl,rfl,trivial⟩ cal227 rfl rfl (c_math_bits_RotateLeft32 _ (turnB i:Int)) ?_
 rintro _ _ ⟨rfl,rfl⟩
 refine ⟨trivial,?_⟩
 rw [rotl_pos _ _ (turnB_lt i)]
 refine SL.asg (.r rfl) rfl (SL.nil (SQ.blk (SQ.thn (SX.region (SL.bin (.r rfl) rfl rfl (Bin.addI (by omega) (by omega)) (SL.mv (.r rfl) rfl (SL.nil ?_)))))))
 exact SQ.again (i+1) (by omega) (by omega) (by repeat' (first | exact trivial | refine And.intro rfl ?_)) (fun w hw=>hw.skip [_])
 have hi:i=2:=by simp at hc1;omega
 subst hi
 refine SX.exit (SQ.thnE (SQ.lpE (SQ.blkE (SQ.thn (SX.sr (SL.mv (.r rfl) rfl (SL.mv (.r rfl) rfl (SL.mv (.r rfl) rfl (SL.mv (.r rfl) rfl ?_)))))))))
 refine SL.bldU (q.quarter.list.map vU32) (.r rfl) ty288 sz29 ze288 rfl ⟨rfl,rfl,rfl,rfl,trivial⟩ rfl rfl (fun v hv=>by obtain ⟨x,_,rfl⟩:=List.mem_map.1 hv;rfl) ?_
 refine SL.stF 0 ⟨rfl,rfl,rfl⟩ rfl rfl rfl sz288 rfl rfl (arr_one (fun _=>rfl) q.quarter.list) trivial ?_
 refine SL.nx (SX.ret ?_)
 exact SQ.fret (resv1 rfl (resv.ag 0 (q.quarter.list.map vU32) ag288 rfl rfl rfl rfl)) (ret_of (M:=[]) ⟨rfl,rfl⟩ fun _ h=>h.skip [_])

theorem c_arx_round (ws:List UInt32) (step:Nat) (b:Nat) (e:TypeId) (hw:ws.length=16) (hs:step≤1):Con Tryz.prog K w0 190 [vP b 0,vI step] [own b (.cells (arr vU32 ws) e)] H (fun r M=>r=.tuple #[]∧M=[own b (.cells (arr vU32 (roundA ws step)) e)]):=by
 refine Con.enter Tryz.func190 rfl rfl ?_
 refine SX.sr (SL.mv (.r rfl) rfl (SL.nx (SX.block ?_)))
 refine SX.mono (SX.loop (α:=Nat) (fun i=>i≤4) (fun i=>[(0,vP b 0),(1,vI step),(10,vI i)]) (fun i=>own b (.cells (arr vU32 (roundN ws step i)) e)::H) (fun i=>4-i) (fun i D hp=>?_) 0 (by omega)) (by repeat' (first | exact trivial | refine And.intro rfl ?_))
 have hwl:(roundN ws step i).length=16:=(roundN_length ws step i).trans hw
 refine SX.sr (SL.bin (.r rfl) rfl rfl Bin.ltI (SL.nx (SX.seq ?_)))
 refine SX.cond rfl (fun hc1=>?_) (fun hc1=>?_)
 have hi:i<4:=by simp at hc1;omega
 have h16:∀k,k<4→ixA step i k<16:=fun k hk=>by unfold ixA;omega
 refine SX.skip (SQ.thn (SX.seq (SX.block (SX.sr (SL.mv (.r rfl) rfl (SL.asg (.r rfl) rfl (SL.nx (SX.sr ?_))))))))
 refine SL.alloc (.r rfl) ze287 (fun _=>trivial) fun b0=>?_
 refine SL.nx (SX.seq (SX.sr (SL.mv (.r rfl) rfl (SL.nx (SX.block ?_)))))
 refine SX.mono (SX.loop (α:=Nat) (fun k=>k≤4) (fun k=>[(0,vP b 0),(1,vI step),(4,vI i),(5,vP b0 0),(10,vI i),(13,vI k)]) (fun k=>own b0 (.cells (arr vI (((List.range k).map fun j=>((ixA step i j:Nat):Int))++List.replicate (4-k) 0)) 287)::own b (.cells (arr vU32 (roundN ws step i)) e)::H) (fun k=>4-k) (fun k D hp=>?_) 0 (by omega)) (by repeat' (first | exact trivial | refine And.intro rfl ?_))
 refine SX.sr (SL.bin (.r rfl) rfl rfl Bin.ltI (SL.nx (SX.seq ?_)))
 refine SX.cond rfl (fun hc2=>?_) (fun hc2=>?_)
 have hk:k<4:=by simp at hc2;omega
 have hks:k*step≤3:=Nat.le_trans (Nat.mul_le_mul_left k hs) (by omega)
 have hks2:((k:Int)*step)=((k*step:Nat):Int):=by simp
 refine SX.skip (SQ.thn (SX.seq (SX.block (SX.sr (SL.mv (.r rfl) rfl (SL.asg (.r rfl) rfl (SL.nx (SX.region (SL.mv (.r rfl) rfl (SL.mv (.r rfl) rfl (SL.bin (.r rfl) rfl rfl (Bin.mulI (by omega) (by omega)) (SL.mv (.r rfl) rfl (SL.mv (.r rfl) rfl (SL.mv (.r rfl) rfl ?_))))))))))))))
 refine SL.bin (.r rfl) rfl rfl (Bin.mulI (by omega) (by omega)) (SL.bin (.r rfl) rfl rfl (Bin.addI (by omega) (by omega)) (SL.bin (.r rfl) rfl rfl (Bin.modI (by omega) (by omega)) (SL.bin (.r rfl) rfl rfl (Bin.addI (by omega) (by omega)) ?_)))
 refine SL.iaAp (n:=k) (.r rfl) ty287 sz3 rfl rfl (by omega) (by omega) ?_
 refine SL.stA (f:=vI) 0 ⟨rfl,rfl,rfl⟩ rfl rfl rfl sz3 rfl rfl (by simp;omega) trivial ?_
 rw [fill_set _ _ _ 4 k (by simp) hk]
 refine SL.nil (SQ.blk (SQ.thn (SX.region (SL.bin (.r rfl) rfl rfl (Bin.addI (by omega) (by omega)) (SL.mv (.r rfl) rfl (SL.nil ?_))))))
 refine SQ.again (k+1) (by omega) (by omega) (by repeat' (first | exact trivial | refine And.intro rfl ?_)) (fun w hw=>?_)
 have e1:(4*(k:Int)+((i:Int)+(k:Int)*step)%4)=((ixA step i k:Nat):Int):=by simp [ixA]
 simp only [List.range_succ,List.map_append,List.map_cons,List.map_nil]
 rw [e1] at hw
 exact hw
 have hk:k=4:=by simp at hc2;omega
 subst hk
 have hat:((List.range 4).map fun j=>((ixA step i j:Nat):Int))++List.replicate (4-4) 0=[((ixA step i 0:Nat):Int),((ixA step i 1:Nat):Int),((ixA step i 2:Nat):Int),((ixA step i 3:Nat):Int)]:=by rfl
 rw [hat]
 refine SX.exit (SQ.thnE (SQ.lpE (SQ.blkE (SQ.thn ?_))))
 generalize hq:(⟨(roundN ws step i).getD (ixA step i 0) 0,(roundN ws step i).getD (ixA step i 1) 0,(roundN ws step i).getD (ixA step i 2) 0,(roundN ws step i).getD (ixA step i 3) 0⟩:Q4)=q
 refine SX.meet (α:=Nat) (fun _=>True) (fun x=>[(0,vP b 0),(1,vI step),(5,vP b0 0),(7,vP x 0),(10,vI i)]) (fun x=>own x (.cells (arr vU32 q.quarter.list) 288)::own b0 (.cells (arr vI [((ixA step i 0:Nat):Int),((ixA step i 1:Nat):Int),((ixA step i 2:Nat):Int),((ixA step i 3:Nat):Int)]) 287)::own b (.cells (arr vU32 (roundN ws step i)) e)::H) ?_ (fun x hx=>?_)
 refine SX.drawI mix [0,1] (Pl.ap [(true,0),(true,1),(true,2),(true,3),(true,4),(true,5),(true,6),(true,7),(true,8),(true,9),(true,10),(true,11),(true,12),(true,13),(true,14),(true,15),(true,16),(true,17),(true,18),(true,19),(true,20),(true,21),(true,22),(true,23)] (.alt 24 (Pl.of [(false,25),(false,26)]) (.cons (false,25) (Pl.of [(false,24),(false,26)])))) (by kernel_rfl) (SL.mv (.r rfl) rfl ?_)
 refine SL.iaAp (n:=0) (.r rfl) ty287 sz3 rfl rfl (by omega) (by omega) ?_
 refine SL.ld (.r rfl) sc3 rfl (cell_own 0 rfl rfl) (SL.nchk (.r rfl) rfl ?_)
 refine SL.iaAp (n:=ixA step i 0) (.r rfl) ty265 sz29 rfl rfl rfl (h16 _ (by omega)) ?_
 refine SL.ld (.r rfl) sc29 rfl (cell_own 1 rfl (arr_get (get_getD 0 (by rw [hwl];exact h16 _ (by omega))))) (SL.mv (.r rfl) rfl ?_)
 refine SL.iaAp (n:=1) (.r rfl) ty287 sz3 rfl rfl (by omega) (by omega) ?_
 refine SL.ld (.r rfl) sc3 rfl (cell_own 0 rfl rfl) (SL.nchk (.r rfl) rfl ?_)
 refine SL.iaAp (n:=ixA step i 1) (.r rfl) ty265 sz29 rfl rfl rfl (h16 _ (by omega)) ?_
 refine SL.ld (.r rfl) sc29 rfl (cell_own 1 rfl (arr_get (get_getD 0 (by rw [hwl];exact h16 _ (by omega))))) (SL.mv (.r rfl) rfl ?_)
 refine SL.iaAp (n:=2) (.r rfl) ty287 sz3 rfl rfl (by omega) (by omega) ?_
 refine SL.ld (.r rfl) sc3 rfl (cell_own 0 rfl rfl) (SL.nchk (.r rfl) rfl ?_)
 refine SL.iaAp (n:=ixA step i 2) (.r rfl) ty265 sz29 rfl rfl rfl (h16 _ (by omega)) ?_
 refine SL.ld (.r rfl) sc29 rfl (cell_own 1 rfl (arr_get (get_getD 0 (by rw [hwl];exact h16 _ (by omega))))) (SL.mv (.r rfl) rfl ?_)
 refine SL.iaAp (n:=3) (.r rfl) ty287 sz3 rfl rfl (by omega) (by omega) ?_
 refine SL.ld (.r rfl) sc3 rfl (cell_own 0 rfl rfl) (SL.nchk (.r rfl) rfl ?_)
 refine SL.iaAp (n:=ixA step i 3) (.r rfl) ty265 sz29 rfl rfl rfl (h16 _ (by omega)) ?_
 refine SL.ld (.r rfl) sc29 rfl (cell_own 1 rfl (arr_get (get_getD 0 (by rw [hwl];exact h16 _ (by omega))))) ?_
 refine SL.two ?_ ?_
 refine SL.call (vs:=[_,_,_,_]) (Hin:=[]) (.r rfl) rfl ⟨rfl,rfl,rfl,rfl,trivial⟩ cal213 (by rw [←hq];rfl) rfl (c_arx_Quarter q) ?_
 rintro _ _ ⟨rfl,rfl⟩
 refine ⟨⟨⟨0,rfl⟩,⟨1,rfl⟩,trivial⟩,?_⟩
 refine SL.alloc (.r rfl) ze288 (fun _=>⟨⟨1,rfl⟩,⟨2,rfl⟩,trivial⟩) fun b1=>?_
 refine SL.stF 0 ⟨rfl,rfl,rfl⟩ rfl rfl rfl sz288 rfl rfl (arr_one (fun _=>rfl) q.quarter.list) ⟨⟨1,rfl⟩,⟨2,rfl⟩,trivial⟩ ?_
 refine SL.nil ?_
 exact SQ.mid b1 trivial (by repeat' (first | exact trivial | refine And.intro rfl ?_))
 refine SL.alloc (.r rfl) ze288 (fun _=>⟨⟨1,rfl⟩,⟨2,rfl⟩,trivial⟩) fun b1=>?_
 refine SL.call (vs:=[_,_,_,_]) (Hin:=[]) (.r rfl) rfl ⟨rfl,rfl,rfl,rfl,trivial⟩ cal213 (by rw [←hq];rfl) rfl (c_arx_Quarter q) ?_
 rintro _ _ ⟨rfl,rfl⟩
 refine ⟨⟨⟨1,rfl⟩,⟨2,rfl⟩,trivial⟩,?_⟩
 refine SL.stF 0 ⟨rfl,rfl,rfl⟩ rfl rfl rfl sz288 rfl rfl (arr_one (fun _=>rfl) q.quarter.list) ⟨⟨1,rfl⟩,⟨2,rfl⟩,trivial⟩ ?_
 refine SL.nil ?_
 exact SQ.mid b1 trivial (by repeat' (first | exact trivial | refine And.intro rfl ?_))
 
 refine SX.sr (SL.ldA (q.quarter.list.map vU32) (.r rfl) ag288 rfl rfl (cells_all 0 rfl) (SL.mv (.r rfl) rfl (SL.nx (SX.block ?_))))
 refine SX.mono (SX.loop (α:=Nat) (fun k=>k≤4) (fun k=>[(0,vP b 0),(1,vI step),(5,vP b0 0),(10,vI i),(53,.agg (arr vU32 q.quarter.list)),(54,vI k)]) (fun k=>own x (.cells (arr vU32 q.quarter.list) 288)::own b0 (.cells (arr vI [((ixA step i 0:Nat):Int),((ixA step i 1:Nat):Int),((ixA step i 2:Nat):Int),((ixA step i 3:Nat):Int)]) 287)::own b (.cells (arr vU32 (setsN (roundN ws step i) (ixA step i) q.quarter.list k)) e)::H) (fun k=>4-k) (fun k D hp=>?_) 0 (by omega)) (by repeat' (first | exact trivial | refine And.intro rfl ?_))
 refine SX.sr (SL.bin (.r rfl) rfl rfl Bin.ltI (SL.nx (SX.seq ?_)))
 refine SX.cond rfl (fun hc3=>?_) (fun hc3=>?_)
 have hk:k<4:=by simp at hc3;omega
 have hix:[((ixA step i 0:Nat):Int),((ixA step i 1:Nat):Int),((ixA step i 2:Nat):Int),((ixA step i 3:Nat):Int)][k]? = some ((ixA step i k:Nat):Int):=by
  rcases (by omega:k=0∨k=1∨k=2∨k=3) with rfl | rfl | rfl | rfl<;>rfl
 have hsl:(setsN (roundN ws step i) (ixA step i) q.quarter.list k).length=16:=(setsN_length ..).trans hwl
 refine SX.skip (SQ.thn (SX.seq (SX.block (SX.sr (SL.mv (.r rfl) rfl ?_)))))
 refine SL.ixA (i:=k) (.r rfl) ty288 sc29 rfl rfl (by omega) (by omega) (arr_get (get_getD 0 hk)) ?_
 refine SL.asg (.r rfl) rfl (SL.asg (.r rfl) rfl (SL.nx (SX.drawI mix [1] (Pl.ap [(true,0),(true,1),(true,2),(true,3),(true,4),(true,5),(true,6)] (.last 7 .nil)) (by kernel_rfl) (SL.mv (.r rfl) rfl (SL.mv (.r rfl) rfl ?_)))))
 refine SL.iaAp (n:=k) (.r rfl) ty287 sz3 rfl rfl (by omega) (by omega) ?_
 refine SL.ld (.r rfl) sc3 rfl (cell_own 0 rfl (arr_get hix)) (SL.mv (.r rfl) rfl (SL.nchk (.r rfl) rfl ?_))
 refine SL.iaAp (n:=ixA step i k) (.r rfl) ty265 sz29 rfl rfl rfl (h16 _ hk) ?_
 refine SL.last ?_
 refine SL.stA (f:=vU32) 2 ⟨rfl,rfl,rfl⟩ rfl rfl rfl sz29 rfl rfl (by rw [hsl];exact h16 _ hk) trivial ?_
 refine SL.nil (SQ.blk (SQ.thn (SX.region (SL.bin (.r rfl) rfl rfl (Bin.addI (by omega) (by omega)) (SL.mv (.r rfl) rfl (SL.nil ?_))))))
 exact SQ.again (k+1) (by omega) (by omega) (by repeat' (first | exact trivial | refine And.intro rfl ?_))
 have hk:k=4:=by simp at hc3;omega
 subst hk
 refine SX.exit (SQ.thnE (SQ.lpE (SQ.blkE (SQ.blk (SQ.thn (SX.region (SL.bin (.r rfl) rfl rfl (Bin.addI (by omega) (by omega)) (SL.mv (.r rfl) rfl (SL.nil ?_)))))))))
 refine SQ.again (i+1) (by omega) (by omega) (by repeat' (first | exact trivial | refine And.intro rfl ?_)) (fun w hw=>?_)
 have e1:setsN (roundN ws step i) (ixA step i) q.quarter.list 4=roundN ws step (i+1):=by rw [roundN,qrA,hq]
 rw [e1] at hw
 exact hw.skip [_,_]
 have hi:i=4:=by simp at hc1;omega
 subst hi
 refine SX.exit (SQ.thnE (SQ.lpE (SQ.blkE ?_)))
 exact SQ.fend (res0 rfl) (ret_of (M:=[_]) ⟨rfl,rfl⟩ fun _ h=>h)

end Go.Proofs.YtkibffdipniemaaGreatDoor

/- Walks of ChaCha20's block, and of a text under the stream. Condition: a key of 32 bytes, a nonce of 12, texts of at most 2^20 bytes. -/
namespace Go.Proofs.YtkibffdipniemaaGreatDoor
open Go
variable {K:Nat→Prop} {w0:World} {H:List Chunk}

theorem zip_take (W B:List UInt32) (i:Nat) (h1:i<W.length) (h2:i<B.length):(List.zipWith (·+·) W B).take (i+1)=(List.zipWith (·+·) W B).take i++[W.getD i 0+B.getD i 0]:=by
 rw [List.take_add_one,List.getElem?_eq_getElem (by simp;omega)]
 simp [List.getD_eq_getElem?_getD,h1,h2]
theorem ofNat_succ (j:Nat):UInt32.ofNat j+1=UInt32.ofNat (j+1):=by
 apply UInt32.toNat_inj.1
 simp
theorem xorA_step (key nonce s:List UInt8) (n:Nat) (h:n<s.length):(xorA key nonce s).take (n+1)=(xorA key nonce s).take n++[s.getD n 0 ^^^ streamA key nonce n]:=by
 rw [List.take_add_one,List.getElem?_eq_getElem (by rw [xorA_length];exact h)]
 simp [xorA]
theorem c_arx_Block (key nonce:List UInt8) (counter:UInt32) (hk:key.length=32) (hn:nonce.length=12):Con Tryz.prog K w0 150 [vS key,vU32 counter,vS nonce] [] H (fun r M=>r=.tuple #[vS (blockA key counter nonce),vI 0]∧M=[]):=by
 refine Con.enter Tryz.func150 rfl rfl ?_
 refine SX.sr (SL.asg (.r rfl) rfl (SL.asg (.r rfl) rfl (SL.nx (SX.seq (SX.sr (SL.mv (.r rfl) rfl (SL.lenS (.r rfl) ty9 rfl (SL.bin (.r rfl) rfl rfl Bin.neI (SL.mv (.r rfl) rfl ?_)))))))))
 refine SL.or (c:=(!decide ((nonce.length:Int)=12))) 16 4 20 rfl (fun hb k=>?_) (fun hb k=>?_) ?_
 refine SL.pass rfl rfl rfl (SL.pass rfl rfl rfl (SL.pass rfl rfl rfl (SL.pk (.r rfl) rfl rfl ?_)))
 exact k.mono (by repeat' (first | exact trivial | refine And.intro rfl ?_))
 refine SL.mv (.r rfl) rfl (SL.lenS (.r rfl) ty9 rfl (SL.bin (.r rfl) rfl rfl Bin.neI (SL.pk (.r rfl) rfl rfl ?_)))
 exact k.mono (by repeat' (first | exact trivial | refine And.intro rfl ?_))
 refine SL.nx ?_
 refine SX.cond rfl (fun hc1=>absurd hc1 (by simp [hk,hn])) (fun hc1=>?_)
 refine SX.skip (SQ.thn (SX.sr (SL.mv (.r rfl) rfl (SL.mv (.r rfl) rfl (SL.mv (.r rfl) rfl ?_)))))
 refine SL.call (vs:=[_,_,_]) (Hin:=[]) (.r rfl) rfl ⟨rfl,rfl,rfl,trivial⟩ cal189 rfl rfl (c_arx_begun key nonce counter hk hn) ?_
 rintro _ _ ⟨rfl,rfl⟩
 refine ⟨trivial,?_⟩
 have hB:=begunA_length (counter:=counter) hk hn
 generalize hBe:begunA key counter nonce=B at hB
 refine SL.alloc (.r rfl) ze265 (fun _=>trivial) fun b0=>?_
 refine SL.stF (c':=arr vU32 B) 0 ⟨rfl,rfl,rfl⟩ rfl rfl rfl sz265 (by rw [arr_size];exact hB) rfl (arr_one (fun _=>rfl) B) trivial ?_
 refine SL.nx (SX.sr ?_)
 refine SL.alloc (.r rfl) ze265 (fun _=>trivial) fun b1=>?_
 refine SL.nx (SX.seq (SX.drawI mix [] (Pl.ap [(true,0),(true,1)] (.last 2 .nil)) (by kernel_rfl) (SL.slA (.r rfl) ty265 sz29 rfl (by decide) (SL.slA (.r rfl) ty265 sz29 rfl (by decide) (SL.last ?_)))))
 refine SL.cpA (f:=vU32) (xs:=List.replicate 16 0) (ys:=B) 0 1 (.r rfl) ty113 sz29 rfl rfl rfl rfl rfl hB (fun _=>rfl) trivial ?_
 refine SL.nx (SX.seq (SX.sr (SL.mv (.r rfl) rfl (SL.nx (SX.block ?_)))))
 refine SX.mono (SX.loop (α:=Nat) (fun i=>i≤10) (fun i=>[(8,vP b0 0),(9,vP b1 0),(28,vI i)]) (fun i=>own b1 (.cells (arr vU32 (tenN B i)) 265)::own b0 (.cells (arr vU32 B) 265)::H) (fun i=>10-i) (fun i D hp=>?_) 0 (by omega)) (by repeat' (first | exact trivial | refine And.intro rfl ?_))
 have htl:=(tenN_length B i).trans hB
 refine SX.sr (SL.bin (.r rfl) rfl rfl Bin.ltI (SL.nx (SX.seq ?_)))
 refine SX.cond rfl (fun hc2=>?_) (fun hc2=>?_)
 have hi:i<10:=by simp at hc2;omega
 refine SX.skip (SQ.thn (SX.seq (SX.block (SX.sr ?_))))
 refine SL.call (vs:=[_,_]) (Hin:=[_]) (.r rfl) rfl ⟨rfl,rfl,trivial⟩ cal190 rfl rfl (c_arx_round (tenN B i) 0 b1 265 htl (by omega)) ?_
 rintro _ _ ⟨rfl,rfl⟩
 refine ⟨trivial,?_⟩
 refine SL.nx (SX.region ?_)
 refine SL.call (vs:=[_,_]) (Hin:=[_]) (.r rfl) rfl ⟨rfl,rfl,trivial⟩ cal190 rfl rfl (c_arx_round (roundA (tenN B i) 0) 1 b1 265 ((roundN_length ..).trans htl) (by omega)) ?_
 rintro _ _ ⟨rfl,rfl⟩
 refine ⟨trivial,?_⟩
 refine SL.nil (SQ.blk (SQ.thn (SX.region (SL.bin (.r rfl) rfl rfl (Bin.addI (by omega) (by omega)) (SL.mv (.r rfl) rfl (SL.nil ?_))))))
 exact SQ.again (i+1) (by omega) (by omega) (by repeat' (first | exact trivial | refine And.intro rfl ?_))
 have hi:i=10:=by simp at hc2;omega
 subst hi
 generalize hW:tenN B 10=W at htl
 refine SX.exit (SQ.thnE (SQ.lpE (SQ.blkE (SQ.thn (SX.sr (SL.asg (.r rfl) rfl (SL.nx (SX.seq (SX.sr (SL.ldA (W.map vU32) (.r rfl) ag265 (by simp [htl]) rfl (cells_all 0 rfl) (SL.mv (.r rfl) rfl (SL.nx (SX.block (SX.nilRow 5 1 ?_))))))))))))))
 refine SX.mono (SX.loop (α:=Nat×Value) (fun x=>x.1≤16) (fun x=>[(8,vP b0 0),(10,x.2),(33,.agg (arr vU32 W)),(34,vI x.1)]) (fun x=>rowC 5 1 x.2 (4*x.1) ((((List.zipWith (·+·) W B).take x.1).flatMap le32).map fun b=>vU8 b)::own b1 (.cells (arr vU32 W) 265)::own b0 (.cells (arr vU32 B) 265)::H) (fun x=>16-x.1) (fun x D hp=>?_) (0,.slice none 0 0) (by decide)) (by repeat' (first | exact trivial | refine And.intro rfl ?_))
 obtain ⟨i,v⟩:=x
 simp only at hp
 refine SX.sr (SL.bin (.r rfl) rfl rfl Bin.ltI (SL.nx (SX.seq ?_)))
 refine SX.cond rfl (fun hc3=>?_) (fun hc3=>?_)
 have hi:i<16:=by simp at hc3;omega
 refine SX.skip (SQ.thn (SX.seq (SX.block (SX.sr (SL.mv (.r rfl) rfl ?_)))))
 refine SL.ixA (i:=i) (.r rfl) ty265 sc29 rfl rfl (by omega) (by omega) (arr_get (get_getD 0 (by omega))) ?_
 refine SL.asg (.r rfl) rfl (SL.asg (.r rfl) rfl (SL.nx (SX.sr (SL.mv (.r rfl) rfl (SL.mv (.r rfl) rfl ?_)))))
 refine SL.iaAp (n:=i) (.r rfl) ty265 sz29 rfl rfl (by omega) (by omega) ?_
 refine SL.ld (.r rfl) sc29 rfl (cell_own 2 rfl (arr_get (get_getD 0 (by omega)))) (SL.bin (.r rfl) rfl rfl Bin.add32 (SL.asg (.r rfl) rfl (SL.nx (SX.region (SL.mv (.r rfl) rfl (SL.mv (.r rfl) rfl (SL.cv (.r rfl) rfl (Cv.u32_8 ty29 ty5) (SL.mv (.r rfl) rfl ?_))))))))
 refine SL.bin (.r rfl) rfl rfl (Bin.shr32 (n:=8)) ?_
 refine SL.cv (.r rfl) rfl (Cv.u32_8 ty29 ty5) (SL.mv (.r rfl) rfl ?_)
 refine SL.bin (.r rfl) rfl rfl (Bin.shr32 (n:=16)) ?_
 refine SL.cv (.r rfl) rfl (Cv.u32_8 ty29 ty5) (SL.mv (.r rfl) rfl ?_)
 refine SL.bin (.r rfl) rfl rfl (Bin.shr32 (n:=24)) ?_
 refine SL.cv (.r rfl) rfl (Cv.u32_8 ty29 ty5) ?_
 refine SL.bsl [_,_,_,_] (.r rfl) ty141 sz5 ze5 ⟨rfl,rfl,rfl,rfl,trivial⟩ rfl rfl rfl (by simp [Value.cells]) rfl rfl (fun _=>trivial) fun b2=>?_
 refine SL.app 1 (.r rfl) (m:=4) (news:=(le32 (W.getD i 0+B.getD i 0)).map fun b=>vU8 b) ty141 sz5 by5 ze5 rfl (by decide) rfl rfl rfl rfl (cells_all 0 rfl) (by intro u hu;obtain ⟨x,_,rfl⟩:=List.mem_map.1 hu;rfl) (by omega) (by omega) (fun _=>trivial) fun v'=>?_
 refine SL.asg (.r rfl) rfl (SL.nil (SQ.blk (SQ.thn (SX.region (SL.bin (.r rfl) rfl rfl (Bin.addI (by omega) (by omega)) (SL.mv (.r rfl) rfl (SL.nil ?_)))))))
 refine SQ.again (i+1,v') (by simp only;omega) (by simp only;omega) (by repeat' (first | exact trivial | refine And.intro rfl ?_)) (fun w hw=>?_)
 simp only
 rw [zip_take W B i (by omega) (by omega),List.flatMap_append,List.map_append]
 simp only [List.flatMap_cons,List.flatMap_nil,List.append_nil]
 exact hw.skip [_]
 have hi:i=16:=by simp at hc3;omega
 subst hi
 have ht:(List.zipWith (·+·) W B).take 16=List.zipWith (·+·) W B:=List.take_of_length_le (by simp;omega)
 rw [ht]
 refine SX.exit (SQ.thnE (SQ.lpE (SQ.blkE (SQ.thn (SX.sr (SL.mv (.r rfl) rfl ?_))))))
 refine SL.btsR (s:=(List.zipWith (·+·) W B).flatMap le32) 0 (.r rfl) ty141 ty5 ty9 rfl rfl ?_
 refine SL.asg (.r rfl) rfl (SL.asg (.r rfl) rfl (SL.nx (SX.ret ?_)))
 exact SQ.fret (res2 rfl rfl rfl) (ret_of (M:=[]) ⟨by rw [blockA,outA,hBe,hW],rfl⟩ fun _ h=>h.skip [_,_,_])

theorem c_arx_Xor (key nonce s:List UInt8) (hk:key.length=32) (hn:nonce.length=12) (hs:s.length≤1048576):Con Tryz.prog K w0 109 [vS key,vS nonce,vS s] [] H (fun r M=>r=.tuple #[vS (xorA key nonce s),vI 0]∧M=[]):=by
 refine Con.enter Tryz.func109 rfl rfl ?_
 refine SX.sr (SL.asg (.r rfl) rfl (SL.asg (.r rfl) rfl (SL.nx (SX.seq (SX.sr (SL.mv (.r rfl) rfl (SL.lenS (.r rfl) ty9 rfl (SL.bin (.r rfl) rfl rfl Bin.neI (SL.mv (.r rfl) rfl ?_)))))))))
 refine SL.or (c:=(!decide ((nonce.length:Int)=12))) 17 4 21 rfl (fun hb k=>?_) (fun hb k=>?_) ?_
 refine SL.pass rfl rfl rfl (SL.pass rfl rfl rfl (SL.pass rfl rfl rfl (SL.pk (.r rfl) rfl rfl ?_)))
 exact k.mono (by repeat' (first | exact trivial | refine And.intro rfl ?_))
 refine SL.mv (.r rfl) rfl (SL.lenS (.r rfl) ty9 rfl (SL.bin (.r rfl) rfl rfl Bin.neI (SL.pk (.r rfl) rfl rfl ?_)))
 exact k.mono (by repeat' (first | exact trivial | refine And.intro rfl ?_))
 refine SL.mv (.r rfl) rfl ?_
 refine SL.or (c:=decide ((1048576:Int)<s.length)) 22 4 26 rfl (fun hb k=>?_) (fun hb k=>?_) ?_
 refine SL.pass rfl rfl rfl (SL.pass rfl rfl rfl (SL.pass rfl rfl rfl (SL.pk (.r rfl) rfl rfl ?_)))
 exact k.mono (by repeat' (first | exact trivial | refine And.intro rfl ?_))
 refine SL.mv (.r rfl) rfl (SL.lenS (.r rfl) ty9 rfl (SL.bin (.r rfl) rfl rfl Bin.gtI (SL.pk (.r rfl) rfl rfl ?_)))
 exact k.mono (by repeat' (first | exact trivial | refine And.intro rfl ?_))
 refine SL.nx ?_
 refine SX.cond rfl (fun hc1=>absurd hc1 (by simp [hk,hn];omega)) (fun hc1=>?_)
 refine SX.skip (SQ.thn (SX.sr ?_))
 refine SL.alloc (.r rfl) ze172 (fun _=>trivial) fun b0=>?_
 refine SL.nx (SX.seq (SX.sr (SL.asg (.r rfl) rfl (SL.nx (SX.block (SX.nilRow 5 1 (SX.pick [1,0] 2 ?_)))))))
 have hxl:=xorA_length key nonce s
 refine SX.mono (SX.loop (α:=Nat×Value×Value) (fun x=>64*x.1<s.length+64∧adr b0 x.2.1) (fun x=>[(0,vS key),(1,vS nonce),(2,vS (s.drop (64*x.1))),(8,vP b0 0),(9,vU32 (UInt32.ofNat x.1))]) (fun x=>own b0 (.cells #[x.2.1,x.2.2] 172)::rowC 5 1 x.2.2 (min (64*x.1) s.length) (((xorA key nonce s).take (min (64*x.1) s.length)).map fun b=>vU8 b)::H) (fun x=>s.length+64-64*x.1) (fun x D hp=>?_) (0,.pointer none,.slice none 0 0) ⟨by simp,.inl rfl⟩) ⟨rfl,rfl,rfl,rfl,rfl,trivial⟩
 obtain ⟨j,p,v⟩:=x
 obtain ⟨hj,hadr⟩:=hp
 simp only at hj hadr
 refine SX.seq (SX.sr (SL.mv (.r rfl) rfl ?_))
 refine SL.bin (.r rfl) rfl rfl (Bin.neS (t:=[])) ?_
 refine SL.nx ?_
 refine SX.cond rfl (fun hc2=>?_) (fun hc2=>?_)
 have hjl:64*j<s.length:=by simp at hc2;omega
 have hmin:min (64*j) s.length=64*j:=by omega
 rw [hmin]
 refine SX.skip (SQ.thn (SX.seq (SX.block (SX.sr (SL.mv (.r rfl) rfl (SL.mv (.r rfl) rfl (SL.mv (.r rfl) rfl ?_)))))))
 refine SL.call (vs:=[_,_,_]) (Hin:=[]) (.r rfl) rfl ⟨rfl,rfl,rfl,trivial⟩ cal150 rfl rfl (c_arx_Block key nonce (UInt32.ofNat j) hk hn) ?_
 rintro _ _ ⟨rfl,rfl⟩
 refine ⟨trivial,?_⟩
 have hbl:=blockA_length (counter:=UInt32.ofNat j) hk hn
 refine SL.mv (.r rfl) rfl (SL.ext (.r rfl) rfl rfl (SL.ext (.r rfl) rfl rfl (SL.asg (.r rfl) rfl (SL.asg (.r rfl) rfl (SL.nx (SX.sr (SL.mv (.r rfl) rfl (SL.mv (.r rfl) rfl (SL.lenS (.r rfl) ty9 rfl ?_)))))))))
 refine SL.mv (.r rfl) rfl (SL.lenS (.r rfl) ty9 rfl (SL.minI (.r rfl) rfl rfl (SL.slSh (min (s.length-64*j) 64) (.r rfl) ty9 rfl rfl (by simp;omega) (by simp;omega) (SL.asg (.r rfl) rfl (SL.nx (SX.seq (SX.sr (SL.mv (.r rfl) rfl (SL.lenS (.r rfl) ty9 rfl (SL.mv (.r rfl) rfl (SL.nx (SX.block ?_))))))))))))
 have hpl:((s.drop (64*j)).take (min (s.length-64*j) 64)).length=min (s.length-64*j) 64:=by simp
 refine SX.mono (SX.loop (α:=Nat×Value×Value) (fun x=>x.1≤min (s.length-64*j) 64∧adr b0 x.2.1) (fun x=>[(0,vS key),(1,vS nonce),(2,vS (s.drop (64*j))),(8,vP b0 0),(9,vU32 (UInt32.ofNat j)),(10,vS (blockA key (UInt32.ofNat j) nonce)),(12,vS ((s.drop (64*j)).take (min (s.length-64*j) 64))),(46,vI ((s.drop (64*j)).take (min (s.length-64*j) 64)).length),(47,vI x.1)]) (fun x=>own b0 (.cells #[x.2.1,x.2.2] 172)::rowC 5 1 x.2.2 (64*j+x.1) (((xorA key nonce s).take (64*j+x.1)).map fun b=>vU8 b)::H) (fun x=>64-x.1) (fun x D hp=>?_) (0,p,v) ⟨Nat.zero_le _,hadr⟩) (by repeat' (first | exact trivial | refine And.intro rfl ?_))
 obtain ⟨i,p,v⟩:=x
 obtain ⟨hi,hadr⟩:=hp
 simp only at hi hadr
 refine SX.sr (SL.bin (.r rfl) rfl rfl Bin.ltI (SL.nx (SX.seq ?_)))
 refine SX.cond rfl (fun hc3=>?_) (fun hc3=>?_)
 have hil:i<min (s.length-64*j) 64:=by simp only [hpl] at hc3;simpa using hc3
 refine SX.skip (SQ.thn (SX.seq (SX.block (SX.sr (SL.mv (.r rfl) rfl (SL.asg (.r rfl) rfl (SL.nx (SX.drawI mix [] (Pl.ap [(true,0),(true,1),(true,2),(true,3),(true,4),(true,5),(true,6)] (.last 7 .nil)) (by kernel_rfl) (SL.mv (.r rfl) rfl (SL.mv (.r rfl) rfl (SL.ixS i (.r rfl) ty9 rfl rfl (by omega) (by omega) (SL.mv (.r rfl) rfl (SL.mv (.r rfl) rfl ?_)))))))))))))
 refine SL.ixS i (.r rfl) ty9 rfl rfl (by omega) (by omega) (SL.bin (.r rfl) rfl rfl Bin.xor8 (SL.last ?_))
 have e1:((s.drop (64*j)).take (min (s.length-64*j) 64)).getD i 0=s.getD (64*j+i) 0:=by
  simp [List.getD_eq_getElem?_getD,hil,show 64*j+i<s.length by omega]
 have e2:(blockA key (UInt32.ofNat j) nonce).getD i 0=streamA key nonce (64*j+i):=by
  rw [streamA,show (64*j+i) / 64=j by omega,show (64*j+i)%64=i by omega]
 rw [e1,e2]
 refine SL.call (vs:=[_,_]) (Hin:=[_,_]) (.r rfl) rfl ⟨rfl,rfl,trivial⟩ cal151 rfl rfl (c_WriteByte 172 b0 p v (64*j+i) _ _ hadr li172 (by omega)) ?_
 rintro _ _ ⟨rfl,v',rfl⟩
 refine ⟨trivial,?_⟩
 refine SL.nil (SQ.blk (SQ.thn (SX.region (SL.bin (.r rfl) rfl rfl (Bin.addI (by omega) (by omega)) (SL.mv (.r rfl) rfl (SL.nil ?_))))))
 refine SQ.again (i+1,vP b0 0,v') ⟨by simp only;omega,.inr rfl⟩ (by simp only;omega) (by repeat' (first | exact trivial | refine And.intro rfl ?_)) (fun w hw=>?_)
 simp only
 rw [←Nat.add_assoc,xorA_step key nonce s (64*j+i) (by omega),List.map_append]
 exact hw
 have hie:i=min (s.length-64*j) 64:=by simp only [hpl] at hc3;simp at hc3;omega
 refine SX.exit (SQ.thnE (SQ.lpE (SQ.blkE (SQ.thn (SX.region (SL.mv (.r rfl) rfl (SL.mv (.r rfl) rfl (SL.lenS (.r rfl) ty9 rfl (SL.slSl (min (s.length-64*j) 64) (.r rfl) ty9 rfl rfl (by rw [hpl]) (by simp;omega) ?_)))))))))
 rw [List.drop_drop]
 refine SL.asg (.r rfl) rfl (SL.nil (SQ.blk (SQ.thn (SX.region (SL.mv (.r rfl) rfl ?_)))))
 refine SL.bin (.r rfl) rfl rfl (Bin.add32 (b:=1)) ?_
 refine SL.asg (.r rfl) rfl (SL.nil ?_)
 have e1:s.drop (64*j+min (s.length-64*j) 64)=s.drop (64*(j+1)):=by
  rcases Nat.lt_or_ge (s.length-64*j) 64 with h | h
  rw [List.drop_eq_nil_of_le (by omega),List.drop_eq_nil_of_le (by omega)]
  rw [show 64*j+min (s.length-64*j) 64=64*(j+1) by omega]
 rw [e1,ofNat_succ]
 refine SQ.again (j+1,p,v) ⟨by simp only;omega,hadr⟩ (by simp only;omega) (by repeat' (first | exact trivial | refine And.intro rfl ?_)) (fun w hw=>?_)
 simp only
 rw [show min (64*(j+1)) s.length=64*j+i by omega]
 exact hw
 have hjl:s.length≤64*j:=by simp at hc2;omega
 have hmin:min (64*j) s.length=s.length:=by omega
 have ht:(xorA key nonce s).take s.length=xorA key nonce s:=List.take_of_length_le (by omega)
 rw [hmin,ht]
 refine SX.exit (SQ.thnE (SQ.lpE (SQ.blkE (SQ.thn (SX.sr ?_)))))
 refine SL.call (vs:=[_]) (Hin:=[_,_]) (.r rfl) rfl ⟨rfl,trivial⟩ cal103 rfl rfl (c_String 172 b0 p v s.length (xorA key nonce s) (by omega)) ?_
 rintro _ _ ⟨rfl,rfl⟩
 refine ⟨trivial,?_⟩
 refine SL.asg (.r rfl) rfl (SL.asg (.r rfl) rfl (SL.nx (SX.ret ?_)))
 exact SQ.fret (res2 rfl rfl rfl) (ret_of (M:=[]) ⟨rfl,rfl⟩ fun _ h=>h.skip [_,_])

end Go.Proofs.YtkibffdipniemaaGreatDoor

/- Walks of a head's bytes. No condition. -/
namespace Go.Proofs.YtkibffdipniemaaGreatDoor
open Go
variable {K:Nat→Prop} {w0:World} {H:List Chunk}
theorem c_seal_put (b:Nat) (p v:Value) (e:TypeId) (n:UInt64) (w m:Nat) (xs:List UInt8) (hp:adr b p) (hl:lies e) (hw:w≤8) (hm:m≤1048576):Con Tryz.prog K w0 152 [vP b 0,vU64 n,vI w] [own b (.cells #[p,v] e),rowC 5 1 v m (xs.map fun b=>vU8 b)] H (fun r M=>r=.tuple #[]∧∃p' v',adr b p'∧M=[own b (.cells #[p',v'] e),rowC 5 1 v' (m+w) ((xs++lePut n w).map fun b=>vU8 b)]):=by
 refine Con.enter Tryz.func152 rfl rfl ?_
 refine SX.sr (SL.mv (.r rfl) rfl (SL.mv (.r rfl) rfl (SL.nx (SX.block ?_))))
 refine SX.mono (SX.loop (α:=Nat×Value×Value) (fun x=>x.1≤w∧adr b x.2.1) (fun x=>[(0,vP b 0),(1,vU64 n),(7,vI w),(8,vI x.1)]) (fun x=>own b (.cells #[x.2.1,x.2.2] e)::rowC 5 1 x.2.2 (m+x.1) ((xs++lePut n x.1).map fun b=>vU8 b)::H) (fun x=>w-x.1) (fun x D hp=>?_) (0,p,v) ⟨Nat.zero_le _,hp⟩ |>.heap (fun w h=>by simpa [lePut] using h)) (by repeat' (first | exact trivial | refine And.intro rfl ?_))
 obtain ⟨i,p,v⟩:=x
 obtain ⟨hi,hadr⟩:=hp
 simp only at hi hadr
 refine SX.sr (SL.bin (.r rfl) rfl rfl Bin.ltI (SL.nx (SX.seq ?_)))
 refine SX.cond rfl (fun hc1=>?_) (fun hc1=>?_)
 have hlt:i<w:=by simpa using hc1
 refine SX.skip (SQ.thn (SX.seq (SX.block (SX.sr (SL.mv (.r rfl) rfl (SL.asg (.r rfl) rfl (SL.nx (SX.drawI mix [] (Pl.ap [(true,0),(true,1),(true,2),(true,3),(true,4),(true,5),(true,6),(true,7)] (.last 8 .nil)) (by kernel_rfl) (SL.mv (.r rfl) rfl (SL.nchk (.r rfl) rfl (SL.fa (.r rfl) rfl fo228_0 (SL.mv (.r rfl) rfl (SL.mv (.r rfl) rfl ?_)))))))))))))
 refine SL.bin (.r rfl) rfl rfl (Bin.mulI (by omega) (by omega)) ?_
 refine SL.bin (.r rfl) rfl rfl (Bin.shr64 (n:=(8*i))) ?_
 refine SL.cv (.r rfl) rfl (Cv.u64_8 ty48 ty5) (SL.last ?_)
 refine SL.call (vs:=[_,_]) (Hin:=[_,_]) (.r rfl) rfl ⟨rfl,rfl,trivial⟩ cal151 rfl rfl (c_WriteByte e b p v (m+i) _ _ hadr hl (by omega)) ?_
 rintro _ _ ⟨rfl,v',rfl⟩
 refine ⟨trivial,?_⟩
 refine SL.nil (SQ.blk (SQ.thn (SX.region (SL.bin (.r rfl) rfl rfl (Bin.addI (by omega) (by omega)) (SL.mv (.r rfl) rfl (SL.nil ?_))))))
 refine SQ.again (i+1,vP b 0,v') ⟨hlt,.inr rfl⟩ (by simp only;omega) (by repeat' (first | exact trivial | refine And.intro rfl ?_)) (fun w hw=>?_)
 simp only
 rw [lePut_succ,←List.append_assoc,List.map_append (l₁:=xs++lePut n i),←Nat.add_assoc]
 exact hw
 have hie:i=w:=by simp at hc1;omega
 subst hie
 refine SX.exit (SQ.thnE (SQ.lpE (SQ.blkE ?_)))
 exact SQ.fend (res0 rfl) (ret_of (M:=[_,_]) ⟨rfl,p,v,hadr,rfl⟩ fun _ h=>h)

theorem c_seal_nonce (h:HeadA):Con Tryz.prog K w0 110 [.agg (encHead h).toArray] [] H (fun r M=>r=vS (nonceA h)∧M=[]):=by
 refine Con.enter Tryz.func110 rfl rfl ?_
 refine SX.sr ?_
 refine SL.box (.r rfl) rfl (fun _=>trivial) fun b0=>?_
 refine SL.asg (.r rfl) rfl (SL.nx (SX.sr ?_))
 refine SL.alloc (.r rfl) ze228 (fun _=>trivial) fun b1=>?_
 refine SL.nx (SX.sr ?_)
 refine SL.mkf (fv:=#[_]) (cv:=#[]) (.r rfl) rfl rfl ?_
 refine SL.asg (.r rfl) rfl (SL.nx (SX.nilRow 5 1 (SX.pick [1,0,2] 3 (SX.sr (SL.mv (.r rfl) rfl (SL.fa (.r rfl) rfl fo143_2 (SL.ld (.r rfl) sc29 rfl (cell_own 2 rfl rfl) (SL.cv (.r rfl) rfl (Cv.u32_64 ty29 ty48) ?_))))))))
 refine SL.call (vs:=[_,_]) (Hin:=[_,_]) (.r rfl) rfl ⟨rfl,rfl,trivial⟩ cal152 rfl rfl (c_seal_put b1 (.pointer none) (.slice none 0 0) 228 h.boot.toUInt64 4 0 [] (.inl rfl) li228 (by omega) (by omega)) ?_
 rintro _ _ ⟨rfl,p1,v1,ha1,rfl⟩
 refine ⟨trivial,?_⟩
 refine SL.nx (SX.sr (SL.mv (.r rfl) rfl (SL.fa (.r rfl) rfl fo143_3 (SL.ld (.r rfl) sc48 rfl (cell_own 2 rfl rfl) ?_))))
 refine SL.call (vs:=[_,_]) (Hin:=[_,_]) (.r rfl) rfl ⟨rfl,rfl,trivial⟩ cal152 rfl rfl (c_seal_put b1 p1 v1 228 h.seq 8 4 _ ha1 li228 (by omega) (by omega)) ?_
 rintro _ _ ⟨rfl,p2,v2,ha2,rfl⟩
 refine ⟨trivial,?_⟩
 refine SL.nx (SX.sr (SL.fa (.r rfl) rfl fo228_0 ?_))
 refine SL.call (vs:=[_]) (Hin:=[_,_]) (.r rfl) rfl ⟨rfl,trivial⟩ cal103 rfl rfl (c_String 228 b1 p2 v2 12 (nonceA h) (by omega)) ?_
 rintro _ _ ⟨rfl,rfl⟩
 refine ⟨trivial,?_⟩
 refine SL.asg (.r rfl) rfl (SL.nx (SX.ret ?_))
 exact SQ.fret (res1 rfl rfl) (ret_of (M:=[]) ⟨rfl,rfl⟩ fun _ h=>h.skip [_,_,_])

theorem c_seal_Put (h:HeadA):Con Tryz.prog K w0 111 [.agg (encHead h).toArray] [] H (fun r M=>r=vS (putA h)∧M=[]):=by
 refine Con.enter Tryz.func111 rfl rfl ?_
 refine SX.sr ?_
 refine SL.box (.r rfl) rfl (fun _=>trivial) fun b0=>?_
 refine SL.asg (.r rfl) rfl (SL.nx (SX.sr ?_))
 refine SL.alloc (.r rfl) ze228 (fun _=>trivial) fun b1=>?_
 refine SL.nx (SX.sr ?_)
 refine SL.mkf (fv:=#[_]) (cv:=#[]) (.r rfl) rfl rfl ?_
 refine SL.asg (.r rfl) rfl (SL.nx (SX.nilRow 5 1 (SX.pick [1,0,2] 3 (SX.sr (SL.mv (.r rfl) rfl (SL.fa (.r rfl) rfl fo143_0 (SL.ld (.r rfl) sc29 rfl (cell_own 2 rfl rfl) (SL.cv (.r rfl) rfl (Cv.u32_64 ty29 ty48) ?_))))))))
 refine SL.call (vs:=[_,_]) (Hin:=[_,_]) (.r rfl) rfl ⟨rfl,rfl,trivial⟩ cal152 rfl rfl (c_seal_put b1 (.pointer none) (.slice none 0 0) 228 h.page.toUInt64 4 0 [] (.inl rfl) li228 (by omega) (by omega)) ?_
 rintro _ _ ⟨rfl,p1,v1,ha1,rfl⟩
 refine ⟨trivial,?_⟩
 refine SL.nx (SX.sr (SL.mv (.r rfl) rfl (SL.fa (.r rfl) rfl fo143_1 (SL.ld (.r rfl) sc29 rfl (cell_own 2 rfl rfl) (SL.cv (.r rfl) rfl (Cv.u32_64 ty29 ty48) ?_)))))
 refine SL.call (vs:=[_,_]) (Hin:=[_,_]) (.r rfl) rfl ⟨rfl,rfl,trivial⟩ cal152 rfl rfl (c_seal_put b1 p1 v1 228 h.gen.toUInt64 4 4 _ ha1 li228 (by omega) (by omega)) ?_
 rintro _ _ ⟨rfl,p2,v2,ha2,rfl⟩
 refine ⟨trivial,?_⟩
 refine SL.nx (SX.seq (SX.drawI mix [2] (Pl.of [(true,0),(true,2),(false,1),(false,3),(true,4),(true,5),(true,6)]) (by kernel_rfl) (SL.fa (.r rfl) rfl fo228_0 (SL.ldA (encHead h) (.r rfl) ag143 rfl rfl (cells_all 0 rfl) ?_))))
 refine SL.call (vs:=[_]) (Hin:=[_,_]) (.r rfl) rfl ⟨rfl,trivial⟩ cal103 rfl rfl (c_String 228 b1 p2 v2 8 (lePut h.page.toUInt64 4++lePut h.gen.toUInt64 4) (by omega)) ?_
 rintro _ _ ⟨rfl,rfl⟩
 refine ⟨⟨⟨2,rfl⟩,trivial⟩,?_⟩
 refine SL.call (vs:=[_]) (Hin:=[]) (.r rfl) rfl ⟨rfl,trivial⟩ cal110 rfl rfl (c_seal_nonce h) ?_
 rintro _ _ ⟨rfl,rfl⟩
 refine ⟨⟨⟨2,rfl⟩,trivial⟩,?_⟩
 refine SL.bin (.r rfl) rfl rfl (Bin.cat (by simp [lePut_length,nonceA_length])) (SL.bin (.r rfl) rfl rfl (Bin.cat (by simp [lePut_length,nonceA_length])) (SL.asg (.r rfl) rfl (SL.nx (SX.ret ?_))))
 exact SQ.fret (res1 rfl rfl) (ret_of (M:=[]) ⟨rfl,rfl⟩ fun _ h=>h.skip [_,_,_])

end Go.Proofs.YtkibffdipniemaaGreatDoor

/- Walks of the head of bytes. No condition. -/
namespace Go.Proofs.YtkibffdipniemaaGreatDoor
open Go
variable {K:Nat→Prop} {w0:World} {H:List Chunk}

def encIN (p:Nat×UInt64):List Value:=[vI p.1,vU64 p.2]
theorem five {i:Nat} (h:i<5):i=0∨i=1∨i=2∨i=3∨i=4:=by omega
theorem q_seal_fields (s:List UInt8) (b:Nat) (hs:s.length=24):Seq Tryz.prog K w0 235 [vP b 0] [own b (.cells #[vS s] 9)] encIN (fieldsA s):=by
 intro lp J X T1 hy G h0
 refine Con.enter Tryz.func235 rfl rfl ?_
 refine SX.sr (SL.bldU [vI 4,vI 4,vI 4,vI 8,vI 4] (.r rfl) ty308 sz3 ze308 rfl ⟨rfl,rfl,rfl,rfl,rfl,trivial⟩ rfl rfl (by simp [Value.cells]) (SL.mv (.r rfl) rfl (SL.nx (SX.block ?_))))
 refine SX.mono (SX.loop (α:=Nat×List Chunk) (fun x=>x.1≤5∧J ((fieldsA s).take x.1) x.2) (fun x=>[(0,vY lp),(1,vP b 0),(7,.agg #[vI 4,vI 4,vI 4,vI 8,vI 4]),(8,vI x.1)]) (fun x=>own b (.cells #[vS (s.drop (offA x.1))] 9)::(x.2++T1)) (fun x=>5-x.1) (fun x D hp=>?_) (0,G) ⟨Nat.zero_le _,h0⟩) (by repeat' (first | exact trivial | refine And.intro rfl ?_))
 obtain ⟨i,G⟩:=x
 obtain ⟨hi,hJ⟩:=hp
 simp only at hi hJ
 refine SX.sr (SL.bin (.r rfl) rfl rfl Bin.ltI (SL.nx (SX.seq ?_)))
 refine SX.cond rfl (fun hc1=>?_) (fun hc1=>?_)
 have hlt:i<5:=by simp at hc1;omega
 have hg:=fieldsA_get s i hlt
 have hoff:offA i+widA i≤24:=by rcases five hlt with rfl | rfl | rfl | rfl | rfl<;>decide
 have hw8:widA i≤8:=by rcases five hlt with rfl | rfl | rfl | rfl | rfl<;>decide
 have hwid:(#[vI 4,vI 4,vI 4,vI 8,vI 4]:Array Value)[i]? = some (vI (widA i:Nat)):=by rcases five hlt with rfl | rfl | rfl | rfl | rfl<;>rfl
 refine SX.skip (SQ.thn (SX.seq (SX.block (SX.sr (SL.mv (.r rfl) rfl ?_)))))
 refine SL.ixA (i:=i) (.r rfl) ty308 sc3 rfl rfl (by omega) (by omega) hwid ?_
 refine SL.asg (.r rfl) rfl (SL.asg (.r rfl) rfl (SL.nx (SX.sr (SL.asg (.r rfl) rfl (SL.nx (SX.seq (SX.sr (SL.mv (.r rfl) rfl (SL.mv (.r rfl) rfl (SL.nx (SX.block ?_)))))))))))
 refine SX.mono (SX.loop (α:=Nat) (fun k=>k≤widA i) (fun k=>[(0,vY lp),(1,vP b 0),(3,vI i),(4,vI (widA i:Nat)),(5,vU64 (leGetN (s.drop (offA i)) k)),(7,.agg #[vI 4,vI 4,vI 4,vI 8,vI 4]),(8,vI i),(12,vI (widA i:Nat)),(13,vI k)]) (fun k=>own b (.cells #[vS (s.drop (offA i))] 9)::(G++T1)) (fun k=>widA i-k) (fun k D hp=>?_) 0 (Nat.zero_le _)) (by repeat' (first | exact trivial | refine And.intro rfl ?_))
 refine SX.sr (SL.bin (.r rfl) rfl rfl Bin.ltI (SL.nx (SX.seq ?_)))
 refine SX.cond rfl (fun hc2=>?_) (fun hc2=>?_)
 have hk:k<widA i:=by simpa using hc2
 refine SX.skip (SQ.thn (SX.seq (SX.block (SX.sr (SL.mv (.r rfl) rfl (SL.asg (.r rfl) rfl (SL.nx (SX.region (SL.mv (.r rfl) rfl (SL.ld (.r rfl) sc9 rfl (cell_own 0 rfl rfl) (SL.mv (.r rfl) rfl (SL.ixS k (.r rfl) ty9 rfl rfl (by omega) (by simp;omega) (SL.cv (.r rfl) rfl (Cv.u8_64 ty5 ty48) (SL.mv (.r rfl) rfl ?_))))))))))))))
 refine SL.bin (.r rfl) rfl rfl (Bin.mulI (by omega) (by omega)) ?_
 refine SL.bin (.r rfl) rfl rfl (Bin.shl64 (n:=(8*k))) ?_
 refine SL.bin (.r rfl) rfl rfl Bin.or64 (SL.asg (.r rfl) rfl (SL.nil (SQ.blk (SQ.thn (SX.region (SL.bin (.r rfl) rfl rfl (Bin.addI (by omega) (by omega)) (SL.mv (.r rfl) rfl (SL.nil ?_))))))))
 exact SQ.again (k+1) hk (by omega) (by repeat' (first | exact trivial | refine And.intro rfl ?_))
 have hk:k=widA i:=by simp at hc2;omega
 subst hk
 refine SX.exit (SQ.thnE (SQ.lpE (SQ.blkE (SQ.thn (SX.seq (SX.sr (SL.mv (.r rfl) rfl (SL.mv (.r rfl) rfl (SL.mv (.r rfl) rfl ?_)))))))))
 refine SL.yld (M2:=[_]) (G:=G) (T:=T1) (vs:=[_,_]) (ok:=fun G1=>J ((fieldsA s).take (i+1)) G1) (no:=X) (.r rfl) rfl ⟨rfl,rfl,trivial⟩ rfl ?_ (fun bb G1 hG1=>⟨trivial,?_⟩)
 intro M
 have:=hy _ _ _ (take_split hg).1 G hJ M
 rw [←(take_split hg).2] at this
 exact this
 refine SL.not (.r rfl) rfl (SL.nx ?_)
 refine SX.cond rfl (fun hc3=>?_) (fun hc3=>?_)
 obtain rfl:bb=false:=by simpa using hc3
 refine SX.ret (SQ.thnR (SQ.blkR (SQ.thnR (SQ.lpR (SQ.blkR ?_)))))
 exact SQ.fret (res0 rfl) (ret_of (M:=G1) (.inr hG1) fun _ h=>h.skip [_])
 obtain rfl:bb=true:=by simpa using hc3
 refine SX.skip (SQ.thn (SX.region (SL.ld (.r rfl) sc9 rfl (cell_own 0 rfl rfl) (SL.mv (.r rfl) rfl (SL.slSl (widA i) (.r rfl) ty9 rfl rfl (by omega) (by simp;omega) ?_)))))
 rw [List.drop_drop]
 refine SL.st 0 ⟨rfl,rfl,rfl⟩ rfl rfl rfl sz9 rfl rfl rfl trivial (SL.nil (SQ.blk (SQ.thn (SX.region (SL.bin (.r rfl) rfl rfl (Bin.addI (by omega) (by omega)) (SL.mv (.r rfl) rfl (SL.nil ?_)))))))
 exact SQ.again (i+1,G1) ⟨hlt,hG1⟩ (by simp only;omega) (by repeat' (first | exact trivial | refine And.intro rfl ?_))
 have hle:i=5:=by simp at hc1;omega
 refine SX.exit (SQ.thnE (SQ.lpE (SQ.blkE ?_)))
 exact SQ.fend (res0 rfl) (ret_of (M:=G) (.inl (by rw [List.take_of_length_le (by rw [fieldsA_length];omega)] at hJ;exact hJ)) fun _ h=>h.skip [_])

theorem c_seal_fields (s:List UInt8):Con Tryz.prog K w0 233 [vS s] [] H (fun r M=>∃b,r=.func (.func 235) #[] #[vP b 0]∧M=[own b (.cells #[vS s] 9)]):=by
 refine Con.enter Tryz.func233 rfl rfl ?_
 refine SX.sr ?_
 refine SL.box (.r rfl) rfl (fun _=>trivial) fun b0=>?_
 refine SL.asg (.r rfl) rfl (SL.nx (SX.sr ?_))
 refine SL.mkf (fv:=#[]) (cv:=#[_]) (.r rfl) rfl rfl ?_
 refine SL.asg (.r rfl) rfl (SL.nx (SX.ret ?_))
 exact SQ.fret (res1 rfl rfl) (ret_of (M:=[_]) ⟨b0,rfl,rfl⟩ fun _ h=>h)

theorem c_seal_Get (s:List UInt8):Con Tryz.prog K w0 220 [vS s] [] H (fun r M=>r=.tuple #[.agg (encHead (getA s).1).toArray,vB (getA s).2]∧M=[]):=by
 refine Con.enter Tryz.func220 rfl rfl ?_
 refine SX.sr ?_
 refine SL.alloc (.r rfl) ze143 (fun _=>trivial) fun b0=>?_
 refine SL.asg (.r rfl) rfl (SL.nx (SX.scope (SX.sr ?_)))
 refine SL.alloc (.r rfl) ze143 (fun _=>trivial) fun b1=>?_
 refine SL.nx (SX.seq (SX.sr (SL.mv (.r rfl) rfl (SL.lenS (.r rfl) ty9 rfl (SL.bin (.r rfl) rfl rfl Bin.neI (SL.nx ?_))))))
 refine SX.cond rfl (fun hc1=>?_) (fun hc1=>?_)
 have hs:getA s=(head0,false):=by unfold getA;rw [if_neg (fun h=>by simp at hc1;omega)]
 rw [hs]
 refine SX.sr (SL.ldA (encHead head0) (.r rfl) ag143 rfl rfl (cells_all 0 rfl) (SL.st 1 ⟨rfl,rfl,rfl⟩ rfl rfl rfl sz143 rfl rfl rfl trivial (SL.asg (.r rfl) rfl (SL.nx (SX.ret (SQ.thnR (SQ.scpR ?_)))))))
 exact SQ.fret (resv2 rfl (resv.ag 1 (encHead head0) ag143 rfl rfl rfl rfl) rfl) (ret_of (M:=[]) ⟨rfl,rfl⟩ fun _ h=>h.skip [_,_])
 have hs:s.length=24:=by simp at hc1;omega
 refine SX.skip (SQ.thn (SX.seq (SX.label (SQ.thn (SX.seq (SX.sr (SL.mv (.r rfl) rfl ?_)))))))
 refine SL.call (vs:=[_]) (Hin:=[]) (.r rfl) rfl ⟨rfl,trivial⟩ cal233 rfl rfl (c_seal_fields s) ?_
 rintro _ _ ⟨bi,rfl,rfl⟩
 refine ⟨trivial,?_⟩
 refine SL.nx (SX.block ?_)
 refine SX.range (enc:=encIN) (fieldsA s) (fun pre G=>pre.length≤3∧G=own b1 (.cells (encHead (headN s pre.length)).toArray 143)::own b0 (.cells (encHead head0).toArray 143)::H) (fun c G=>c=.exit 0∧G=own b1 (.cells (encHead (headA s)).toArray 143)::own b0 (.cells (encHead head0).toArray 143)::H) rfl cal235 rfl (fun _=>rfl) (q_seal_fields s bi hs) rfl ⟨Nat.zero_le _,rfl⟩ (fun pre x suf G hxs hJ r lp Rest=>?_) (fun G D hJ=>?_) (fun c G D hX=>?_)
 obtain ⟨hpl,rfl⟩:=hJ
 have hget:(fieldsA s)[pre.length]? = some x:=by rw [hxs];simp
 rw [fieldsA_get s _ (by omega)] at hget
 obtain rfl:=Option.some.inj hget
 have hpl2:(pre++[(pre.length,fieldA s pre.length)]).length=pre.length+1:=by simp
 have hJ2:∀G,G=own b1 (.cells (encHead (headN s (pre.length+1))).toArray 143)::own b0 (.cells (encHead head0).toArray 143)::H→pre.length≤2→(pre++[(pre.length,fieldA s pre.length)]).length≤3∧G=own b1 (.cells (encHead (headN s (pre++[(pre.length,fieldA s pre.length)]).length)).toArray 143)::own b0 (.cells (encHead head0).toArray 143)::H:=fun G hG h=>by rw [hpl2];exact ⟨by omega,hG⟩
 clear hxs hpl2
 generalize pre.length=k at*
 refine SX.sr (SL.asg (.r rfl) rfl (SL.nx (SX.region (SL.asg (.r rfl) rfl (SL.nil (SQ.bgn (SX.block (SX.sr (SL.mv (.r rfl) rfl (SL.nx (SX.block (SX.sr (SL.bin (.r rfl) rfl rfl Bin.eqI (SL.asg (.r rfl) rfl (SL.nx ?_)))))))))))))))
 refine SX.cond rfl (fun hc2=>?_) (fun hc2=>?_)
 obtain rfl:k=0:=by simp at hc2;omega
 refine SX.region (SL.mv (.r rfl) rfl (SL.cv (.r rfl) rfl (Cv.u64_32 ty48 ty29) (SL.fa (.r rfl) rfl fo143_0 (SL.st 0 ⟨rfl,rfl,rfl⟩ rfl rfl rfl sz29 rfl rfl rfl trivial (SL.nil (SQ.blk (SQ.blk ?_)))))))
 exact SQ.rndN (hJ2 _ rfl (by omega)) (fun _ h=>h)
 have hk0:k≠0:=by simp at hc2;omega
 refine SX.sr (SL.bin (.r rfl) rfl rfl Bin.eqI (SL.asg (.r rfl) rfl (SL.nx ?_)))
 refine SX.cond rfl (fun hc3=>?_) (fun hc3=>?_)
 obtain rfl:k=1:=by simp at hc3;omega
 refine SX.region (SL.mv (.r rfl) rfl (SL.cv (.r rfl) rfl (Cv.u64_32 ty48 ty29) (SL.fa (.r rfl) rfl fo143_1 (SL.st 0 ⟨rfl,rfl,rfl⟩ rfl rfl rfl sz29 rfl rfl rfl trivial (SL.nil (SQ.blk (SQ.blk ?_)))))))
 exact SQ.rndN (hJ2 _ rfl (by omega)) (fun _ h=>h)
 have hk1:k≠1:=by simp at hc3;omega
 refine SX.sr (SL.bin (.r rfl) rfl rfl Bin.eqI (SL.asg (.r rfl) rfl (SL.nx ?_)))
 refine SX.cond rfl (fun hc4=>?_) (fun hc4=>?_)
 obtain rfl:k=2:=by simp at hc4;omega
 refine SX.region (SL.mv (.r rfl) rfl (SL.cv (.r rfl) rfl (Cv.u64_32 ty48 ty29) (SL.fa (.r rfl) rfl fo143_2 (SL.st 0 ⟨rfl,rfl,rfl⟩ rfl rfl rfl sz29 rfl rfl rfl trivial (SL.nil (SQ.blk (SQ.blk ?_)))))))
 exact SQ.rndN (hJ2 _ rfl (by omega)) (fun _ h=>h)
 have hk2:k≠2:=by simp at hc4;omega
 refine SX.sr (SL.bin (.r rfl) rfl rfl Bin.eqI (SL.asg (.r rfl) rfl (SL.nx ?_)))
 refine SX.cond rfl (fun hc5=>?_) (fun hc5=>?_)
 obtain rfl:k=3:=by simp at hc5;omega
 refine SX.sr (SL.mv (.r rfl) rfl (SL.fa (.r rfl) rfl fo143_3 (SL.st 0 ⟨rfl,rfl,rfl⟩ rfl rfl rfl sz48 rfl rfl rfl trivial (SL.nx (SX.exit (SQ.blkO (SQ.blkO ?_)))))))
 exact SQ.rndE (G:=_::_::H) ⟨rfl,rfl⟩ (fun _ h=>h)
 exact absurd hc5 (by simp;omega)
 exact absurd hJ.1 (by rw [fieldsA_length];omega)
 obtain ⟨rfl,rfl⟩:=hX
 refine SX.exit (SQ.blkE (SQ.thn (SX.seq (SX.sr (SL.ldA (encHead (headA s)) (.r rfl) ag143 rfl rfl (cells_all 0 rfl) ?_)))))
 refine SL.call (vs:=[_]) (Hin:=[]) (.r rfl) rfl ⟨rfl,trivial⟩ cal111 rfl rfl (c_seal_Put (headA s)) ?_
 rintro _ _ ⟨rfl,rfl⟩
 refine ⟨trivial,?_⟩
 refine SL.mv (.r rfl) rfl (SL.bin (.r rfl) rfl rfl Bin.neS (SL.nx ?_))
 refine SX.cond rfl (fun hc7=>?_) (fun hc7=>?_)
 have hg:getA s=(head0,false):=by unfold getA;rw [if_neg (fun h=>by simp [h.2] at hc7)]
 rw [hg]
 refine SX.sr (SL.bld [] (.r rfl) pl143 pk143 ze143 trivial rfl (SL.st 1 ⟨rfl,rfl,rfl⟩ rfl rfl rfl sz143 rfl rfl rfl trivial (SL.asg (.r rfl) rfl (SL.nx (SX.ret (SQ.thnR (SQ.scpR ?_)))))))
 exact SQ.fret (resv2 rfl (resv.ag 1 (encHead head0) ag143 rfl rfl rfl rfl) rfl) (ret_of (M:=[]) ⟨rfl,rfl⟩ fun _ h=>h.skip [_,_])
 have hg:getA s=(headA s,true):=by unfold getA;rw [if_pos ⟨hs,by simpa using hc7⟩]
 rw [hg]
 refine SX.skip (SQ.thn (SX.sr (SL.ldA (encHead (headA s)) (.r rfl) ag143 rfl rfl (cells_all 0 rfl) (SL.st 1 ⟨rfl,rfl,rfl⟩ rfl rfl rfl sz143 rfl rfl rfl trivial (SL.asg (.r rfl) rfl (SL.nx (SX.ret (SQ.scpR ?_))))))))
 exact SQ.fret (resv2 rfl (resv.ag 1 (encHead (headA s)) ag143 rfl rfl rfl rfl) rfl) (ret_of (M:=[]) ⟨rfl,rfl⟩ fun _ h=>h.skip [_,_])

end Go.Proofs.YtkibffdipniemaaGreatDoor

/- The walk of a sealed block. Condition: rings of at most 2^40 keys, texts of at most 2^39 bytes. -/
namespace Go.Proofs.YtkibffdipniemaaGreatDoor
open Go
variable {K:Nat→Prop} {w0:World} {H:List Chunk}

theorem c_padR (s:List UInt8) (hn:s.length≤9223372036854775807):Con Tryz.prog K w0 107 [vS s] [] H (fun r M=>r=.tuple #[vS (padR s).1,vI (padR s).2]∧M=[]):=
 (c_pad_Pad s hn).mono fun v M h=>⟨by rw [h.1];unfold padR;split<;>rfl,h.2⟩
theorem c_subsR (T:List UInt32) (k:KeyA) (hT:ShaT K w0 T) (hr:rightA [k]=true):Con Tryz.prog K w0 108 [.agg (encKey k).toArray] [] H (fun r M=>r=.tuple #[vS (subA T k sealW),vS (subA T k bindW),vI 0]∧M=[]):=
 (c_keys_Subs T k hT).mono fun v M h=>⟨by rw [h.1,if_pos hr],h.2⟩
theorem c_seal_Seal (T:List UInt32) (v:Value) (l:List KeyA) (h:HeadA) (s:List UInt8) (hT:ShaT K w0 T) (hk:SlOf K w0 encKey 2 v l) (hv:v.cells=#[v]) (hl:l.length≤1099511627776) (hn:s.length≤9223372036854775807):Con Tryz.prog K w0 76 [v,.agg (encHead h).toArray,vS s] [] H (fun r M=>r=.tuple #[vS (sealA T l h s).1,vI (sealA T l h s).2]∧M=[]):=by
 refine Con.enter Tryz.func76 rfl rfl ?_
 refine SX.sr ?_
 refine SL.box (.r rfl) rfl (fun _=>trivial) fun b0=>?_
 refine SL.asg (.r rfl) rfl (SL.asg (.r rfl) rfl (SL.nx (SX.sr (SL.mv (.r rfl) rfl (SL.fa (.r rfl) rfl fo143_1 (SL.ld (.r rfl) sc29 rfl (cell_own 0 rfl rfl) ?_))))))
 refine SL.call (vs:=[_,_]) (Hin:=[]) (.r rfl) rfl ⟨rfl,rfl,trivial⟩ cal72 rfl rfl (c_keys_Find v l h.gen hk hv hl) ?_
 rintro _ _ ⟨rfl,rfl⟩
 refine ⟨trivial,?_⟩
 generalize hf:findA l h.gen=f
 refine SL.mv (.r rfl) rfl (SL.ext (.r rfl) rfl rfl (SL.ext (.r rfl) rfl rfl ?_))
 refine SL.alloc (.r rfl) ze138 (fun _=>trivial) fun b1=>?_
 refine SL.st 0 ⟨rfl,rfl,rfl⟩ rfl rfl rfl sz138 rfl rfl rfl trivial (SL.asg (.r rfl) rfl (SL.nx (SX.seq (SX.sr (SL.mv (.r rfl) rfl (SL.bin (.r rfl) rfl rfl Bin.neI (SL.nx ?_)))))))
 refine SX.cond rfl (fun hc1=>?_) (fun hc1=>?_)
 have he:f.2≠0:=by simpa using hc1
 have hs:sealA T l h s=([],f.2):=by unfold sealA;rw [hf,if_pos he]
 rw [hs]
 refine SX.sr (SL.mv (.r rfl) rfl (SL.asg (.r rfl) rfl (SL.asg (.r rfl) rfl (SL.nx (SX.ret (SQ.thnR ?_))))))
 exact SQ.fret (res2 rfl rfl rfl) (ret_of (M:=[]) ⟨rfl,rfl⟩ fun _ h=>h.skip [_,_])
 have he:f.2=0:=by simpa using hc1
 have hok:=find_ok (l:=l) (g:=h.gen) (by rw [hf];exact he)
 rw [hf] at hok
 refine SX.skip (SQ.thn (SX.sr (SL.mv (.r rfl) rfl ?_)))
 refine SL.call (vs:=[_]) (Hin:=[]) (.r rfl) rfl ⟨rfl,trivial⟩ cal107 rfl rfl (c_padR s hn) ?_
 rintro _ _ ⟨rfl,rfl⟩
 refine ⟨trivial,?_⟩
 refine SL.mv (.r rfl) rfl (SL.ext (.r rfl) rfl rfl (SL.ext (.r rfl) rfl rfl (SL.asg (.r rfl) rfl (SL.asg (.r rfl) rfl (SL.nx (SX.seq (SX.sr (SL.mv (.r rfl) rfl (SL.bin (.r rfl) rfl rfl Bin.neI (SL.nx ?_))))))))))
 refine SX.cond rfl (fun hc2=>?_) (fun hc2=>?_)
 have h1:198<s.length:=by
  unfold padR at hc2
  split at hc2
  assumption
  simp at hc2
 have hs:sealA T l h s=([],50):=by unfold sealA;rw [hf,if_neg (by simp [he]),if_pos h1]
 have hp:padR s=([],50):=by unfold padR;rw [if_pos h1]
 rw [hs,hp]
 refine SX.sr (SL.mv (.r rfl) rfl (SL.asg (.r rfl) rfl (SL.asg (.r rfl) rfl (SL.nx (SX.ret (SQ.thnR ?_))))))
 exact SQ.fret (res2 rfl rfl rfl) (ret_of (M:=[]) ⟨rfl,rfl⟩ fun _ h=>h.skip [_,_])
 have h1:¬198<s.length:=by
  intro h1
  unfold padR at hc2
  rw [if_pos h1] at hc2
  simp at hc2
 have hp:padR s=(padA s,0):=by unfold padR;rw [if_neg h1]
 have hpl:(padA s).length=200:=padA_length (by omega)
 have hbl:=boundA_length T f.1 h hpl
 have hsl1:=subA_length T f.1 sealW
 have hsl2:=subA_length T f.1 bindW
 have hs:sealA T l h s=(blkA T f.1 h s,0):=by unfold sealA;rw [hf,if_neg (by simp [he]),if_neg h1]
 rw [hs,hp]
 refine SX.skip (SQ.thn (SX.sr (SL.ldA (encKey f.1) (.r rfl) ag138 rfl rfl (cells_all 0 rfl) ?_)))
 refine SL.call (vs:=[_]) (Hin:=[]) (.r rfl) rfl ⟨rfl,trivial⟩ cal108 rfl rfl (c_subsR T f.1 hT hok.2.2.2) ?_
 rintro _ _ ⟨rfl,rfl⟩
 refine ⟨trivial,?_⟩
 refine SL.mv (.r rfl) rfl (SL.ext (.r rfl) rfl rfl (SL.ext (.r rfl) rfl rfl (SL.ext (.r rfl) rfl rfl (SL.asg (.r rfl) rfl (SL.asg (.r rfl) rfl (SL.asg (.r rfl) rfl (SL.nx (SX.sr (SL.mv (.r rfl) rfl ?_)))))))))
 refine SL.ldA (encHead h) (.r rfl) ag143 rfl rfl (cells_all 1 rfl) ?_
 refine SL.call (vs:=[_]) (Hin:=[]) (.r rfl) rfl ⟨rfl,trivial⟩ cal110 rfl rfl (c_seal_nonce h) ?_
 rintro _ _ ⟨rfl,rfl⟩
 refine ⟨trivial,?_⟩
 refine SL.mv (.r rfl) rfl ?_
 refine SL.call (vs:=[_,_,_]) (Hin:=[]) (.r rfl) rfl ⟨rfl,rfl,rfl,trivial⟩ cal109 rfl rfl (c_arx_Xor (subA T f.1 sealW) (nonceA h) (padA s) hsl1 (nonceA_length h) (by omega)) ?_
 rintro _ _ ⟨rfl,rfl⟩
 refine ⟨trivial,?_⟩
 refine SL.mv (.r rfl) rfl (SL.ext (.r rfl) rfl rfl (SL.ext (.r rfl) rfl rfl (SL.asg (.r rfl) rfl (SL.asg (.r rfl) rfl (SL.nx (SX.sr (SL.ldA (encHead h) (.r rfl) ag143 rfl rfl (cells_all 1 rfl) ?_)))))))
 refine SL.call (vs:=[_]) (Hin:=[]) (.r rfl) rfl ⟨rfl,trivial⟩ cal111 rfl rfl (c_seal_Put h) ?_
 rintro _ _ ⟨rfl,rfl⟩
 refine ⟨trivial,?_⟩
 refine SL.mv (.r rfl) rfl (SL.bin (.r rfl) rfl rfl (Bin.cat (by rw [putA_length,xorA_length];omega)) (SL.asg (.r rfl) rfl (SL.nx (SX.sr (SL.mv (.r rfl) rfl (SL.mv (.r rfl) rfl (SL.mv (.r rfl) rfl ?_)))))))
 refine SL.bsl [_] (.r rfl) ty22 sz9 ze9 ⟨rfl,trivial⟩ rfl rfl rfl (by simp [Value.cells]) rfl rfl (fun _=>trivial) fun b2=>?_
 refine SL.call (vs:=[_,_]) (Hin:=[_]) (.r rfl) rfl ⟨rfl,rfl,trivial⟩ cal112 rfl rfl (c_mac_Mac T (subA T f.1 bindW) [boundA T f.1 h (padA s)] b2 hT (by omega) (by simp;omega) (by simp)) ?_
 rintro _ _ ⟨rfl,rfl⟩
 refine ⟨trivial,?_⟩
 refine SL.bin (.r rfl) rfl rfl (Bin.cat (by rw [macA_length];have:=hbl;simp only [boundA] at this;omega)) ?_
 refine SL.asg (.r rfl) rfl (SL.asg (.r rfl) rfl (SL.nx (SX.ret ?_)))
 exact SQ.fret (res2 rfl rfl rfl) (ret_of (M:=[]) ⟨by simp [blkA,boundA],rfl⟩ fun _ h=>h.skip [_,_])

end Go.Proofs.YtkibffdipniemaaGreatDoor
