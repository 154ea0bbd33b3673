/- The texts S0, S1, S2, S3, S4, S5, S6, S7, S8, S9, S10, S11, S12, P1, P2, P0, P3, P4, P5, P6, P7, R0, S13, one behind the other: walks of the program, and plain laws of what it computes. Conditions: as each theorem says. -/
import Derived.RangeFuncRecord
import Derived.RangeFuncCalls
import Derived.OrdersIn
import Derived.OwnWalkIn
import Derived.KernelRfl
import Derived.Laws.Strings
import Derived.Lib.Strings
import Derived.Lib.FrozenHead2
import Derived.Maps.AppendAt
import Derived.Lib.Builder
import Derived.Lib.UnsafeStr
import Derived.Lib.MakeNoZero
import Derived.Laws.Externs
import Derived.Laws.BytesString
import Derived.Laws.CopyRow
import Derived.Laws.MakeOwn
import Derived.Test.YtpaohlmgfifebaaGreatDoorRows
import Derived.WalkKit
import Derived.ProofKit
import Derived.OpenShut
import Derived.Carry
import Derived.Deep.DeepHandedRow
import Derived.Deep.SlicePairs
import Derived.Lib.LaidTab
import Derived.Lib.SmallJoins
import Derived.Laws.StructEq

set_option linter.unusedVariables false
set_option linter.unusedSimpArgs false
set_option maxHeartbeats 4000000
set_option maxRecDepth 100000
namespace Go.Proofs.YtpaohlmgfifebaaGreatDoor
open Go
section
theorem E{α:Sort _}{a:α}: a = a := rfl
theorem zO{p : Prop}(h : p := by omega): p := h
theorem zS{p : Prop}(h : p := by simp): p := h
theorem zD{p : Prop}(h : p := by decide): p := h
theorem zK{p : Prop}(h : p := by kernel_rfl): p := h
theorem zT: True := trivial
abbrev zN: Value := .slice none 0 0
theorem zU{α : Sort _}: α → True := fun _ => trivial
theorem zV{α:Sort _}{β:Sort _}{f:α → β}(x : α): f x = f x := rfl
theorem zQ{p : Prop}(h : p := by simp; omega): p := h
theorem zX{p : Prop}(h : p := by simp[Value.cells]): p := h
theorem zW{p : Prop}(h : p := by first | (simp[Value.cells]; done) | (intro v hv; simp only[List.mem_cons, List.not_mem_nil, or_false]at hv; rcases hv with rfl <;> rfl)): p := h
theorem zI{α:Type _}{a b:α}(h : some a = some b): a = b := Option.some.inj h
theorem zt{p : Prop}[Decidable p](h : p): decide p = true := decide_eq_true h
theorem zf{p : Prop}[Decidable p](h : ¬p): decide p = false := decide_eq_false h
theorem CC{α : Sort _}(a b : α): cond true a b = a := rfl
theorem BZ{α : Sort _}(a b : α): cond false a b = b := rfl
def Fc:Option Nat→Fence
 | none=>Fence.wide
 | some l=>Fence.wide.inRound l
theorem N5:∀ro,(Fc ro).round=ro | none=>rfl | some _=>rfl
theorem PJ:∀ro f,(Fc ro).fn f | none,_=>trivial | some _,_=>trivial
theorem Qn:∀ro,(Fc ro).depth=none | none=>rfl | some _=>rfl
theorem SV{P:Program}{n:Nat}{f:FuncId}{args:Array Value}{w:World}{R:Ending→World→Prop}:∀ro,Calls P f args w R→CallsIn (Fc ro) n P f args w R
 | none,h=>callsIn_wide.2 h
 | some l,h=>CallsIn.inRound l (callsIn_wide.2 h)
theorem kM{P:Program}{n l:Nat}{f:FuncId}{tmps:Array Value}{x y:Code}{w:World}{R:Ending→World→Prop}:∀ro,RoundIn Fence.wide n P l f tmps x y w R→RoundIn (Fc ro) n P l f tmps x y w R
 | none,h=>h
 | some _,h=>h
abbrev Dg:=Exit→Act→World→Prop
def NP(Q:Dg):Dg
 | .panic _,_,_=>False
 | .outgrown,_,_=>False
 | e,a,w=>Q e a w
structure AX where
 foot:Nat→Prop
 holds:World→Prop
 loc:∀w w':World,(∀b,foot b→w'.heap[b]? = w.heap[b]?)→holds w→holds w'
def own(b:Nat)(o:Obj):AX:=⟨(·=b),fun w=>w.heap[b]? = some o,fun w w' h hw=>by rw[h _ rfl];exact hw⟩
structure HW(K:Nat→Prop)(w0:World)(H:List AX)(w:World):Prop where
 keep:∀b,K b→w.heap[b]? = w0.heap[b]?
 holds:∀c∈H,c.holds w
structure Bj(K:Nat→Prop)(w0:World)(H:List AX)(w:World):Prop where
 os:w.os=w0.os
 tape:w.tape=w0.tape
 output:w.output=w0.output
 size:w0.heap.size≤w.heap.size
 klt:∀b,K b→b<w0.heap.size
 keep:∀b,K b→w.heap[b]? = w0.heap[b]?
 holds:∀c∈H,c.holds w
 foot:∀c∈H,∀b,c.foot b→b<w.heap.size∧¬K b
 disj:H.Pairwise (fun c d=>∀b,c.foot b→¬d.foot b)
variable {K:Nat→Prop}{w0 w w':World}{H H' M:List AX}
theorem Bj.s(h:Bj K w0 H w):HW K w0 H w:=⟨h.keep,h.holds⟩
theorem HW.sub(h:HW K w0 H w)(hs:∀c∈M,c∈H):HW K w0 M w:=⟨h.keep,fun c hc=>h.holds c (hs c hc)⟩
theorem kN(w:World):Bj (· < w.heap.size) w [] w:=
 ⟨rfl,rfl,rfl,Nat.le_refl _,fun _ h=>h,fun _ _=>rfl,by simp,by simp,by simp⟩
theorem Bj.perm(h:Bj K w0 H w)(p:H.Perm H'):Bj K w0 H' w:=
 ⟨h.os,h.tape,h.output,h.size,h.klt,h.keep,fun c hc=>h.holds c (p.mem_iff.2 hc),fun c hc=>h.foot c (p.mem_iff.2 hc),
  p.pairwise h.disj (fun{_ _} hxy b hy hx=>hxy b hx hy)⟩
theorem Bj.sublist(h:Bj K w0 H w)(p:H'.Sublist H):Bj K w0 H' w:=
 ⟨h.os,h.tape,h.output,h.size,h.klt,h.keep,fun c hc=>h.holds c (p.subset hc),fun c hc=>h.foot c (p.subset hc),h.disj.sublist p⟩
theorem Bj.drew(h:Bj K w0 H w):Bj K w0 H { w with drawn:=w.drawn+1 }:=by
 refine⟨h.os,h.tape,h.output,h.size,h.klt,h.keep,fun c hc=>c.loc w _ (fun _ _=>rfl) (h.holds c hc),h.foot,h.disj⟩
theorem Bj.same(h:Bj K w0 H w)(h1:w'.os=w.os)(h2:w'.tape=w.tape)(h3:w'.output=w.output)(h4:w.heap.size≤w'.heap.size)
(h5:∀b,b<w.heap.size→w'.heap[b]? = w.heap[b]?):Bj K w0 H w':=
 ⟨h1.trans h.os,h2.trans h.tape,h3.trans h.output,Nat.le_trans h.size h4,h.klt,
  fun b hb=>(h5 b (Nat.lt_of_lt_of_le (h.klt b hb) h.size)).trans (h.keep b hb),
  fun c hc=>c.loc w _ (fun b hb=>h5 b (h.foot c hc b hb).1) (h.holds c hc),
  fun c hc b hb=>⟨Nat.lt_of_lt_of_le (h.foot c hc b hb).1 h4,(h.foot c hc b hb).2⟩,h.disj⟩
theorem Bj.cons(h:Bj K w0 H w){c:AX}{n:Nat}(_hn:n≤w.heap.size)(JU:∀d∈H,∀b,d.foot b→b<n)(hk:∀b,K b→b<n)(hc:c.holds w)(hf:∀b,c.foot b→n≤b∧b<w.heap.size):Bj K w0 (c::H) w:=by
 refine⟨h.os,h.tape,h.output,h.size,h.klt,h.keep,?_,?_,?_⟩
 intro d hd
 rcases List.mem_cons.1 hd with rfl | hd
 exact hc
 exact h.holds d hd
 intro d hd b hb
 rcases List.mem_cons.1 hd with rfl | hd
 exact⟨(hf b hb).2,fun hkb=>absurd (hk b hkb) (by have:=(hf b hb).1;omega)⟩
 exact h.foot d hd b hb
 refine List.pairwise_cons.2 ⟨fun d hd b hb hb'=>?_,h.disj⟩
 have:=JU d hd b hb'
 have:=(hf b hb).1
 omega
theorem Bj.kltw(h:Bj K w0 H w):∀b,K b→b<w.heap.size:=fun b hb=>Nat.lt_of_lt_of_le (h.klt b hb) h.size
theorem SC(w:World)(o:Obj)(b:Nat)(h:b<w.heap.size):(w.alloc o).heap[b]? = w.heap[b]? := by
 show(w.heap.push o)[b]? = _
 rw[Array.getElem?_push,if_neg zO]
theorem Bj.alloc(h:Bj K w0 H w)(o:Obj):Bj K w0 (own w.heap.size o::H) (w.alloc o):=by
 have h':Bj K w0 H (w.alloc o):=h.same rfl rfl rfl zS (fun b hb=>SC w o b hb)
 refine h'.cons (n:=w.heap.size) zS (fun d hd b hb=>(h.foot d hd b hb).1) h.kltw ?_ ?_
 show(w.heap.push o)[w.heap.size]? = some o
 simp
 intro b hb
 have:b=w.heap.size:=hb
 simp[this]
theorem Bj.turn{c d:AX}(h:Bj K w0 (c::H) w)(h1:w'.os=w.os)(h2:w'.tape=w.tape)(h3:w'.output=w.output)(h4:w.heap.size≤w'.heap.size)
(h5:∀b,b<w.heap.size→¬c.foot b→w'.heap[b]? = w.heap[b]?)(hd:d.holds w')(hf:∀b,d.foot b→(c.foot b∨w.heap.size≤b)∧b<w'.heap.size):Bj K w0 (d::H) w':=by
 have hp:=List.pairwise_cons.1 h.disj
 have hcf:=h.foot c (List.mem_cons_self ..)
 have hHf:∀e∈H,∀b,e.foot b→b<w.heap.size∧¬K b:=fun e he=>h.foot e (List.mem_cons_of_mem _ he)
 refine⟨h1.trans h.os,h2.trans h.tape,h3.trans h.output,Nat.le_trans h.size h4,h.klt,?_,?_,?_,?_⟩
 intro b hb
 exact(h5 b (h.kltw b hb) (fun hc=>(hcf b hc).2 hb)).trans (h.keep b hb)
 intro e he
 rcases List.mem_cons.1 he with rfl | he
 exact hd
 exact e.loc w _ (fun b hb=>h5 b (hHf e he b hb).1 (fun hc=>hp.1 e he b hc hb)) (h.holds e (List.mem_cons_of_mem _ he))
 intro e he b hb
 rcases List.mem_cons.1 he with rfl | he
 refine⟨(hf b hb).2,fun hk=>?_⟩
 rcases(hf b hb).1 with hc | hc
 exact(hcf b hc).2 hk
 have:=h.kltw b hk;omega
 exact⟨Nat.lt_of_lt_of_le (hHf e he b hb).1 h4,(hHf e he b hb).2⟩
 refine List.pairwise_cons.2 ⟨fun e he b hb hb'=>?_,hp.2⟩
 rcases(hf b hb).1 with hc | hc
 exact hp.1 e he b hc hb'
 have:=(hHf e he b hb').1;omega
theorem Bj.put{b:Nat}{o o':Obj}(h:Bj K w0 (own b o::H) w):Bj K w0 (own b o'::H) (w.putObj b o'):=by
 have hb:b<w.heap.size:=(h.foot _ (List.mem_cons_self ..) b rfl).1
 refine h.turn rfl rfl rfl zS (fun k hk hne=>World.putObj_heap_other hne) (World.putObj_heap_same hb) (fun k hk=>⟨.inl hk,?_⟩)
 have:k=b:=hk
 simp[this,hb]
def pick(is:List Nat)(k:Nat)(H:List AX):List AX:=is.filterMap (H[·]?)++H.drop k
theorem Ws:∀(is:List Nat) (k:Nat) (H:List AX),is.Nodup→(∀i∈is,i<k)→∃H',(pick is k H).Perm H'∧H'.Sublist H:=by
 intro is k H hn hk
 have h1:(is.filterMap (H[·]?)).Perm ((List.range k).filter (·∈is) |>.filterMap (H[·]?)):=by
  refine List.Perm.filterMap _ ?_
  rw[List.perm_ext_iff_of_nodup hn (List.nodup_range.filter _)]
  intro a
  simp
  exact fun h=>hk a h
 refine⟨_,h1.append_right _,?_⟩
 have h2:∀(k:Nat) (H:List AX) (p:Nat→Bool),(((List.range k).filter p).filterMap (H[·]?)).Sublist (H.take k):=by
  intro k
  induction k with
  | zero=>intro H p;simp
  | succ k ih=>
   intro H p
   rw[List.range_succ,List.filter_append,List.filterMap_append]
   rw[List.take_add_one]
   refine(ih H p).append ?_
   simp only[List.filter_cons,List.filter_nil]
   split
   cases h:H[k]? <;> simp[h]
   simp
 have h3:=(h2 k H (fun i=>decide (i∈is))).append (List.Sublist.refl (H.drop k))
 rw[List.take_append_drop]at h3
 exact h3
theorem Bj.pick(h:Bj K w0 (H++M) w)(is:List Nat)(k:Nat)(hn:(decide is.Nodup&&is.all (· < k))=true):Bj K w0 (pick is k H++M) w:=by
 simp only[Bool.and_eq_true,decide_eq_true_eq,List.all_eq_true]at hn
 obtain⟨H1,hp,hs⟩:=Ws is k H hn.1 hn.2
 exact(h.sublist (hs.append (List.Sublist.refl M))).perm (hp.symm.append_right M)
abbrev Tm:=List (Nat×Value)
def look:Tm→Nat→Option Value
 | [],_=>none
 | (t,v)::r,k=>bif Nat.beq t k then some v else look r k
def Bo(l:Tm):Operand→Option Value
 | .tmp t=>look l t
 | .const v=>some v
 | .global g=>some (.pointer (some ⟨g,0,none⟩))
 | .func f=>some (.func (.func f) #[] #[])
def d6(b:Nat):Deferred:={ target:=.collected b,args:=#[] }
def LU(l:Tm)(a:Act):Prop:=∀t v,look l t=some v→a.tmps[t]? = some v
structure N8(N:Nat)(D:List Nat)(l:Tm)(a:Act):Prop where
 size:a.tmps.size=N
 defers:a.defers=D.map d6
 vals:LU l a
def Ty:Tm→Tm→Prop
 | [],_=>True
 | (t,v)::r,l=>look l t=some v∧Ty r l
theorem tL{l' l:Tm}(h:Ty l' l:=by repeat' (first | exact trivial | refine And.intro rfl ?_)):Ty l' l:=h
variable {N:Nat}{D:List Nat}{l l':Tm}{a:Act}
theorem Ty.look:∀ {l' l:Tm},Ty l' l→∀t v,look l' t=some v→look l t=some v
 | [],l,_,t,v,h=>by simp[Go.Proofs.YtpaohlmgfifebaaGreatDoor.look]at h
 | (s,u)::r,l,hle,t,v,h=>by
  simp only[Go.Proofs.YtpaohlmgfifebaaGreatDoor.look]at h
  cases hb:Nat.beq s t with
  | true=>
   rw[hb]at h
   simp at h
   have:s=t:=Nat.eq_of_beq_eq_true hb
   subst this;subst h
   exact hle.1
  | false=>
   rw[hb]at h
   exact Ty.look hle.2 t v h
theorem LU.mono(h:LU l a)(hle:Ty l' l):LU l' a:=fun t v hv=>h t v (hle.look t v hv)
theorem N8.mono(h:N8 N D l a)(hle:Ty l' l):N8 N D l' a:=⟨h.size,h.defers,h.vals.mono hle⟩
theorem LU.eval(h:LU l a):∀ {x:Operand} {v:Value},Bo l x=some v→a.eval x=v
 | .tmp t,v,hv=>by
  have:=h t v hv
  simp[Act.eval,this]
 | .const _,_,hv=>by simpa[Bo,Act.eval]using hv
 | .global _,_,hv=>by simpa[Bo,Act.eval]using hv
 | .func _,_,hv=>by simpa[Bo,Act.eval]using hv
theorem N8.put(h:N8 N D l a){t:Nat}(ht:t<N)(v:Value):N8 N D ((t,v)::l) (a.put (some t) v):=by
 refine⟨?_,?_,?_⟩
 simp[Act.put,h.size]
 simp[Act.put,h.defers]
 intro s u hu
 simp only[Go.Proofs.YtpaohlmgfifebaaGreatDoor.look]at hu
 cases hb:Nat.beq t s with
 | true=>
  rw[hb]at hu
  have hts:t=s:=Nat.eq_of_beq_eq_true hb
  subst hts
  simp at hu
  subst hu
  simp[Act.put,h.size,ht]
 | false=>
  rw[hb]at hu
  have hts:t≠s:=fun e=>by subst e;simp at hb
  simp only[Act.put]
  rw[Array.getElem?_setIfInBounds_ne hts]
  exact h.vals s u hu
section op
variable {P:Program}{ro:Option Nat}{o:Oper}{next:Act→World→Prop}{Q:Dg}{v:Value}
theorem LM(hop:∀c,o.op≠.defer c)(h:(execOp a.eval o).run P w=.ok (.value v) w')(hn:next (a.put o.dst v) w'):o.wpIn (Fc ro) 0 P a w next Q:=by
 refine⟨fun f _=>PJ _ _,?_⟩
 rw[N5,Oper.semAt_eq _ _ _ hop,h]
 exact hn
theorem rf(hop:∀c,o.op≠.defer c)(h:(execOp a.eval o).run P w=.ok .skip w')(hn:next (a.put o.dst undef) w'):o.wpIn (Fc ro) 0 P a w next Q:=by
 refine⟨fun f _=>PJ _ _,?_⟩
 rw[N5,Oper.semAt_eq _ _ _ hop,h]
 exact hn
theorem o9{f:FuncId}{args:Array Value}(hop:∀c,o.op≠.defer c)(h:(execOp a.eval o).run P w=.ok (.enter f args) w')
(hc:Calls P f args w' fun e w''=>∃v,e=.returned v∧next (a.put o.dst v) w''):o.wpIn (Fc ro) 0 P a w next Q:=by
 refine⟨fun f _=>PJ _ _,?_⟩
 rw[N5,Oper.semAt_eq _ _ _ hop,h]
 refine⟨fun hd=>by simp[Qn]at hd,SV ro (hc.mono ?_)⟩
 rintro e w'' ⟨v,rfl,hn⟩
 exact hn
theorem pA{i:Nat}{f:FuncId}{tmps:Array Value}{x y:Code}(hop:∀c,o.op≠.defer c)(h:(execOp a.eval o).run P w=.ok (.round i f tmps x y) w')
(hc:RoundIn Fence.wide 0 P i f tmps x y w' fun e w''=>∃v,e=.returned v∧next (a.put o.dst v) w''):o.wpIn (Fc ro) 0 P a w next Q:=by
 refine⟨fun f _=>PJ _ _,?_⟩
 rw[N5,Oper.semAt_eq _ _ _ hop,h]
 refine⟨fun hd=>by simp[Qn]at hd,kM ro (hc.mono ?_)⟩
 rintro e w'' ⟨v,rfl,hn⟩
 exact hn
end op
end

section
section ao
variable {P:Program}{ro:Option Nat}{ops:Array Oper}{Q:Dg}{S:World→Prop}
def YS(P:Program)(ops:Array Oper)(S:World→Prop)(o:Oper)(v:Value)(a:Act):Prop:=
 (Region.wanted o (yielded ops a.tmps)=true∧∀w,S w→(execOp a.eval o).run P w=.ok (.value v) w)∨
 (Region.wanted o (yielded ops a.tmps)=false∧v=undef)
theorem YS.of_same{o:Oper}{v:Value}{a a':Act}(hy:YS P ops S o v a)(he:execOp a'.eval o=execOp a.eval o)
(hw:Region.wanted o (yielded ops a'.tmps)=Region.wanted o (yielded ops a.tmps)):YS P ops S o v a':=by
 unfold YS at*
 rw[he,hw]
 exact hy
def wpI(P:Program)(ro:Option Nat)(ops:Array Oper)(Q:Dg)(i:Nat)(K:Act→World→Prop)(a:Act)(w:World):Prop:=
 wpOpIn (Fc ro) 0 P ops (NP Q) i K a w
def AO(P:Program)(ro:Option Nat)(ops:Array Oper)(Q:Dg)(S:World→Prop)(s:Nat):Nat→Array Bool→Act→World→Prop
 | 0,listed,a,w=>Region.ready .any ops listed=[]∧Q .normal a w
 | fuel+1,listed,a,w=>
  (Region.ready .any ops listed=[]→Q .normal a w)∧
  ∀i∈Region.ready .any ops listed,wpI P ro ops Q i (fun a' w'=>((listed.setIfInBounds i true).getD s false=false→S w')∧AO P ro ops Q S s fuel (listed.setIfInBounds i true) a' w') a w
theorem AO.any{s:Nat}:∀(fuel:Nat) (listed:Array Bool) (a:Act) (w:World),AO P ro ops Q S s fuel listed a w→wpAnyIn (Fc ro) 0 P .any ops (NP Q) fuel listed a w
 | 0,_,_,_,h=>h
 | fuel+1,_,_,_,h=>⟨h.1,fun i hi=>wpOpIn_mono (fun a' w' h'=>AO.any fuel _ a' w' h'.2) (h.2 i hi)⟩
theorem YS.wpI{i:Nat}{o:Oper}{v:Value}{a:Act}(hi:ops[i]? = some o)(hnd:∀c,o.op≠.defer c)(hy:YS P ops S o v a)
{K:Act→World→Prop}{w:World}(hS:S w)(h:K (a.put o.dst v) w):wpI P ro ops Q i K a w:=by
 unfold Go.Proofs.YtpaohlmgfifebaaGreatDoor.wpI wpOpIn
 simp only[hi]
 rcases hy with⟨hw,hv⟩ | ⟨hw,rfl⟩
 simp only[hw,if_true]
 exact LM hnd (hv w hS) h
 simp only[hw,Bool.false_eq_true,if_false]
 exact⟨fun f _=>PJ _ _,h⟩
theorem se{j:Nat}{oi oj:Oper}{v:Value}(hj:ops[j]? = some oj)(hap:oi.apart ops oj=true)
(hsi:∀cs b,oi.op≠.select cs b)(hsj:∀cs b,oj.op≠.select cs b)(hdj:∀c,oj.op≠.defer c)
{K:Act→World→Prop}{a:Act}{w:World}
(hy:YS P ops S oi v a)(h:wpI P ro ops Q j K (a.put oi.dst v) w):
  wpI P ro ops Q j (fun a' w'=>YS P ops S oi v a'∧K (a'.put oi.dst v) w') a w:=by
 obtain⟨h1,h2,h3⟩:=Oper.apart_spec hap
 have keep:∀(a:Act),YS P ops S oi v a→∀u,YS P ops S oi v (a.put oj.dst u):=fun a hy u=>
  hy.of_same (execOp_put oi hsi a oj.dst u h3) (wanted_put oi a oj.dst u h3)
 have keepD:∀d,YS P ops S oi v { a with defers:=d::a.defers }:=fun d=>hy.of_same rfl rfl
 unfold wpI wpOpIn at*
 simp only[hj]at*
 rw[wanted_put oj a oi.dst v h1]at h
 split
 rename_i hw
 simp only[hw,if_true]at h
 unfold Oper.wpIn at*
 refine⟨fun f _=>PJ _ _,?_⟩
 have h:=h.2
 rw[Oper.semAt_eq _ _ _ hdj,execOp_put oj hsj a oi.dst v h1]at h
 rw[Oper.semAt_eq _ _ _ hdj]
 generalize (execOp a.eval oj).run P w=r at*
 cases r with
 | ok x w'=>
  cases x<;>simp only[Oper.uponIn]at h ⊢
  case value u=>exact⟨keep a hy u,by rw[←Act.put_comm a v u h2];exact h⟩
  case skip=>exact⟨keep a hy _,by rw[←Act.put_comm a v undef h2];exact h⟩
  case defer d=>
   refine⟨keep _ (keepD d) _,?_⟩
   rw[←Act.put_comm _ v undef h2,←Act.put_defers]
   exact h
  case enter f args=>
   refine⟨h.1,CallsIn.mono h.2 fun e w'' he=>?_⟩
   cases e with
   | returned u=>exact⟨keep a hy u,by rw[←Act.put_comm a v u h2];exact he⟩
   | panicked c=>exact he
   | outgrown=>obtain⟨_,_,h⟩:=he;exact h.elim
  case row row args=>exact⟨h.1,RowsIn.mono h.2 fun u w'' he=>⟨keep a hy u,by rw[←Act.put_comm a v u h2];exact he⟩⟩
  case round l f tmps assign body=>
   refine⟨h.1,RoundIn.mono h.2 fun e w'' he=>?_⟩
   cases e with
   | returned u=>exact⟨keep a hy u,by rw[←Act.put_comm a v u h2];exact he⟩
   | panicked c=>exact he
   | outgrown=>obtain⟨_,_,h⟩:=he;exact h.elim
 | halt x w'=>
  cases x<;>simp only[Oper.uponIn]at h ⊢
  case panic u=>exact h
 rename_i hw
 simp only[hw]at h
 exact⟨fun f _=>PJ _ _,keep a hy _,by rw[←Act.put_comm a v undef h2];exact h.2⟩
theorem Nk{listed:Array Bool}{i s:Nat}(hne:i≠s):(listed.setIfInBounds i true).getD s false=listed.getD s false:=by
 simp only[Array.getD_eq_getD_getElem?,Array.getElem?_setIfInBounds_ne hne]
theorem AO.first{i s:Nat}{oi:Oper}{v:Value}(hi:ops[i]? = some oi)(hsel:∀(j:Nat) (o:Oper) cs b,ops[j]? = some o→o.op≠.select cs b)
(hdf:∀(j:Nat) (o:Oper) c,ops[j]? = some o→o.op≠.defer c)(hsi:i≠s){Bl:List Nat}(hB:∀k∈Bl,∀ok,ops[k]? = some ok→∃e∈ok.after,Region.binds .any e=true∧(e.on=i∨e.on∈Bl))(hz:s<ops.size→s∈Bl):
  ∀(fuel:Nat) (listed:Array Bool) (a:Act) (w:World),(∀k∈Bl,listed.getD k true=false)→
   (∀j oj,ops[j]? = some oj→j≠i→listed.getD j true=false→(∀e∈oj.after,Region.binds .any e=true→e.on≠i)→oi.apart ops oj=true)→listed.getD s false=false→
   i∈Region.ready .any ops listed→YS P ops S oi v a→S w→
   AO P ro ops Q S s fuel (listed.setIfInBounds i true) (a.put oi.dst v) w→AO P ro ops Q S s (fuel+1) listed a w:=by
 intro fuel
 induction fuel with
 | zero=>
  intro listed a w _ _ hls hr hy hS H
  refine⟨fun h=>(by rw[h]at hr;cases hr),fun j hj=>?_⟩
  by_cases hji:j=i
  subst hji;exact hy.wpI hi (fun c=>hdf _ _ c hi) hS ⟨fun _=>hS,H⟩
  have:=ready_mono hj hji
  rw[H.1]at this
  cases this
 | succ fuel ih=>
  intro listed a w hlk hfree hls hr hy hS H
  refine⟨fun h=>(by rw[h]at hr;cases hr),fun j hj=>?_⟩
  by_cases hji:j=i
  subst hji;exact hy.wpI hi (fun c=>hdf _ _ c hi) hS ⟨fun _=>hS,H⟩
  have h1:=H.2 j (ready_mono hj hji)
  obtain⟨hjun,oj,hoj,hall⟩:=mem_ready.1 hj
  have hnot:∀e∈oj.after,Region.binds .any e=true→e.on≠i:=fun e he hb heq=>by
   have h1:=hall e he hb
   have h0:=(mem_ready.1 hr).1
   rw[heq]at h1
   rcases Nat.lt_or_ge i listed.size with h' | h'
   simp[h']at h0 h1;rw[h0]at h1;cases h1
   simp[Array.getElem?_eq_none h']at h1
  have hjB:j∉Bl:=fun hin=>by
   obtain⟨e,he,hb,hon⟩:=hB j hin oj hoj
   rcases hon with hon | hon
   exact hnot e he hb hon
   have h1:=hall e he hb
   have h2:=hlk e.on hon
   rcases Nat.lt_or_ge e.on listed.size with h' | h'
   simp[h']at h1 h2;rw[h1]at h2;cases h2
   simp[Array.getElem?_eq_none h']at h1
  have hjs:j≠s:=fun e=>hjB (by subst e;exact hz (by obtain⟨h,_⟩:=Array.getElem?_eq_some_iff.1 hoj;exact h))
  have hlk':∀k∈Bl,(listed.setIfInBounds j true).getD k true=false:=fun k hk=>by
   have hjk:j≠k:=fun e=>hjB (e▸hk)
   rw[getD_set_ne true hjk];exact hlk k hk
  have hls':(listed.setIfInBounds j true).getD s false=false:=by rw[Nk hjs];exact hls
  have hls2:((listed.setIfInBounds i true).setIfInBounds j true).getD s false=false:=by rw[Nk hjs,Nk hsi];exact hls
  have h2:=se hoj (hfree j oj hoj hji hjun hnot) (fun cs b=>hsel i oi cs b hi) (fun cs b=>hsel j oj cs b hoj) (fun c=>hdf j oj c hoj) hy h1
  have hfree':∀k ok,ops[k]? = some ok→k≠i→(listed.setIfInBounds j true).getD k true=false→
    (∀e∈ok.after,Region.binds .any e=true→e.on≠i)→oi.apart ops ok=true:=fun k ok hk hki hun hno=>by
   refine hfree k ok hk hki ?_ hno
   by_cases hjk:j=k
   subst hjk;exact hjun
   rw[getD_set_ne true hjk]at hun;exact hun
  refine wpOpIn_mono (fun a' w' h3=>⟨fun _=>h3.2.1 hls2,ih (listed.setIfInBounds j true) a' w' hlk' hfree' hls' (ready_mono hr (Ne.symm hji)) h3.1 (h3.2.1 hls2) ?_⟩) h2
  rw[Array.setIfInBounds_comm _ _ hji]
  exact h3.2.2
end ao
def Yc(ops:Array Oper):Bool:=ops.all fun o => !(o.op matches .defer _)
theorem cC{ops:Array Oper}(h:Yc ops=true)(j:Nat)(o:Oper)(c:Call)(ho:ops[j]? = some o):o.op≠.defer c:=by
 intro e
 obtain⟨hj,rfl⟩:=Array.getElem?_eq_some_iff.1 ho
 have:=(Array.all_eq_true.1 h) j hj
 rw[e]at this
 simp at this
inductive I6 where
 | nil
 | cons (p:Bool×Oper) (r:I6)
 | alt (o:Oper) (r s:I6)
 | last (o:Oper) (r:I6)
def I6.all:List Oper→I6
 | []=>.nil
 | o::r=>.cons (false,o) (I6.all r)
def I6.drop:Nat→I6→I6
 | 0,i=>i
 | n+1,.cons _ r=>I6.drop n r
 | _,i=>i
def PL(P:Program)(ro:Option Nat)(ops:Array Oper)(Q:Dg)(S0:World→Prop):(World→Prop)→I6→Act→World→Prop
 | _,.nil,a,w=>Q .normal a w
 | S,.cons (true,o) r,a,w=>∃v,YS P ops S o v a∧PL P ro ops Q S0 S r (a.put o.dst v) w
 | S,.cons (false,o) r,a,w=>
  if Region.wanted o (yielded ops a.tmps)then o.wpIn (Fc ro) 0 P a w (fun a' w'=>S w'∧PL P ro ops Q S0 S r a' w') (NP Q)
  else PL P ro ops Q S0 S r (a.put o.dst undef) w
 | S,.alt o r s,a,w=>
  (if Region.wanted o (yielded ops a.tmps)then o.wpIn (Fc ro) 0 P a w (fun a' w'=>S w'∧PL P ro ops Q S0 S r a' w') (NP Q)
  else PL P ro ops Q S0 S r (a.put o.dst undef) w)∧PL P ro ops Q S0 S s a w
 | _S,.last o r,a,w=>S0 w∧
  if Region.wanted o (yielded ops a.tmps)then o.wpIn (Fc ro) 0 P a w (fun a' w'=>S0 w'∧PL P ro ops Q S0 S0 r a' w') (NP Q)
  else PL P ro ops Q S0 S0 r (a.put o.dst undef) w
inductive Pl where
 | nil
 | cons (p:Bool×Nat) (r:Pl)
 | alt (i:Nat) (r s:Pl)
 | last (i:Nat) (r:Pl)
def Bs:List (Bool×Nat)→Pl→Pl
 | [],s=>s
 | p::r,s=>.cons p (Bs r s)
def Pl.of(l:List (Bool×Nat)):Pl:=Bs l .nil
def Pl.heads:Pl→List Nat
 | .nil=>[]
 | .cons (_,i) _=>[i]
 | .alt i _ s=>i::s.heads
 | .last i _=>[i]
def Pl.end_(n:Nat):Pl→Nat
 | .nil=>n
 | .cons _ r=>r.end_ n
 | .alt _ r _=>r.end_ n
 | .last i _=>i
def sd(ops:Array Oper)(i:Nat):List Nat:=(List.range ops.size).foldl (fun B k=>if(ops[k]?).any (fun ok=>ok.after.any fun e=>Region.binds .any e&&(e.on==i||B.contains e.on))then k::B else B) []
def kE(ops:Array Oper)(i z:Nat)(listed:Array Bool)(B:List Nat):Bool:=
 B.contains z&&B.all fun k => !listed.getD k true&&((ops[k]?).all fun ok=>ok.after.any fun e=>Region.binds .any e&&(e.on==i||B.contains e.on))
def Ko(ops:Array Oper)(z:Nat):Pl→Nat→Array Bool→Bool→Bool
 | .nil,n,listed,chk=>chk&&(n==0)&&(Region.ready .any ops listed).isEmpty
 | .cons (true,i) r,n+1,listed,chk=>chk&&Region.free .any ops listed i&&(Region.ready .any ops listed).contains i&&(!listed.getD z false)&&(i != z)&&(decide (ops.size≤z)||kE ops i z listed (sd ops i))&&Ko ops z r n (listed.setIfInBounds i true) true
 | .cons (false,i) r,n+1,listed,chk=>(!chk||(Region.ready .any ops listed==[i]))&&Ko ops z r n (listed.setIfInBounds i true) true
 | .alt i r s,n+1,listed,chk=>(!chk||(Region.ready .any ops listed==i::s.heads))&&Ko ops z r n (listed.setIfInBounds i true) true&&Ko ops z s (n+1) listed false
 | .last i r,n+1,listed,chk=>chk&&(i==z)&&decide (i<ops.size)&&(listed.size==ops.size)&&(Region.ready .any ops listed==[i])&&Ko ops z r n (listed.setIfInBounds i true) true
 | _,0,_,_=>false
def NS(ops:Array Oper):Pl→I6
 | .nil=>.nil
 | .cons p r=>.cons (p.1,ops.getD p.2 default) (NS ops r)
 | .alt i r s=>.alt (ops.getD i default) (NS ops r) (NS ops s)
 | .last i r=>.last (ops.getD i default) (NS ops r)
theorem PL.turn{P:Program}{ro:Option Nat}{ops:Array Oper}{Q:Dg}{S S0:World→Prop}{i:Nat}{r:I6}{K:Act→World→Prop}{a:Act}{w:World}(hi:(ops[i]?).isSome=true)(hS:S w)(hk:∀a' w',S w'→PL P ro ops Q S0 S r a' w'→K a' w')
(h:PL P ro ops Q S0 S (.cons (false,ops.getD i default) r) a w):wpI P ro ops Q i K a w:=by
 obtain⟨oj,hoj⟩:=Option.isSome_iff_exists.1 hi
 have hg:ops.getD i default=oj:=by simp[Array.getD_eq_getD_getElem?,hoj]
 simp only[PL,hg]at h
 unfold wpI wpOpIn
 simp only[hoj]
 split
 rename_i hw
 rw[if_pos hw]at h
 exact Oper.wpIn_mono (fun a' w' h'=>hk a' w' h'.1 h'.2) h
 rename_i hw
 rw[if_neg hw]at h
 exact⟨fun f _=>PJ _ _,hk _ _ hS h⟩
theorem iK{P:Program}{ro:Option Nat}{ops:Array Oper}{Q:Dg}{S0:World→Prop}{z:Nat}{S1:World→Prop}(hs:Region.noSelect ops=true)(hd:Yc ops=true):
  ∀(plan:Pl) (n:Nat) (listed:Array Bool) (chk:Bool) (a:Act) (w:World) (S:World→Prop),(listed.getD z false=false→S=S1)→Ko ops z plan n listed chk=true→S w→
   PL P ro ops Q S0 S (NS ops plan) a w→(chk=true→AO P ro ops Q S1 z n listed a w)∧(chk=false→∀i∈plan.heads,i∈Region.ready .any ops listed→∀m,n=m+1→wpI P ro ops Q i (fun a' w'=>((listed.setIfInBounds i true).getD z false=false→S1 w')∧AO P ro ops Q S1 z m (listed.setIfInBounds i true) a' w') a w):=by
 have hmono:∀(listed:Array Bool) (i:Nat),(listed.setIfInBounds i true).getD z false=false→listed.getD z false=false:=by
  intro listed i h
  by_cases hi:i=z
  subst hi
  simp only[Array.getD_eq_getD_getElem?]at h ⊢
  rcases Nat.lt_or_ge i listed.size with h' | h'
  simp[h']at h
  simp[Array.getElem?_eq_none h']
  rw[Nk hi]at h;exact h
 intro plan
 induction plan with
 | nil=>
  intro n listed chk a w S hSS hp hS h
  simp only[Ko,Bool.and_eq_true,beq_iff_eq]at hp
  obtain⟨⟨hc,rfl⟩,hr⟩:=hp
  refine⟨fun _=>⟨by simpa using hr,h⟩,fun hf=>by rw[hc]at hf;cases hf⟩
 | cons p r ih=>
  obtain⟨tk,i⟩:=p
  intro n listed chk a w S hSS hp hS h
  cases n with
  | zero=>cases tk<;>simp[Ko]at hp
  | succ n=>
  cases tk with
  | true=>
   simp only[Ko,Bool.and_eq_true,Bool.not_eq_true',bne_iff_ne,ne_eq]at hp
   obtain⟨⟨⟨⟨⟨⟨hc,hf⟩,hr⟩,hlz⟩,hiz⟩,haz⟩,hp⟩:=hp
   obtain rfl:=hSS hlz
   refine⟨fun _=>?_,fun hf=>by rw[hc]at hf;cases hf⟩
   obtain⟨v,hy,h⟩:=h
   have hm:i∈Region.ready .any ops listed:=by simpa using hr
   obtain⟨oi,hoi⟩:∃oi,ops[i]? = some oi:=by
    obtain⟨_,oj,hoj,_⟩:=mem_ready.1 hm
    exact⟨oj,hoj⟩
   have hg:ops.getD i default=oi:=by simp[Array.getD_eq_getD_getElem?,hoi]
   simp only[hg]at hy h
   have hgo:∀B:List Nat,(∀k∈B,∀ok,ops[k]? = some ok→∃e∈ok.after,Region.binds .any e=true∧(e.on=i∨e.on∈B))→(z<ops.size→z∈B)→(∀k∈B,listed.getD k true=false)→AO P ro ops Q S z (n+1) listed a w:=fun B h1 h2 h3=>
    AO.first hoi (Region.noSelect_spec hs) (fun j o c=>cC hd j o c) hiz h1 h2 _ listed a w h3 (Region.free_spec hoi hf) hlz hm hy hS ((ih _ _ _ _ _ _ zV hp hS h).1 rfl)
   simp only[Bool.or_eq_true,decide_eq_true_eq]at haz
   rcases haz with hz | hz
   exact hgo [] (fun k hk=>by cases hk) (fun h=>by omega) (fun k hk=>by cases hk)
   simp only[kE,Bool.and_eq_true,List.all_eq_true,Bool.not_eq_true']at hz
   obtain⟨hzc,hall⟩:=hz
   refine hgo (sd ops i) (fun k hk ok hok=>?_) (fun _=>by simpa using hzc) (fun k hk=>(hall k hk).1)
   have:=(hall k hk).2
   rw[hok]at this
   simp only[Option.all_some,Array.any_eq_true']at this
   obtain⟨e,he,hbe⟩:=this
   simp only[Bool.and_eq_true,Bool.or_eq_true,beq_iff_eq]at hbe
   exact⟨e,he,hbe.1,by rcases hbe.2 with h | h;exact .inl h;exact .inr (by simpa using h)⟩
  | false=>
   simp only[Ko,Bool.and_eq_true]at hp
   obtain⟨hr,hp⟩:=hp
   have key:i∈Region.ready .any ops listed→wpI P ro ops Q i (fun a' w'=>((listed.setIfInBounds i true).getD z false=false→S1 w')∧AO P ro ops Q S1 z n (listed.setIfInBounds i true) a' w') a w:=fun hm=>by
    obtain⟨_,oj,hoj,_⟩:=mem_ready.1 hm
    exact PL.turn (by simp[hoj]) hS (fun a' w' hS' h'=>⟨fun hl=>by rw[←hSS (hmono _ _ hl)];exact hS',(ih _ _ _ _ _ _ (fun hl=>hSS (hmono _ _ hl)) hp hS' h').1 rfl⟩) h
   refine⟨fun hc=>?_,fun _ j hj hm m hnm=>?_⟩
   subst hc
   simp only[Bool.not_true,Bool.false_or,beq_iff_eq]at hr
   refine⟨fun h0=>(by rw[hr]at h0;cases h0),fun j hj=>?_⟩
   rw[hr]at hj
   obtain rfl:j=i:=by simpa using hj
   exact key (by rw[hr];simp)
   obtain rfl:j=i:=by simpa[Pl.heads]using hj
   obtain rfl:n=m:=zO
   exact key hm
 | alt i r s ihr ihs=>
  intro n listed chk a w S hSS hp hS h
  cases n with
  | zero=>simp[Ko]at hp
  | succ n=>
  simp only[Ko,Bool.and_eq_true]at hp
  obtain⟨⟨hr,hp1⟩,hp2⟩:=hp
  obtain⟨h1,h2⟩:=h
  have key:i∈Region.ready .any ops listed→wpI P ro ops Q i (fun a' w'=>((listed.setIfInBounds i true).getD z false=false→S1 w')∧AO P ro ops Q S1 z n (listed.setIfInBounds i true) a' w') a w:=fun hm=>by
   obtain⟨_,oj,hoj,_⟩:=mem_ready.1 hm
   exact PL.turn (r:=NS ops r) (by simp[hoj]) hS (fun a' w' hS' h'=>⟨fun hl=>by rw[←hSS (hmono _ _ hl)];exact hS',(ihr _ _ _ _ _ _ (fun hl=>hSS (hmono _ _ hl)) hp1 hS' h').1 rfl⟩) h1
  have hrest:=(ihs _ _ _ _ _ _ hSS hp2 hS h2).2 rfl
  refine⟨fun hc=>?_,fun _ j hj hm m hnm=>?_⟩
  subst hc
  simp only[Bool.not_true,Bool.false_or,beq_iff_eq]at hr
  refine⟨fun h0=>(by rw[hr]at h0;cases h0),fun j hj=>?_⟩
  have hj':=hj
  rw[hr]at hj'
  rcases List.mem_cons.1 hj' with rfl | hjs
  exact key hj
  exact hrest j hjs hj n rfl
  obtain rfl:n=m:=zO
  rcases List.mem_cons.1 hj with rfl | hjs
  exact key hm
  exact hrest j hjs hm n rfl
 | last i r ih=>
  intro n listed chk a w S hSS hp hS h
  cases n with
  | zero=>simp[Ko]at hp
  | succ n=>
  simp only[Ko,Bool.and_eq_true,beq_iff_eq,decide_eq_true_eq]at hp
  obtain⟨⟨⟨⟨⟨hc,rfl⟩,hlt⟩,hsz⟩,hr⟩,hp⟩:=hp
  refine⟨fun _=>?_,fun hf=>by rw[hc]at hf;cases hf⟩
  refine⟨fun h0=>(by rw[hr]at h0;cases h0),fun j hj=>?_⟩
  rw[hr]at hj
  obtain rfl:j=i:=by simpa using hj
  have hl:(listed.setIfInBounds j true).getD j false=true:=by
   have:j<listed.size:=by rw[hsz];exact hlt
   simp[Array.getD_eq_getD_getElem?,this]
  obtain⟨hS0,h⟩:=h
  have h':PL P ro ops Q S0 S0 (.cons (false,ops.getD j default) (NS ops r)) a w:=by simpa only[PL]using h
  exact PL.turn (by simp[hlt]) hS0 (fun a' w' hS' h'=>⟨fun hf=>absurd (hl.symm.trans hf) zD,(ih _ _ _ _ _ _ (fun hf=>absurd (hl.symm.trans hf) zD) hp hS' h').1 rfl⟩) h'
def XI(ops:Array Oper)(plan:Pl):Bool:=
 Region.noSelect ops&&Yc ops&&Ko ops (plan.end_ ops.size) plan ops.size (Array.replicate ops.size false) true
theorem sf{P:Program}{ro:Option Nat}{ops:Array Oper}{Q:Dg}{S S0:World→Prop}{id:Nat}{a:Act}{w:World}(hm:P.follows .mixedOrders=true)
(plan:Pl)(hp:XI ops plan=true)
(hS:S { w with drawn:=w.drawn+1 })(h:PL P ro ops Q S0 S (NS ops plan) a { w with drawn:=w.drawn+1 }):
  (Code.region id ops true).wpIn (Fc ro) 0 P (NP Q) a w:=by
 simp only[XI,Bool.and_eq_true]at hp
 obtain⟨⟨hs,hd⟩,hp⟩:=hp
 refine wpIn_region_any hm ?_
 exact AO.any _ _ _ _ ((iK hs hd plan _ _ _ a _ S zV hp hS h).1 rfl)
theorem PL.list{P:Program}{ro:Option Nat}{ops:Array Oper}{Q:Dg}{S S0:World→Prop}:∀(l:List Oper) (a:Act) (w:World),
  PL P ro ops Q S0 S (I6.all l) a w→wpListIn (Fc ro) 0 P ops (NP Q) l a w
 | [],a,w,h=>h
 | o::r,a,w,h=>by
  simp only[I6.all,PL]at h
  unfold wpListIn
  split
  rename_i hw
  rw[if_pos hw]at h
  exact Oper.wpIn_mono (fun a' w' h'=>PL.list r a' w' h'.2) h
  rename_i hw
  rw[if_neg hw]at h
  exact⟨fun f _=>PJ _ _,PL.list r _ w h⟩
theorem sg{P:Program}{ro:Option Nat}{ops:Array Oper}{Q:Dg}{S S0:World→Prop}{id:Nat}{a:Act}{w:World}
(h:PL P ro ops Q S0 S (I6.all ops.toList) a w):(Code.region id ops false).wpIn (Fc ro) 0 P (NP Q) a w:=
 wpIn_region_list (PL.list _ a w h)
end

section
def Bf(D:List Nat):AX:=⟨(·∈D),fun w=>D.Nodup∧∀b∈D,w.heap[b]? = some (.deferred (some [])),
 fun _w _w' h hw=>⟨hw.1,fun b hb=>(h b hb).trans (hw.2 b hb)⟩⟩
section
variable (P:Program)(ro:Option Nat)(K:Nat→Prop)(w0:World)(N:Nat)
def SX(c:Code)(Q:Dg)(D:List Nat)(l:Tm)(H:List AX):Prop:=
 ∀a w,N8 N D l a→Bj K w0 (H++[Bf D]) w→c.wpIn (Fc ro) 0 P (NP Q) a w
def SQ(Q:Dg)(e:Exit)(D:List Nat)(l:Tm)(H:List AX):Prop:=
 ∀a w,N8 N D l a→Bj K w0 (H++[Bf D]) w→Q e a w
def SL(ops:Array Oper)(Hs:List AX)(items:I6)(Q:Dg)(D:List Nat)(l:Tm)(H:List AX):Prop:=
 ∀a w,N8 N D l a→Bj K w0 (H++[Bf D]) w→HW K w0 Hs w→PL P ro ops Q (HW K w0 []) (HW K w0 Hs) items a w
def thn(y:Code)(Q:Dg):Dg
 | .normal,a,w=>y.wpIn (Fc ro) 0 P (NP Q) a w
 | e,a,w=>Q e a w
def blk(id:Nat)(Q:Dg):Dg
 | .exit i,a,w=>if i=id then Q .normal a w else Q (.exit i) a w
 | e,a,w=>Q e a w
def scp(Q:Dg):Dg
 | .goto _,_,_=>False
 | e,a,w=>Q e a w
end
variable {P:Program}{ro:Option Nat}{K:Nat→Prop}{w0:World}{N:Nat}{Q:Dg}{D:List Nat}{l l':Tm}{H H' Hs:List AX}{ops:Array Oper}{items:I6}
theorem SX.mono{c:Code}(h:SX P ro K w0 N c Q D l' H)(hl:Ty l' l):SX P ro K w0 N c Q D l H:=
 fun a w ha hw=>h a w (ha.mono hl) hw
theorem SX.heap{c:Code}(h:SX P ro K w0 N c Q D l H')(hp:∀w,Bj K w0 (H++[Bf D]) w→Bj K w0 (H'++[Bf D]) w):SX P ro K w0 N c Q D l H:=
 fun a w ha hw=>h a w ha (hp w hw)
theorem SL.heap(h:SL P ro K w0 N ops Hs items Q D l H')(hp:∀w,Bj K w0 (H++[Bf D]) w→Bj K w0 (H'++[Bf D]) w):SL P ro K w0 N ops Hs items Q D l H:=
 fun a w ha hw hs=>h a w ha (hp w hw) hs
theorem SL.mono(h:SL P ro K w0 N ops Hs items Q D l' H)(hl:Ty l' l):SL P ro K w0 N ops Hs items Q D l H:=
 fun a w ha hw hs=>h a w (ha.mono hl) hw hs
theorem SL.pick(is:List Nat)(k:Nat)(h:SL P ro K w0 N ops Hs items Q D l (pick is k H))(hn:(decide is.Nodup&&is.all (· < k))=true:=by rfl):SL P ro K w0 N ops Hs items Q D l H:=
 fun a w ha hw hs=>h a w ha (hw.pick is k hn) hs
theorem SX.pick{c:Code}(is:List Nat)(k:Nat)(h:SX P ro K w0 N c Q D l (pick is k H))(hn:(decide is.Nodup&&is.all (· < k))=true:=by rfl):SX P ro K w0 N c Q D l H:=
 fun a w ha hw=>h a w ha (hw.pick is k hn)
theorem SQ.heap{e:Exit}(h:SQ K w0 N Q e D l H')(hp:∀w,Bj K w0 (H++[Bf D]) w→Bj K w0 (H'++[Bf D]) w):SQ K w0 N Q e D l H:=
 fun a w ha hw=>h a w ha (hp w hw)
theorem iW{φ:Prop}(hf:∀w,Bj K w0 (H++[Bf D]) w→φ)(h:φ→SL P ro K w0 N ops Hs items Q D l H):SL P ro K w0 N ops Hs items Q D l H:=
 fun a w ha hw hs=>h (hf w hw) a w ha hw hs
theorem AH{x y:Code}(h:SX P ro K w0 N x (thn P ro y Q) D l H):SX P ro K w0 N (.seq x y) Q D l H:=by
 intro a w ha hw
 refine wpIn_seq (wpIn_mono (h a w ha hw) ?_)
 intro e a w q
 cases e<;>exact q
theorem AJ{y:Code}(h:SX P ro K w0 N y Q D l H):SQ K w0 N (thn P ro y Q) .normal D l H:=h
theorem BC{y:Code}{id:Nat}(h:SQ K w0 N Q (.exit id) D l H):SQ K w0 N (Go.Proofs.YtpaohlmgfifebaaGreatDoor.thn P ro y Q) (.exit id) D l H:=h
theorem Aa{y:Code}(h:SQ K w0 N Q .ret D l H):SQ K w0 N (Go.Proofs.YtpaohlmgfifebaaGreatDoor.thn P ro y Q) .ret D l H:=h
theorem AN{id:Nat}{c:Code}(h:SX P ro K w0 N c (blk id Q) D l H):SX P ro K w0 N (.block id c) Q D l H:=by
 intro a w ha hw
 refine wpIn_block (wpIn_mono (h a w ha hw) ?_)
 intro e a w q
 cases e<;>exact q
theorem Av{id:Nat}(h:SQ K w0 N Q .normal D l H):SQ K w0 N (blk id Q) .normal D l H:=h
theorem BB{id:Nat}(h:SQ K w0 N Q .normal D l H):SQ K w0 N (Go.Proofs.YtpaohlmgfifebaaGreatDoor.blk id Q) (.exit id) D l H:=fun a w ha hw=>by
 simp only[Go.Proofs.YtpaohlmgfifebaaGreatDoor.blk,if_true];exact h a w ha hw
theorem Hc{id i:Nat}(h:SQ K w0 N Q (.exit i) D l H)(hi:Nat.beq i id=false:=by rfl):SQ K w0 N (Go.Proofs.YtpaohlmgfifebaaGreatDoor.blk id Q) (.exit i) D l H:=fun a w ha hw=>by
 have:i≠id:=fun e=>by subst e;simp at hi
 simp only[Go.Proofs.YtpaohlmgfifebaaGreatDoor.blk,if_neg this];exact h a w ha hw
theorem BI{id:Nat}(h:SQ K w0 N Q .ret D l H):SQ K w0 N (Go.Proofs.YtpaohlmgfifebaaGreatDoor.blk id Q) .ret D l H:=h
theorem AI(h:SQ K w0 N Q .normal D l H):SX P ro K w0 N .skip Q D l H:=fun a w ha hw=>wpIn_skip (h a w ha hw)
theorem K9{i:Nat}(h:SQ K w0 N Q .normal D l H):SX P ro K w0 N (.label i) Q D l H:=fun a w ha hw=>wpIn_label (h a w ha hw)
theorem A5{id:Nat}(h:SQ K w0 N Q (.exit id) D l H):SX P ro K w0 N (.exit id) Q D l H:=fun a w ha hw=>wpIn_exit (h a w ha hw)
theorem AK(h:SQ K w0 N Q .ret D l H):SX P ro K w0 N .ret Q D l H:=fun a w ha hw=>wpIn_ret (h a w ha hw)
theorem A7{c:Operand}{x y:Code}{b:Bool}(hc:Bo l c=some (.bool b))(ht:b=true→SX P ro K w0 N x Q D l H)(hf:b=false→SX P ro K w0 N y Q D l H):
  SX P ro K w0 N (.cond c x y) Q D l H:=
 fun a w ha hw=>wpIn_cond_split (ha.vals.eval hc) (fun e=>ht e a w ha hw) (fun e=>hf e a w ha hw)
theorem PK{c:Operand}{x y:Code}(hc:Bo l c=some (.bool true))(ht:SX P ro K w0 N x Q D l H):SX P ro K w0 N (.cond c x y) Q D l H:=
 A7 hc (fun _=>ht) (fun e=>by cases e)
theorem C1{c:Operand}{x y:Code}(hc:Bo l c=some (.bool false))(hf:SX P ro K w0 N y Q D l H):SX P ro K w0 N (.cond c x y) Q D l H:=
 A7 hc (fun e=>by cases e) (fun _=>hf)
section scope
variable {b:Frame}{a:Act}{k:List Item}{cs:List Frame}{w:World}
theorem Pu{c:Code}:step P (lone (b.atR a (.code (.scope c)::k)) cs w)=.next (lone (b.atR a (.code c::.inScope c::k)) cs w):=
 step_lone_go (by simp[stepG,stepG.exec,Frame.atR])
theorem Zp{c:Code}:step P (lone (b.atR a (.inScope c::k)) cs w)=.next (lone (b.atR a k) cs w):=
 step_lone_go (by simp[stepG,stepG.exec,Frame.atR])
end scope
theorem LA{c:Code}(h:SX P ro K w0 N c (scp Q) D l H):SX P ro K w0 N (.scope c) Q D l H:=by
 intro a w ha hw b k cs hro hb hr
 obtain⟨e,a₁,w₁,hq,harr⟩:=h a w ha hw b (.inScope c::k) cs hro hb hr
 have h0:(lone (b.atR a (.code (.scope c)::k)) cs w).fenced P (Fc ro):=fenced_calm hb hr rfl
 have hx:∀i,exitTo i (.inScope c::k)=exitTo i k:=fun i=>by simp[exitTo]
 cases e with
 | normal=>exact⟨.normal,a₁,w₁,hq,.head h0 Pu (StepsIn.trans harr (.one (fenced_calm hb hr rfl) Zp))⟩
 | exit id=>exact⟨.exit id,a₁,w₁,hq,fun k' hk=>.head h0 Pu (harr.1 k' (by rw[hx];exact hk)),
   fun hr' hk=>let ⟨k₁,h1,h2⟩:=harr.2 hr' (by rw[hx];exact hk);⟨k₁,h1,.head h0 Pu h2⟩⟩
 | goto _=>exact hq.elim
 | ret=>exact⟨.ret,a₁,w₁,hq,.of_steps (e:=.ret) (k:=k) (.one h0 Pu) harr⟩
 | panic _=>exact hq.elim
 | outgrown=>exact hq.elim
theorem mT(h:SQ K w0 N Q .normal D l H):SQ K w0 N (scp Q) .normal D l H:=h
theorem ES(h:SQ K w0 N Q .ret D l H):SQ K w0 N (Go.Proofs.YtpaohlmgfifebaaGreatDoor.scp Q) .ret D l H:=h
def lp{α:Type}(K:Nat→Prop)(w0:World)(N:Nat)(p:α→Prop)(I:α→Tm)(G:α→List AX)(m:α→Nat)(n:Nat)(Q:Dg):Dg
 | .normal,a,w=>∃y D,p y∧m y<n∧N8 N D (I y) a∧Bj K w0 (G y++[Bf D]) w
 | e,a,w=>Q e a w
theorem BK{α:Type}(p:α→Prop)(I:α→Tm)(G:α→List AX)(m:α→Nat){c:Code}
(round:∀x D,p x→SX P ro K w0 N c (lp K w0 N p I G m (m x) Q) D (I x) (G x))(x:α)(hx:p x):SX P ro K w0 N (.loop c) Q D (I x) (G x):=by
 intro a w ha hw b k cs hro hb hr
 have key:∀n x D a w,m x=n→p x→N8 N D (I x) a→Bj K w0 (G x++[Bf D]) w→
   ∃e a' w',NP Q e a' w'∧ArrivesIn (Machine.fenced P (Fc ro)) P (lone (b.atR a (.code c::.inLoop c::k)) cs w) b k cs e a' w':=by
  intro n
  induction n using Nat.strongRecOn with
  | _ n ih=>
   intro x D a w hn hp ha hw
   obtain⟨e,a₁,w₁,hq,harr⟩:=round x D hp a w ha hw b (.inLoop c::k) cs hro hb hr
   cases e with
   | normal=>
    obtain⟨y,D',hpy,hlt,ha',hw'⟩:=hq
    obtain⟨e₂,a₂,w₂,hq₂,harr₂⟩:=ih (m y) (hn▸hlt) y D' a₁ w₁ rfl hpy ha' hw'
    exact⟨e₂,a₂,w₂,hq₂,.of_steps (StepsIn.trans harr (.one (fenced_calm hb hr rfl) stepR_inLoop)) harr₂⟩
   | exit id=>exact⟨.exit id,a₁,w₁,hq,.pass (x:=.inLoop c) (e:=.exit id) rfl (fun _ _=>.inl zS) harr⟩
   | goto l=>exact⟨.goto l,a₁,w₁,hq,.pass (x:=.inLoop c) (e:=.goto l) rfl (fun _ _=>.inl zS) harr⟩
   | ret=>exact⟨.ret,a₁,w₁,hq,.pass (x:=.inLoop c) (e:=.ret) rfl (fun _ _=>.inl zS) harr⟩
   | panic ch=>exact hq.elim
   | outgrown=>exact hq.elim
 obtain⟨e,a',w',hq,harr⟩:=key _ x D a w rfl hx ha hw
 exact⟨e,a',w',hq,.of_steps (.one (fenced_calm hb hr rfl) stepR_loop) harr⟩
theorem A1{α:Type}{p:α→Prop}{I:α→Tm}{G:α→List AX}{m:α→Nat}{n:Nat}(y:α)(hp:p y)(hm:m y<n)(hl:Ty (I y) l)
(hH:∀w,Bj K w0 (H++[Bf D]) w→Bj K w0 (G y++[Bf D]) w:=by exact fun _ h=>h):SQ K w0 N (lp K w0 N p I G m n Q) .normal D l H:=
 fun _a w ha hw=>⟨y,D,hp,hm,ha.mono hl,hH w hw⟩
theorem Bb{α:Type}{p:α→Prop}{I:α→Tm}{G:α→List AX}{m:α→Nat}{n i:Nat}(h:SQ K w0 N Q (.exit i) D l H):SQ K w0 N (lp K w0 N p I G m n Q) (.exit i) D l H:=h
theorem EX{α:Type}{p:α→Prop}{I:α→Tm}{G:α→List AX}{m:α→Nat}{n:Nat}(h:SQ K w0 N Q .ret D l H):SQ K w0 N (lp K w0 N p I G m n Q) .ret D l H:=h
theorem AM{id:Nat}{ops:Array Oper}(h:SL P ro K w0 N ops [] (I6.all ops.toList) Q D l H):SX P ro K w0 N (.region id ops false) Q D l H:=
 fun a w ha hw=>sg (h a w ha hw ⟨hw.keep,by simp⟩)
theorem qB{id:Nat}{ops:Array Oper}(hm:P.follows .mixedOrders=true)(Hs:List AX)(plan:Pl)(hp:XI ops plan=true)(hs:∀c∈Hs,c∈H)
(h:SL P ro K w0 N ops Hs (NS ops plan) Q D l H):SX P ro K w0 N (.region id ops true) Q D l H:=
 fun a _w ha hw=>sf hm plan hp (hw.drew.s.sub fun c hc=>List.mem_append_left _ (hs c hc)) (h a _ ⟨ha.size,ha.defers,ha.vals⟩ hw.drew (hw.drew.s.sub fun c hc=>List.mem_append_left _ (hs c hc)))
theorem AZ(h:SQ K w0 N Q .normal D l H):SL P ro K w0 N ops Hs .nil Q D l H:=fun a w ha hw _=>h a w ha hw
theorem BU{o:Oper}{r:I6}(h:SL P ro K w0 N ops [] (.cons (false,o) r) Q D l H):SL P ro K w0 N ops Hs (.last o r) Q D l H:=fun a w ha hw hs=>by
 have h0:HW K w0 [] w:=hs.sub (fun _ hc=>by cases hc)
 exact⟨h0,h a w ha hw h0⟩
theorem OJ{o:Oper}{r s:I6}(h1:SL P ro K w0 N ops Hs (.cons (false,o) r) Q D l H)(h2:SL P ro K w0 N ops Hs s Q D l H):SL P ro K w0 N ops Hs (.alt o r s) Q D l H:=fun a w ha hw hs=>⟨h1 a w ha hw hs,h2 a w ha hw hs⟩
def aP:List Value→Nat→Tm
 | [],_=>[]
 | v::r,i=>(i,v)::aP r (i+1)
theorem ZG:∀(vs:List Value) (i t:Nat) (v:Value),look (aP vs i) t=some v→i≤t∧vs[t-i]? = some v
 | [],i,t,v,h=>by simp[aP,look]at h
 | u::r,i,t,v,h=>by
  simp only[aP,look]at h
  cases hb:Nat.beq i t with
  | true=>
   rw[hb]at h
   have:i=t:=Nat.eq_of_beq_eq_true hb
   subst this
   simp at h
   simp[h]
  | false=>
   rw[hb]at h
   obtain⟨h1,h2⟩:=ZG r (i+1) t v h
   refine⟨by omega,?_⟩
   have:t-i=(t-(i+1))+1:=zO
   rw[this]
   simpa using h2
def FP(P:Program)(fn:Func)(R:Ending→World→Prop):Dg:=bodyPostM Fence.wide 0 P fn R
def pf(K:Nat→Prop)(w0:World)(H:List AX)(post:Value→List AX→Prop):Ending→World→Prop:=
 fun e w'=>∃v M,e=.returned v∧post v M∧Bj K w0 (M++H) w'
def WN(P:Program)(K:Nat→Prop)(w0:World)(f:FuncId)(args:List Value)(Hin:List AX)(H:List AX)(post:Value→List AX→Prop):Prop:=
 ∀w,Bj K w0 (Hin++H) w→Calls P f args.toArray w (pf K w0 H post)
theorem Bj.marks0{w:World}(h:Bj K w0 H w):Bj K w0 (H++[Bf []]) w:=by
 refine⟨h.os,h.tape,h.output,h.size,h.klt,h.keep,?_,?_,?_⟩
 intro c hc
 rcases List.mem_append.1 hc with hc | hc
 exact h.holds c hc
 obtain rfl:c=Bf []:=by simpa using hc
 exact⟨List.nodup_nil,by simp⟩
 intro c hc b hb
 rcases List.mem_append.1 hc with hc | hc
 exact h.foot c hc b hb
 obtain rfl:c=Bf []:=by simpa using hc
 simp[Bf]at hb
 refine List.pairwise_append.2 ⟨h.disj,by simp,?_⟩
 intro c hc d hd b hb hb'
 obtain rfl:d=Bf []:=by simpa using hd
 simp[Bf]at hb'
theorem WN.enter{f:FuncId}{fn:Func}{c:Code}{args:List Value}{Hin:List AX}{post:Value→List AX→Prop}(hf:P.funcs[f]? = some fn)(hb:fn.body=some c)
(hn:Nat.ble args.length fn.ntmps=true)(h:SX P none K w0 fn.ntmps c (FP P fn (pf K w0 H post)) [] (aP args 0) (Hin++H)):WN P K w0 f args Hin H post:=by
 intro w hw
 refine(callsIn_wide (n:=0)).1 (callsIn_of_wp_marks hf hb trivial ?_ rfl)
 have hn':args.length≤fn.ntmps:=Nat.le_of_ble_eq_true hn
 refine wpIn_mono (h _ w ⟨?_,rfl,?_⟩ hw.marks0) ?_
 simp
 omega
 intro t v hv
 obtain⟨_,hv⟩:=ZG _ _ _ _ hv
 simp only[Nat.sub_zero]at hv
 have hlt:t<args.length:=by
  rcases Nat.lt_or_ge t args.length with h | h
  exact h
  rw[List.getElem?_eq_none h]at hv;cases hv
 rw[Array.getElem?_append_left (by simpa using hlt)]
 simpa using hv
 intro e a w q
 cases e<;>first | exact q | exact q.elim
theorem Bj.dropMarks{w:World}(h:Bj K w0 (H++[Bf D]) w):Bj K w0 H w:=h.sublist (List.sublist_append_left _ _)
theorem SD{fn:Func}{tmps:Array Value}{R:Ending→World→Prop}{v:Value}(hres:∀w,HW K w0 H w→(results fn tmps).run P w=.ok v w)(hR:∀w,Bj K w0 H w→R (.returned v) w):
  ∀(D:List Nat) (w:World),Bj K w0 (H++[Bf D]) w→LeavesInM Fence.wide 0 P fn tmps R (D.map d6) .returning w
 | [],w,hw=>⟨v,hres w hw.dropMarks.s,hR w hw.dropMarks⟩
 | b::D,w,hw=>by
  have hm:=hw.holds (Bf (b::D)) zS
  have hb:w.heap[b]? = some (.deferred (some [])):=hm.2 b (List.mem_cons_self ..)
  have hbs:b<w.heap.size:=(hw.foot (Bf (b::D)) zS b (List.mem_cons_self ..)).1
  refine⟨by simp,.inl ⟨b,_,rfl,run_takeDeferred hb,SD hres hR D _ ?_⟩⟩
  have hp:Bj K w0 (Bf (b::D)::H) w:=hw.perm List.perm_append_comm
  have hn:=List.nodup_cons.1 hm.1
  have ht:Bj K w0 (Bf D::H) (w.putObj b (.deferred none)):=by
   refine hp.turn rfl rfl rfl zS (fun k hk hne=>World.putObj_heap_other (fun e=>hne (by subst e;exact List.mem_cons_self ..))) ⟨hn.2,?_⟩ ?_
   intro k hk
   rw[World.putObj_heap_other (fun e=>hn.1 (by subst e;exact hk))]
   exact hm.2 k (List.mem_cons_of_mem _ hk)
   intro k hk
   refine⟨.inl (List.mem_cons_of_mem _ hk),?_⟩
   simp
   exact(hw.foot (Bf (b::D)) zS k (List.mem_cons_of_mem _ hk)).1
  exact ht.perm (List.perm_append_comm (l₁:=[Bf D]) (l₂:=H))
theorem An{fn:Func}{R:Ending→World→Prop}{v:Value}(hres:∀a w,LU l a→HW K w0 H w→(results fn a.tmps).run P w=.ok v w)(hR:∀w,Bj K w0 H w→R (.returned v) w):
  SQ K w0 N (FP P fn R) .ret D l H:=by
 intro a w ha hw
 show LeavesInM Fence.wide 0 P fn a.tmps R a.defers .returning w
 rw[ha.defers]
 exact SD (fun w hs=>hres a w ha.vals hs) hR D w hw
theorem Da{fn:Func}{R:Ending→World→Prop}{v:Value}(hres:∀a w,LU l a→HW K w0 H w→(results fn a.tmps).run P w=.ok v w)(hR:∀w,Bj K w0 H w→R (.returned v) w):
  SQ K w0 N (FP P fn R) .normal D l H:=by
 intro a w ha hw
 show LeavesInM Fence.wide 0 P fn a.tmps R a.defers .returning w
 rw[ha.defers]
 exact SD (fun w hs=>hres a w ha.vals hs) hR D w hw
theorem HZ{a:Act}(h:LU l a){t:Nat}{v:Value}(hv:look l t=some v):a.tmps.getD t undef=v:=by
 have:=h t v hv
 simp[Array.getD_eq_getD_getElem?,this]
theorem Ed{fn:Func}(hr:fn.results=#[]):∀a w,LU l a→HW K w0 H w→(results fn a.tmps).run P w=.ok (.tuple #[]) w:=by
 intro a w _ _
 simp[results,hr]
theorem Cx{fn:Func}{t:Nat}{v:Value}(hr:fn.results=#[.tmp t])(hv:look l t=some v):∀a w,LU l a→HW K w0 H w→(results fn a.tmps).run P w=.ok v w:=by
 intro a w ha _
 have:=HZ ha hv
 simp[results,hr,←this]
theorem C9{fn:Func}{t u:Nat}{v v':Value}(hr:fn.results=#[.tmp t,.tmp u])(hv:look l t=some v)(hv':look l u=some v'):∀a w,LU l a→HW K w0 H w→(results fn a.tmps).run P w=.ok (.tuple #[v,v']) w:=by
 intro a w ha _
 have h1:=HZ ha hv
 have h2:=HZ ha hv'
 simp[results,hr,←h1,←h2]
theorem VA{fn:Func}{t u s:Nat}{v v' v'':Value}(hr:fn.results=#[.tmp t,.tmp u,.tmp s])(hv:look l t=some v)(hv':look l u=some v')(hv'':look l s=some v''):∀a w,LU l a→HW K w0 H w→(results fn a.tmps).run P w=.ok (.tuple #[v,v',v'']) w:=by
 intro a w ha _
 have h1:=HZ ha hv
 have h2:=HZ ha hv'
 have h3:=HZ ha hv''
 simp[results,hr,←h1,←h2,←h3]
theorem Ao{post:Value→List AX→Prop}{v:Value}{M G:List AX}(hp:post v M)(hH:∀w,Bj K w0 G w→Bj K w0 (M++H) w):∀w,Bj K w0 G w→pf K w0 H post (.returned v) w:=
 fun w hw=>⟨v,M,rfl,hp,hH w hw⟩
theorem Bj.skip{w:World}(L:List AX)(h:Bj K w0 (L++H) w):Bj K w0 H w:=h.sublist (List.sublist_append_right _ _)
end

section
abbrev vI(x:Int):Value:=.int .i64 x
abbrev FE(x:UInt8):Value:=.int .u8 (x.toNat:Int)
abbrev AB(x:UInt32):Value:=.int .u32 (x.toNat:Int)
abbrev Be(x:UInt64):Value:=.int .u64 (x.toNat:Int)
abbrev vS(s:List UInt8):Value:=.string ⟨⟨s⟩⟩
abbrev vB(b:Bool):Value:=.bool b
abbrev vP(b off:Nat):Value:=.pointer (some ⟨b,off,none⟩)
def Tw(ops:Array Oper)(l:Tm)(o:Oper):Option Bool:=
 match o.guard with
 | none=>some true
 | some (j,want)=>
  match (ops[j]?).bind (·.dst)with
  | some s=>match look l s with
   | some (.bool b)=>some (b==want)
   | some (.tuple _)=>some false
   | _=>none
  | none=>none
variable {P:Program}{ro:Option Nat}{K:Nat→Prop}{w0:World}{N:Nat}{Q:Dg}{D:List Nat}{l l':Tm}{H H' Hs L:List AX}{ops:Array Oper}{items:I6}
theorem GX{o:Oper}{b:Bool}{a:Act}(h:Tw ops l o=some b)(ha:LU l a):Region.wanted o (yielded ops a.tmps)=b:=by
 unfold Tw at h
 unfold Region.wanted
 split at h
 rename_i hg
 rw[hg]
 simpa using h
 rename_i j want hg
 rw[hg]
 split at h
 rename_i s hs
 split at h
 rename_i c hc
 have:=ha s _ hc
 simp only[yielded,hs,Option.bind_some,this]
 simp at h
 cases c<;>cases want<;>simp_all
 rename_i c hc
 have:=ha s _ hc
 simp only[yielded,hs,Option.bind_some,this]
 simp at h
 cases want<;>simp_all
 cases h
 cases h
theorem JB{a b:Nat}(h:Nat.blt a b=true):a<b:=by simpa[Nat.blt_eq]using h
def At(ops : Array Oper)(N : Nat)(l : Tm)(o : Oper)(t : Nat)(op : Op): Prop := (o.op, o.dst, Nat.blt t N, Tw ops l o) = (op, some t, true, some true)
def At0(ops : Array Oper)(l : Tm)(o : Oper)(op : Op): Prop := (o.op, o.dst, Tw ops l o) = (op, none, some true)
section
variable {o : Oper}{t : Nat}{p : Op}
theorem At.op(h : At ops N l o t p): o.op = p := by
  simp only[At, Prod.mk.injEq]at h
  exact h.1
theorem At.dst(h : At ops N l o t p): o.dst = some t := by
  simp only[At, Prod.mk.injEq]at h
  exact h.2.1
theorem At.lt(h : At ops N l o t p): Nat.blt t N = true := by
  simp only[At, Prod.mk.injEq]at h
  exact h.2.2.1
theorem At.wt(h : At ops N l o t p): Tw ops l o = some true := by
  simp only[At, Prod.mk.injEq]at h
  exact h.2.2.2
theorem At0.op(h : At0 ops l o p): o.op = p := by
  simp only[At0, Prod.mk.injEq]at h
  exact h.1
theorem At0.dst(h : At0 ops l o p): o.dst = none := by
  simp only[At0, Prod.mk.injEq]at h
  exact h.2.1
theorem At0.wt(h : At0 ops l o p): Tw ops l o = some true := by
  simp only[At0, Prod.mk.injEq]at h
  exact h.2.2
end
def Xw:Op→Bool
 | .defer _=>true
 | _=>false
theorem GW{op:Op}(h:Xw op=false)(c:Call):op≠.defer c:=by rintro rfl;cases h
theorem SL.val{tk:Bool}{o:Oper}{t:Nat}{op:Op}{v:Value}(ho:At ops N l o t op)(hnd:Xw op=false)
(hq:∀a w,LU l a→HW K w0 (bif tk then Hs else H) w→(execOp a.eval o).run P w=.ok (.value v) w)
(h:SL P ro K w0 N ops Hs items Q D ((t,v)::l) H):SL P ro K w0 N ops Hs (.cons (tk,o) items) Q D l H:=by
 intro a w ha hw hs
 have hw1:=GX ho.wt ha.vals
 have hlt:t<N:=JB ho.lt
 have hput:N8 N D ((t,v)::l) (a.put o.dst v):=by rw[ho.dst];exact ha.put hlt v
 cases tk with
 | true=>exact⟨v,.inl ⟨hw1,fun w' hs'=>hq a w' ha.vals hs'⟩,h _ w hput hw hs⟩
 | false=>
  simp only[PL,hw1,if_true]
  refine LM (by rw[ho.op];exact GW hnd) (hq a w ha.vals (hw.dropMarks.s)) ⟨hs,h _ w hput hw hs⟩
theorem pp{tk:Bool}{o:Oper}{t:Nat}(hd:o.dst=some t)(hlt:Nat.blt t N=true)(hwt:Tw ops l o=some false)
(h:SL P ro K w0 N ops Hs items Q D ((t,undef)::l) H):SL P ro K w0 N ops Hs (.cons (tk,o) items) Q D l H:=by
 intro a w ha hw hs
 have hw1:=GX hwt ha.vals
 have hput:N8 N D ((t,undef)::l) (a.put o.dst undef):=by rw[hd];exact ha.put (JB hlt) undef
 cases tk with
 | true=>exact⟨undef,.inr ⟨hw1,rfl⟩,h _ w hput hw hs⟩
 | false=>
  simp only[PL,hw1,Bool.false_eq_true,if_false]
  exact h _ w hput hw hs
theorem Qo(t:Nat){b:Bool}(hb:look l t=some (.bool b))(ht:b=true→SL P ro K w0 N ops Hs items Q D ((t,.bool true)::l) H)
(hf:b=false→SL P ro K w0 N ops Hs items Q D ((t,.bool false)::l) H):SL P ro K w0 N ops Hs items Q D l H:=by
 have aux:∀l₁:Tm,(∀s v,look l₁ s=some v→look l s=some v)→SL P ro K w0 N ops Hs items Q D l₁ H→SL P ro K w0 N ops Hs items Q D l H:=
  fun l₁ hl h a w ha hw hs=>h a w ⟨ha.size,ha.defers,fun s v hv=>ha.vals s v (hl s v hv)⟩ hw hs
 have key:∀c:Bool,b=c→∀s v,look ((t,.bool c)::l) s=some v→look l s=some v:=by
  rintro c rfl s v hv
  simp only[look]at hv
  cases he:Nat.beq t s with
  | true=>
   rw[he]at hv
   have:t=s:=Nat.eq_of_beq_eq_true he
   subst this
   rw[hb]
   simpa using hv
  | false=>rw[he]at hv;simpa using hv
 cases b with
 | true=>exact aux _ (key true rfl) (ht rfl)
 | false=>exact aux _ (key false rfl) (hf rfl)
section regs
variable {tk:Bool}{o:Oper}{t:Nat}{v:Value}{x y z:Operand}
theorem wg(ho:At ops N l o t (.move x))(hx:Bo l x=some v)(h:SL P ro K w0 N ops Hs items Q D ((t,v)::l) H):SL P ro K w0 N ops Hs (.cons (tk,o) items) Q D l H:=
 SL.val ho rfl (fun a w ha _=>by simp only[execOp,ho.op,ha.eval hx,Sem.run_pure]) h
theorem mN(ho:At ops N l o t (.assign x))(hx:Bo l x=some v)(h:SL P ro K w0 N ops Hs items Q D ((t,v)::l) H):SL P ro K w0 N ops Hs (.cons (tk,o) items) Q D l H:=
 SL.val ho rfl (fun a w ha _=>by simp only[execOp,ho.op,ha.eval hx,Sem.run_pure]) h
theorem Ag{b:Bool}(ho:At ops N l o t (.pick x y z))(hx:Bo l x=some (.bool b))(hy:Bo l (bif b then y else z)=some v)(h:SL P ro K w0 N ops Hs items Q D ((t,v)::l) H):SL P ro K w0 N ops Hs (.cons (tk,o) items) Q D l H:=
 SL.val ho rfl (fun a w ha _=>by
  have h1:=ha.eval hx
  have h2:=ha.eval hy
  cases b<;>simp_all[execOp,asBool,ho.op]) h
theorem Ah{vs:Array Value}{i:Nat}(ho:At ops N l o t (.extract x i))(hx:Bo l x=some (.tuple vs))(hi:vs[i]? = some v)(h:SL P ro K w0 N ops Hs items Q D ((t,v)::l) H):SL P ro K w0 N ops Hs (.cons (tk,o) items) Q D l H:=
 SL.val ho rfl (fun a w ha _=>by simp[execOp,ho.op,Instr.extract,ha.eval hx,hi]) h
theorem HK{fn:Fn}{fs cs:Array Operand}{fv cv:Array Value}(ho:At ops N l o t (.makeFunc fn fs cs))(hf:fs.toList.map (Bo l)=fv.toList.map some)(hc:cs.toList.map (Bo l)=cv.toList.map some)
(h:SL P ro K w0 N ops Hs items Q D ((t,.func fn fv cv)::l) H):SL P ro K w0 N ops Hs (.cons (tk,o) items) Q D l H:=
 SL.val ho rfl (fun a w ha _=>by
  have key:∀(xs:List Operand) (vs:List Value),xs.map (Bo l)=vs.map some→xs.map a.eval=vs:=by
   intro xs
   induction xs with
   | nil=>intro vs hv;cases vs<;>simp_all
   | cons x xs ih=>
    intro vs hv
    cases vs with
    | nil=>simp at hv
    | cons u us=>
     simp only[List.map_cons,List.cons.injEq]at hv ⊢
     exact⟨ha.eval hv.1,ih us hv.2⟩
  have h1:fs.map a.eval=fv:=by
   apply Array.ext'
   simpa using key _ _ hf
  have h2:cs.map a.eval=cv:=by
   apply Array.ext'
   simpa using key _ _ hc
  simp[execOp,ho.op,Instr.makeFunc,h1,h2]) h
theorem AT{ad:Addr}(ho:At ops N l o t (.nilCheck x))(hx:Bo l x=some (.pointer (some ad)))(h:SL P ro K w0 N ops Hs items Q D ((t,.pointer (some ad))::l) H):SL P ro K w0 N ops Hs (.cons (tk,o) items) Q D l H:=
 SL.val ho rfl (fun a w ha _=>by simp[execOp,ho.op,ha.eval hx]) h
theorem CF{b:Bool}{ty:TypeId}(ho:At ops N l o t (.unOp .not ty x))(hx:Bo l x=some (.bool b))(h:SL P ro K w0 N ops Hs items Q D ((t,.bool (!b))::l) H):SL P ro K w0 N ops Hs (.cons (tk,o) items) Q D l H:=
 SL.val ho rfl (fun a w ha _=>by simp[execOp,ho.op,ha.eval hx,Op.unary]) h
end regs
def GT(op:BinOp)(a b v:Value):Prop:=∀(P:Program) (w:World) (ty:TypeId) (x y:Operand),(eqGuard op ty x y a b).run P w=.ok () w∧(binOp op ty a b).run P w=.ok v w
theorem mO{tk:Bool}{o:Oper}{t:Nat}{op:BinOp}{x y:Operand}{ty uy:TypeId}{a b v:Value}(ho:At ops N l o t (.binOp op ty x y uy))(hx:Bo l x=some a)(hy:Bo l y=some b)(hb:GT op a b v)
(h:SL P ro K w0 N ops Hs items Q D ((t,v)::l) H):SL P ro K w0 N ops Hs (.cons (tk,o) items) Q D l H:=
 SL.val ho rfl (fun a w ha _=>by
  obtain⟨h1,h2⟩:=hb P w ty x y
  simp[execOp,ho.op,ha.eval hx,ha.eval hy,h1,h2]) h
theorem O7{k:IntKind}{x:Int}(h1:k.min≤x)(h2:x≤k.max):k.wrap x=x:=by
 cases k<;>simp[IntKind.wrap,IntKind.min,IntKind.max,IntKind.signed,IntKind.bits]at * <;> omega
theorem Bi(op:BinOp)(ty:TypeId)(x y:Operand)(k k':IntKind)(a b:Int)(P:Program)(w:World):(eqGuard op ty x y (.int k a) (.int k' b)).run P w=.ok () w:=by
 cases op<;>simp[eqGuard]
theorem TJ(op:BinOp)(ty:TypeId)(x y:Operand)(a b:ByteArray)(P:Program)(w:World):(eqGuard op ty x y (.string a) (.string b)).run P w=.ok () w:=by
 cases op<;>simp[eqGuard]
theorem Bh{a b:Int}(h1 : -9223372036854775808≤a+b)(h2:a+b≤9223372036854775807):GT .add (vI a) (vI b) (vI (a+b)):=fun P w ty x y=>
 ⟨Bi ..,by simp[binOp,Op.intArith,O7 (k:=.i64) (x:=a+b) h1 h2]⟩
theorem EV{a b:Int}(h1 : -9223372036854775808≤a-b)(h2:a-b≤9223372036854775807):GT .sub (vI a) (vI b) (vI (a-b)):=fun P w ty x y=>
 ⟨Bi ..,by simp[binOp,Op.intArith,O7 (k:=.i64) (x:=a-b) h1 h2]⟩
theorem PH{a b:Int}(h1 : -9223372036854775808≤a*b)(h2:a*b≤9223372036854775807):GT .mul (vI a) (vI b) (vI (a*b)):=fun P w ty x y=>
 ⟨Bi ..,by simp[binOp,Op.intArith,O7 (k:=.i64) (x:=a*b) h1 h2]⟩
theorem A9{k:IntKind}{a b:Int}:GT .lss (.int k a) (.int k b) (.bool (decide (a<b))):=fun P w ty x y=>⟨Bi ..,by simp[binOp,Op.intCmp]⟩
theorem Jo{k:IntKind}{a b:Int}:GT .leq (.int k a) (.int k b) (.bool (decide (a≤b))):=fun P w ty x y=>⟨Bi ..,by simp[binOp,Op.intCmp]⟩
theorem Cj{k:IntKind}{a b:Int}:GT .gtr (.int k a) (.int k b) (.bool (decide (b<a))):=fun P w ty x y=>⟨Bi ..,by simp[binOp,Op.intCmp]⟩
theorem M8{k:IntKind}{a b:Int}:GT .geq (.int k a) (.int k b) (.bool (decide (b≤a))):=fun P w ty x y=>⟨Bi ..,by simp[binOp,Op.intCmp]⟩
theorem Ba{k:IntKind}{a b:Int}:GT .eql (.int k a) (.int k b) (.bool (decide (a=b))):=fun P w ty x y=>⟨Bi ..,by simp[binOp,Op.intCmp];rfl⟩
theorem BQ{k:IntKind}{a b:Int}:GT .neq (.int k a) (.int k b) (.bool (!decide (a=b))):=fun P w ty x y=>⟨Bi ..,by simp[binOp,Op.intCmp,bne];rfl⟩
theorem YA(x:Int):IntKind.u8.wrap x=x%256:=by simp[IntKind.wrap,IntKind.signed,IntKind.bits]
theorem OD(x:Int):IntKind.u32.wrap x=x%4294967296:=by simp[IntKind.wrap,IntKind.signed,IntKind.bits]
theorem OE(x:Int):IntKind.u64.wrap x=x%18446744073709551616:=by simp[IntKind.wrap,IntKind.signed,IntKind.bits]
theorem B3{a b:UInt32}:GT .add (AB a) (AB b) (AB (a+b)):=fun P w ty x y=>⟨Bi ..,by
 have h:IntKind.u32.wrap ((a.toNat:Int)+b.toNat)=((a+b).toNat:Int):=by
  rw[OD,UInt32.toNat_add];omega
 simp[binOp,Op.intArith,h]⟩
theorem kL{a b:UInt32}:GT .sub (AB a) (AB b) (AB (a-b)):=fun P w ty x y=>⟨Bi ..,by
 have h:IntKind.u32.wrap ((a.toNat:Int)-b.toNat)=((a-b).toNat:Int):=by
  rw[OD,UInt32.toNat_sub]
  have:=a.toNat_lt;have:=b.toNat_lt
  omega
 simp[binOp,Op.intArith,h]⟩
theorem HV{a b:UInt64}:GT .add (Be a) (Be b) (Be (a+b)):=fun P w ty x y=>⟨Bi ..,by
 have h:IntKind.u64.wrap ((a.toNat:Int)+b.toNat)=((a+b).toNat:Int):=by
  rw[OE,UInt64.toNat_add];omega
 simp[binOp,Op.intArith,h]⟩
theorem WM{a b:UInt64}:GT .sub (Be a) (Be b) (Be (a-b)):=fun P w ty x y=>⟨Bi ..,by
 have h:IntKind.u64.wrap ((a.toNat:Int)-b.toNat)=((a-b).toNat:Int):=by
  rw[OE,UInt64.toNat_sub]
  have:=a.toNat_lt;have:=b.toNat_lt
  omega
 simp[binOp,Op.intArith,h]⟩
theorem Nn{a b:UInt64}:GT .mul (Be a) (Be b) (Be (a*b)):=fun P w ty x y=>⟨Bi ..,by
 have h:IntKind.u64.wrap ((a.toNat:Int)*b.toNat)=((a*b).toNat:Int):=by
  rw[OE,UInt64.toNat_mul]
  rw[←Int.natCast_mul]
  generalize a.toNat*b.toNat=q
  omega
 simp[binOp,Op.intArith,h]⟩
theorem UL{a b:UInt8}:GT .eql (FE a) (FE b) (.bool (decide (a=b))):=fun P w ty x y=>⟨Bi ..,by
 have h:(((a.toNat:Int))==(b.toNat:Int))=decide (a=b):=by
  rw[Bool.eq_iff_iff,beq_iff_eq,decide_eq_true_eq,←UInt8.toNat_inj];omega
 simp[binOp,Op.intCmp,h]⟩
theorem Iz{a b:UInt32}:GT .eql (AB a) (AB b) (.bool (decide (a=b))):=fun P w ty x y=>⟨Bi ..,by
 have h:(((a.toNat:Int))==(b.toNat:Int))=decide (a=b):=by
  rw[Bool.eq_iff_iff,beq_iff_eq,decide_eq_true_eq,←UInt32.toNat_inj];omega
 simp[binOp,Op.intCmp,h]⟩
theorem MM{a b:UInt64}:GT .eql (Be a) (Be b) (.bool (decide (a=b))):=fun P w ty x y=>⟨Bi ..,by
 have h:(((a.toNat:Int))==(b.toNat:Int))=decide (a=b):=by
  rw[Bool.eq_iff_iff,beq_iff_eq,decide_eq_true_eq,←UInt64.toNat_inj];omega
 simp[binOp,Op.intCmp,h]⟩
theorem oE{a b:UInt32}:GT .neq (AB a) (AB b) (.bool (!decide (a=b))):=fun P w ty x y=>⟨Bi ..,by
 have h:(((a.toNat:Int))==(b.toNat:Int))=decide (a=b):=by
  rw[Bool.eq_iff_iff,beq_iff_eq,decide_eq_true_eq,←UInt32.toNat_inj];omega
 simp[binOp,Op.intCmp,bne,h]⟩
theorem N4{a b:UInt32}:GT .lss (AB a) (AB b) (.bool (decide (a<b))):=fun P w ty x y=>⟨Bi ..,by
 simp[binOp,Op.intCmp,UInt32.lt_iff_toNat_lt]⟩
theorem N3{a b:UInt32}:GT .leq (AB a) (AB b) (.bool (decide (a≤b))):=fun P w ty x y=>⟨Bi ..,by
 simp[binOp,Op.intCmp,UInt32.le_iff_toNat_le]⟩
theorem ST{a b:UInt32}:GT .gtr (AB a) (AB b) (.bool (decide (b<a))):=fun P w ty x y=>⟨Bi ..,by
 simp[binOp,Op.intCmp,UInt32.lt_iff_toNat_lt]⟩
theorem GN{a b:UInt32}:GT .geq (AB a) (AB b) (.bool (decide (b≤a))):=fun P w ty x y=>⟨Bi ..,by
 simp[binOp,Op.intCmp,UInt32.le_iff_toNat_le]⟩
theorem VT{a b:UInt64}:GT .lss (Be a) (Be b) (.bool (decide (a<b))):=fun P w ty x y=>⟨Bi ..,by
 simp[binOp,Op.intCmp,UInt64.lt_iff_toNat_lt]⟩
theorem PG{a b:UInt64}:GT .gtr (Be a) (Be b) (.bool (decide (b<a))):=fun P w ty x y=>⟨Bi ..,by
 simp[binOp,Op.intCmp,UInt64.lt_iff_toNat_lt]⟩
theorem PF{a b:UInt64}:GT .geq (Be a) (Be b) (.bool (decide (b≤a))):=fun P w ty x y=>⟨Bi ..,by
 simp[binOp,Op.intCmp,UInt64.le_iff_toNat_le]⟩
theorem dK{a b:UInt64}:GT .neq (Be a) (Be b) (.bool (!decide (a=b))):=fun P w ty x y=>⟨Bi ..,by
 have h:(((a.toNat:Int))==(b.toNat:Int))=decide (a=b):=by
  rw[Bool.eq_iff_iff,beq_iff_eq,decide_eq_true_eq,←UInt64.toNat_inj];omega
 simp[binOp,Op.intCmp,bne,h]⟩
theorem Wp(w n:Nat):BitVec.ofInt w (n:Int)=BitVec.ofNat w n:=by
 apply BitVec.eq_of_toNat_eq
 simp
theorem Ra(a:UInt32):BitVec.ofInt IntKind.u32.bits ((a.toNat:Nat):Int)=a.toBitVec:=by
 rw[Wp]
 apply BitVec.eq_of_toNat_eq
 have:=a.toNat_lt
 simp[IntKind.bits]
theorem mX(a:UInt64):BitVec.ofInt IntKind.u64.bits ((a.toNat:Nat):Int)=a.toBitVec:=by
 rw[Wp]
 apply BitVec.eq_of_toNat_eq
 have:=a.toNat_lt
 simp[IntKind.bits]
theorem qM(a:UInt8):BitVec.ofInt IntKind.u8.bits ((a.toNat:Nat):Int)=a.toBitVec:=by
 rw[Wp]
 apply BitVec.eq_of_toNat_eq
 have:=a.toNat_lt
 simp[IntKind.bits]
theorem Zt(r:BitVec 32):IntKind.u32.wrap (r.toNat:Int)=((UInt32.ofBitVec r).toNat:Int):=by
 rw[OD]
 have:=r.isLt
 simp only[UInt32.toNat_ofBitVec]
 omega
theorem tP(r:BitVec 64):IntKind.u64.wrap (r.toNat:Int)=((UInt64.ofBitVec r).toNat:Int):=by
 rw[OE]
 have:=r.isLt
 simp only[UInt64.toNat_ofBitVec]
 omega
theorem wn(r:BitVec 8):IntKind.u8.wrap (r.toNat:Int)=((UInt8.ofBitVec r).toNat:Int):=by
 rw[YA]
 have:=r.isLt
 simp only[UInt8.toNat_ofBitVec]
 omega
theorem Cw{a b:UInt32}:GT .xor (AB a) (AB b) (AB (a ^^^ b)):=fun P w ty x y=>⟨Bi ..,by
 have h:=Zt (a.toBitVec ^^^ b.toBitVec)
 simp only[binOp,Op.intBits,ne_eq,not_true_eq_false,if_false,Ra a,Ra b]
 exact congrArg (fun z=>Result.ok (Value.int .u32 z) w) h⟩
theorem IF{a b:UInt32}:GT .and (AB a) (AB b) (AB (a &&& b)):=fun P w ty x y=>⟨Bi ..,by
 have h:=Zt (a.toBitVec &&& b.toBitVec)
 simp only[binOp,Op.intBits,ne_eq,not_true_eq_false,if_false,Ra a,Ra b]
 exact congrArg (fun z=>Result.ok (Value.int .u32 z) w) h⟩
theorem Fy{a b:UInt32}:GT .or (AB a) (AB b) (AB (a ||| b)):=fun P w ty x y=>⟨Bi ..,by
 have h:=Zt (a.toBitVec ||| b.toBitVec)
 simp only[binOp,Op.intBits,ne_eq,not_true_eq_false,if_false,Ra a,Ra b]
 exact congrArg (fun z=>Result.ok (Value.int .u32 z) w) h⟩
theorem Qt{a b:UInt64}:GT .and (Be a) (Be b) (Be (a &&& b)):=fun P w ty x y=>⟨Bi ..,by
 have h:=tP (a.toBitVec &&& b.toBitVec)
 simp only[binOp,Op.intBits,ne_eq,not_true_eq_false,if_false,mX a,mX b]
 exact congrArg (fun z=>Result.ok (Value.int .u64 z) w) h⟩
theorem VU{a b:UInt8}:GT .xor (FE a) (FE b) (FE (a ^^^ b)):=fun P w ty x y=>⟨Bi ..,by
 have h:=wn (a.toBitVec ^^^ b.toBitVec)
 simp only[binOp,Op.intBits,ne_eq,not_true_eq_false,if_false,qM a,qM b]
 exact congrArg (fun z=>Result.ok (Value.int .u8 z) w) h⟩
def shl32(a:UInt32)(n:Nat):UInt32:=UInt32.ofNat (a.toNat*2^(min n 32))
def shr32(a:UInt32)(n:Nat):UInt32:=UInt32.ofNat (a.toNat / 2^(min n 32))
def shl64(a:UInt64)(n:Nat):UInt64:=UInt64.ofNat (a.toNat*2^(min n 64))
def shr64(a:UInt64)(n:Nat):UInt64:=UInt64.ofNat (a.toNat / 2^(min n 64))
theorem de(a b:Nat):Int.fdiv (a:Int) (b:Int)=((a / b:Nat):Int):=by
 rw[Int.fdiv_eq_ediv_of_nonneg _ zO]
 rfl
theorem GT.shl32{a:UInt32}{k:IntKind}{n:Nat}:GT .shl (AB a) (.int k (n:Int)) (AB (Go.Proofs.YtpaohlmgfifebaaGreatDoor.shl32 a n)):=fun P w ty x y=>⟨Bi ..,by
 have h:IntKind.u32.wrap ((a.toNat:Int)*2^(min n 32))=((Go.Proofs.YtpaohlmgfifebaaGreatDoor.shl32 a n).toNat:Int):=by
  rw[OD]
  simp[Go.Proofs.YtpaohlmgfifebaaGreatDoor.shl32]
 have h0:¬((n:Int)<0):=zO
 simp[binOp,Op.shift,h0,IntKind.bits,h]⟩
theorem GT.shr32{a:UInt32}{k:IntKind}{n:Nat}:GT .shr (AB a) (.int k (n:Int)) (AB (Go.Proofs.YtpaohlmgfifebaaGreatDoor.shr32 a n)):=fun P w ty x y=>⟨Bi ..,by
 have h:Int.fdiv (a.toNat:Int) (2^(min n 32))=((Go.Proofs.YtpaohlmgfifebaaGreatDoor.shr32 a n).toNat:Int):=by
  have:((2:Int)^(min n 32))=((2^(min n 32):Nat):Int):=by simp
  rw[this,de]
  have h1:a.toNat / 2^(min n 32)<4294967296:=Nat.lt_of_le_of_lt (Nat.div_le_self _ _) a.toNat_lt
  simp only[Go.Proofs.YtpaohlmgfifebaaGreatDoor.shr32,UInt32.toNat_ofNat']
  generalize a.toNat / 2^(min n 32)=q at h1 ⊢
  rw[Nat.mod_eq_of_lt h1]
 have h0:¬((n:Int)<0):=zO
 simp[binOp,Op.shift,h0,IntKind.bits,h]⟩
theorem GT.shl64{a:UInt64}{k:IntKind}{n:Nat}:GT .shl (Be a) (.int k (n:Int)) (Be (Go.Proofs.YtpaohlmgfifebaaGreatDoor.shl64 a n)):=fun P w ty x y=>⟨Bi ..,by
 have h:IntKind.u64.wrap ((a.toNat:Int)*2^(min n 64))=((Go.Proofs.YtpaohlmgfifebaaGreatDoor.shl64 a n).toNat:Int):=by
  rw[OE]
  simp[Go.Proofs.YtpaohlmgfifebaaGreatDoor.shl64]
 have h0:¬((n:Int)<0):=zO
 simp[binOp,Op.shift,h0,IntKind.bits,h]⟩
theorem GT.shr64{a:UInt64}{k:IntKind}{n:Nat}:GT .shr (Be a) (.int k (n:Int)) (Be (Go.Proofs.YtpaohlmgfifebaaGreatDoor.shr64 a n)):=fun P w ty x y=>⟨Bi ..,by
 have h:Int.fdiv (a.toNat:Int) (2^(min n 64))=((Go.Proofs.YtpaohlmgfifebaaGreatDoor.shr64 a n).toNat:Int):=by
  have:((2:Int)^(min n 64))=((2^(min n 64):Nat):Int):=by simp
  rw[this,de]
  have h1:a.toNat / 2^(min n 64)<18446744073709551616:=Nat.lt_of_le_of_lt (Nat.div_le_self _ _) a.toNat_lt
  simp only[Go.Proofs.YtpaohlmgfifebaaGreatDoor.shr64,UInt64.toNat_ofNat']
  generalize a.toNat / 2^(min n 64)=q at h1 ⊢
  rw[Nat.mod_eq_of_lt h1]
 have h0:¬((n:Int)<0):=zO
 simp[binOp,Op.shift,h0,IntKind.bits,h]⟩
theorem oF{a:Int}{k:IntKind}{n:Nat}(_ha:0≤a)(hn:n≤64):GT .shr (vI a) (.int k (n:Int)) (vI (a / 2^n)):=fun P w ty x y=>⟨Bi ..,by
 have h:Int.fdiv a (2^(min n 64))=a / 2^n:=by
  rw[Nat.min_eq_left hn,Int.fdiv_eq_ediv_of_nonneg _ (by exact Int.le_of_lt (Int.pow_pos zO))]
 have h0:¬((n:Int)<0):=zO
 simp[binOp,Op.shift,h0,IntKind.bits,h]⟩
theorem oD{a b:Int}(ha:0≤a)(hb:0<b)(h2:a≤9223372036854775807):GT .quo (vI a) (vI b) (vI (a / b)):=fun P w ty x y=>⟨Bi ..,by
 have h0:b≠0:=zO
 have h3:a / b≤a:=Int.ediv_le_self b ha
 have h4:0≤a / b:=Int.ediv_nonneg ha zO
 have h1:IntKind.i64.wrap (a.tdiv b)=a / b:=by
  rw[Int.tdiv_eq_ediv_of_nonneg ha]
  exact O7 (k:=.i64) (by show(-9223372036854775808:Int)≤_;omega) (by show _≤(9223372036854775807:Int);omega)
 simp[binOp,Op.intDiv,h0,h1]⟩
theorem YC{a b:Int}(ha:0≤a)(hb:0<b):GT .rem (vI a) (vI b) (vI (a%b)):=fun P w ty x y=>⟨Bi ..,by
 have h0:b≠0:=zO
 simp[binOp,Op.intDiv,h0,Int.tmod_eq_emod_of_nonneg ha]⟩
theorem kK{a b:UInt64}(hb:b≠0):GT .rem (Be a) (Be b) (Be (a%b)):=fun P w ty x y=>⟨Bi ..,by
 have h0:((b.toNat:Int))≠0:=by
  intro h
  have:b.toNat=0:=zO
  exact hb (UInt64.toNat_inj.1 this)
 have h1:Int.tmod (a.toNat:Int) (b.toNat:Int)=((a%b).toNat:Int):=by
  rw[Int.tmod_eq_emod_of_nonneg zO,UInt64.toNat_mod]
  rfl
 simp only[binOp,Op.intDiv,ne_eq,not_true_eq_false,if_false,h0,h1,Sem.run_pure]⟩
theorem Hb{s t:List UInt8}(h:s.length+t.length≤9223372036854775807):GT .add (vS s) (vS t) (vS (s++t)):=fun P w ty x y=>⟨TJ ..,by
 have h1:¬(((ByteArray.mk ⟨s⟩).size+(ByteArray.mk ⟨t⟩).size:Nat):Int)>IntKind.i64.max:=by
  show ¬(((s.length+t.length:Nat):Int)>9223372036854775807)
  omega
 have h2:(ByteArray.mk ⟨s⟩++ByteArray.mk ⟨t⟩:ByteArray)=⟨⟨s++t⟩⟩:=by
  apply ByteArray.ext
  simp[ByteArray.data_append]
 simp only[binOp,Op.stringOp,if_neg h1,h2,Sem.run_pure]⟩
theorem W0(s:List UInt8):(ByteArray.mk ⟨s⟩).toList=s:=by
 rw[ByteArray.toList_eq]
theorem aD{s t:List UInt8}:GT .eql (vS s) (vS t) (.bool (decide (s=t))):=fun P w ty x y=>⟨TJ ..,by
 have h:(s==t)=decide (s=t):=by rw[Bool.eq_iff_iff];simp
 simp only[binOp,Op.stringOp,W0,Sem.run_pure,h]⟩
theorem W2{s t:List UInt8}:GT .neq (vS s) (vS t) (.bool (!decide (s=t))):=fun P w ty x y=>⟨TJ ..,by
 have h:(s==t)=decide (s=t):=by rw[Bool.eq_iff_iff];simp
 simp only[binOp,Op.stringOp,W0,Sem.run_pure,h]⟩
end

section
def fo(P:Program)(t:TypeId)(f:Nat):Option Nat:=
 match P.underlying t with
 | some (.struct fs)=>match fs[f]? with
  | some fd=>match P.info? fd.type with
   | some i=>if i.size=0 then none else some fd.offset
   | none=>none
  | none=>none
 | _=>none
def KM(P:Program)(t:TypeId):Bool:=
 match P.underlying t,P.info? t with
 | some (.struct _),_=>false
 | some (.array _ _),_=>false
 | some _,some i=>i.size==1
 | _,_=>false
def PN(P:Program)(t:TypeId):Option Nat:=
 match P.underlying t,P.info? t with
 | some (.struct _),some i=>some i.size
 | some (.array _ _),some i=>some i.size
 | _,_=>none
def DU(P:Program)(t:TypeId):Option Nat:=(P.info? t).map (·.size)
def Ev(P:Program)(t:TypeId):Option Value:=(P.info? t).bind (·.zero)
variable {P:Program}{ro:Option Nat}{K:Nat→Prop}{w0:World}{N:Nat}{Q:Dg}{D:List Nat}{l l':Tm}{H H' Hs L:List AX}{ops:Array Oper}{items:I6}
variable {tk:Bool}{o:Oper}{t:Nat}{v:Value}{x y z:Operand}
theorem A2{ty:TypeId}{d:TypeDesc}(h:P.underlying ty=some d)(w:World):(underlying ty).run P w=.ok d w:=by
 simp[underlying,h]
theorem CY{ty:TypeId}{n:Nat}(h:DU P ty=some n)(w:World):(sizeOf ty).run P w=.ok n w:=by
 unfold DU at h
 cases hi:P.info? ty with
 | none=>simp[hi]at h
 | some i=>
  simp[hi]at h
  simp[sizeOf,typeInfo,hi,h]
theorem Pd{ty:TypeId}{v:Value}(h:Ev P ty=some v)(w:World):(zeroValue ty).run P w=.ok v w:=by
 unfold Ev at h
 cases hi:P.info? ty with
 | none=>simp[hi]at h
 | some i=>
  simp[hi]at h
  simp[zeroValue,typeInfo,hi,h]
theorem Yr{ty:TypeId}(h:KM P ty=true)(w:World):(isAgg ty).run P w=.ok false w∧DU P ty=some 1:=by
 unfold KM at h
 unfold isAgg DU
 cases hu:P.underlying ty with
 | none=>simp[hu]at h
 | some d=>
  cases hi:P.info? ty with
  | none=>cases d<;>simp[hu,hi]at h
  | some i=>
   cases d<;>simp_all[underlying]
theorem YJ{ty:TypeId}{n:Nat}(h:PN P ty=some n)(w:World):(isAgg ty).run P w=.ok true w∧DU P ty=some n:=by
 unfold PN at h
 unfold isAgg DU
 cases hu:P.underlying ty with
 | none=>simp[hu]at h
 | some d=>
  cases hi:P.info? ty with
  | none=>cases d<;>simp[hu,hi]at h
  | some i=>
   cases d<;>simp_all[underlying]
def KJ(x:Int):UInt8:=UInt8.ofNat (x%256).toNat
def De(x:Int):UInt32:=UInt32.ofNat (x%4294967296).toNat
def B9(x:Int):UInt64:=UInt64.ofNat (x%18446744073709551616).toNat
theorem lq(x:Int):IntKind.u8.wrap x=((KJ x).toNat:Int):=by
 rw[YA];simp only[KJ,UInt8.toNat_ofNat'];omega
theorem j9(x:Int):IntKind.u32.wrap x=((De x).toNat:Int):=by
 rw[OD];simp only[De,UInt32.toNat_ofNat'];omega
theorem kA(x:Int):IntKind.u64.wrap x=((B9 x).toNat:Int):=by
 rw[OE];simp only[B9,UInt64.toNat_ofNat'];omega
def Cv(P:Program)(src dst:TypeId)(a v:Value):Prop:=∀w:World,(convert src dst a).run P w=.ok v w
theorem BO{src dst:TypeId}{a:Value}(ho:At ops N l o t (.convert src dst x))(hx:Bo l x=some a)(hc:Cv P src dst a v)(h:SL P ro K w0 N ops Hs items Q D ((t,v)::l) H):
  SL P ro K w0 N ops Hs (.cons (tk,o) items) Q D l H:=
 SL.val ho rfl (fun a w ha _=>by simp[execOp,ho.op,ha.eval hx,hc w]) h
theorem Cv.int{src dst:TypeId}{d:TypeDesc}{k k':IntKind}{n m:Int}(hs:P.underlying src=some d)(hd:P.underlying dst=some (.int k))(h:k.wrap n=m):Cv P src dst (.int k' n) (.int k m):=fun w=>by
 simp only[convert,Sem.run_bind,A2 hs,A2 hd,Result.andThen_ok]
 cases d<;>simp[Conv.intToInt,h]
section cv
variable {src dst:TypeId}{d:TypeDesc}
theorem Sy{n:Int}{k:IntKind}(hs:P.underlying src=some d)(hd:P.underlying dst=some (.int .u8)):Cv P src dst (.int k n) (FE (KJ n)):=Cv.int hs hd (lq n)
theorem Pw{n:Int}{k:IntKind}(hs:P.underlying src=some d)(hd:P.underlying dst=some (.int .u32)):Cv P src dst (.int k n) (AB (De n)):=Cv.int hs hd (j9 n)
theorem Ee{n:Int}{k:IntKind}(hs:P.underlying src=some d)(hd:P.underlying dst=some (.int .u64)):Cv P src dst (.int k n) (Be (B9 n)):=Cv.int hs hd (kA n)
theorem mL{n:Int}{k:IntKind}(hs:P.underlying src=some d)(hd:P.underlying dst=some (.int .i64))(h1 : -9223372036854775808≤n)(h2:n≤9223372036854775807):Cv P src dst (.int k n) (vI n):=Cv.int hs hd (O7 (k:=.i64) h1 h2)
theorem GP{a:UInt8}(hs:P.underlying src=some d)(hd:P.underlying dst=some (.int .u32)):Cv P src dst (FE a) (AB a.toUInt32):=Cv.int hs hd (by
 rw[OD];have:=a.toNat_lt;simp only[UInt8.toNat_toUInt32];omega)
theorem iN{a:UInt8}(hs:P.underlying src=some d)(hd:P.underlying dst=some (.int .i64)):Cv P src dst (FE a) (vI a.toNat):=Cv.int hs hd (O7 (k:=.i64) (by show(-9223372036854775808:Int)≤_;omega) (by have:=a.toNat_lt;show _≤(9223372036854775807:Int);omega))
theorem Ck{a:UInt32}(hs:P.underlying src=some d)(hd:P.underlying dst=some (.int .u64)):Cv P src dst (AB a) (Be a.toUInt64):=Cv.int hs hd (by
 rw[OE];have:=a.toNat_lt;simp only[UInt32.toNat_toUInt64];omega)
theorem DJ{a:UInt32}(hs:P.underlying src=some d)(hd:P.underlying dst=some (.int .u8)):Cv P src dst (AB a) (FE a.toUInt8):=Cv.int hs hd (by
 rw[YA];simp only[UInt32.toNat_toUInt8];omega)
theorem dL{a:UInt32}(hs:P.underlying src=some d)(hd:P.underlying dst=some (.int .i64)):Cv P src dst (AB a) (vI a.toNat):=Cv.int hs hd (O7 (k:=.i64) (by show(-9223372036854775808:Int)≤_;omega) (by have:=a.toNat_lt;show _≤(9223372036854775807:Int);omega))
theorem GO{a:UInt64}(hs:P.underlying src=some d)(hd:P.underlying dst=some (.int .u8)):Cv P src dst (Be a) (FE a.toUInt8):=Cv.int hs hd (by
 rw[YA];simp only[UInt64.toNat_toUInt8];omega)
theorem Lq{a:UInt64}(hs:P.underlying src=some d)(hd:P.underlying dst=some (.int .u32)):Cv P src dst (Be a) (AB a.toUInt32):=Cv.int hs hd (by
 rw[OD];simp only[UInt64.toNat_toUInt32];omega)
end cv
theorem B7{s:List UInt8}{ty:TypeId}(ho:At ops N l o t (.call { callee:=.builtin .len,args:=#[x],argTypes:=#[ty] }))(hty:P.underlying ty=some .string)(hx:Bo l x=some (vS s))
(h:SL P ro K w0 N ops Hs items Q D ((t,vI s.length)::l) H):SL P ro K w0 N ops Hs (.cons (tk,o) items) Q D l H:=
 SL.val ho rfl (fun a w ha _=>by
  simp only[execOp,ho.op,resolve,invoke,builtin,Builtin.len_]
  simp[ha.eval hx,A2 hty,goInt]
  rfl) h
theorem Py{b:Option Addr}{n c:Nat}{e ty:TypeId}(ho:At ops N l o t (.call { callee:=.builtin .len,args:=#[x],argTypes:=#[ty] }))(hty:P.underlying ty=some (.slice e))(hx:Bo l x=some (.slice b n c))
(h:SL P ro K w0 N ops Hs items Q D ((t,vI n)::l) H):SL P ro K w0 N ops Hs (.cons (tk,o) items) Q D l H:=
 SL.val ho rfl (fun a w ha _=>by
  simp only[execOp,ho.op,resolve,invoke,builtin,Builtin.len_]
  simp[ha.eval hx,A2 hty,goInt]) h
theorem XC{a b:Int}{ty:Array TypeId}(ho:At ops N l o t (.call { callee:=.builtin .min,args:=#[x,y],argTypes:=ty }))(hx:Bo l x=some (vI a))(hy:Bo l y=some (vI b))
(h:SL P ro K w0 N ops Hs items Q D ((t,vI (min a b))::l) H):SL P ro K w0 N ops Hs (.cons (tk,o) items) Q D l H:=
 SL.val ho rfl (fun a' w ha _=>by
  simp only[execOp,ho.op,resolve,invoke,builtin,Builtin.min_]
  simp[ha.eval hx,ha.eval hy,Builtin.min2]
  omega) h
theorem ie{a b:Int}{ty:Array TypeId}(ho:At ops N l o t (.call { callee:=.builtin .max,args:=#[x,y],argTypes:=ty }))(hx:Bo l x=some (vI a))(hy:Bo l y=some (vI b))
(h:SL P ro K w0 N ops Hs items Q D ((t,vI (max a b))::l) H):SL P ro K w0 N ops Hs (.cons (tk,o) items) Q D l H:=
 SL.val ho rfl (fun a' w ha _=>by
  simp only[execOp,ho.op,resolve,invoke,builtin,Builtin.max_]
  simp[ha.eval hx,ha.eval hy,Builtin.max2]
  omega) h
theorem MO{s:List UInt8}{ty:TypeId}{k:IntKind}{i:Int}(n:Nat)(ho:At ops N l o t (.index ty x y))(hty:P.underlying ty=some .string)(hx:Bo l x=some (vS s))(hy:Bo l y=some (.int k i))
(hi:i=(n:Int))(hlt:n<s.length)(h:SL P ro K w0 N ops Hs items Q D ((t,FE (s.getD n 0))::l) H):SL P ro K w0 N ops Hs (.cons (tk,o) items) Q D l H:=
 SL.val ho rfl (fun a w ha _=>by
  subst hi
  have h0:(ByteArray.mk ⟨s⟩)[n]? = some s[n]:=by
   have hs:n<(ByteArray.mk ⟨s⟩).size:=hlt
   rw[getElem?_pos (ByteArray.mk ⟨s⟩) n hs]
   rfl
  have h1:s.getD n 0=s[n]:=by simp[List.getD_eq_getElem?_getD,hlt]
  simp only[execOp,ho.op,Instr.index]
  simp only[ha.eval hx,ha.eval hy,asIntOf,Sem.run_bind,Sem.run_pure,Result.andThen_ok,A2 hty,Int.natCast_nonneg,if_true,Int.toNat_natCast,h0,h1]) h
theorem Ur(s:List UInt8)(i j:Nat):(ByteArray.mk ⟨s⟩).extract i j=⟨⟨(s.drop i).take (j-i)⟩⟩:=by
 apply ByteArray.ext
 apply Array.ext'
 exact Lib.extract_data (ByteArray.mk ⟨s⟩) i j
theorem mR{s:List UInt8}{ty:TypeId}{k k':IntKind}{i j:Int}(p q:Nat)(ho:At ops N l o t (.slice ty x (some y) (some z) none))(hty:P.underlying ty=some .string)(hx:Bo l x=some (vS s))(hy:Bo l y=some (.int k i))(hz:Bo l z=some (.int k' j))
(hi:i=(p:Int))(hj:j=(q:Int))(h1:p≤q)(h2:q≤s.length)(h:SL P ro K w0 N ops Hs items Q D ((t,vS ((s.drop p).take (q-p)))::l) H):SL P ro K w0 N ops Hs (.cons (tk,o) items) Q D l H:=
 SL.val ho rfl (fun a w ha _=>by
  subst hi;subst hj
  have hsz:(ByteArray.mk ⟨s⟩).size=s.length:=rfl
  simp only[execOp,ho.op,Instr.sliceAt,Instr.slice,Option.map]
  simp[ha.eval hx,ha.eval hy,ha.eval hz,A2 hty,Instr.sliceBounds,Instr.sliceBound,asIntOf,hsz,h1,h2,Ur]) h
theorem Qu{s:List UInt8}{ty:TypeId}{k:IntKind}{i:Int}(p:Nat)(ho:At ops N l o t (.slice ty x (some y) none none))(hty:P.underlying ty=some .string)(hx:Bo l x=some (vS s))(hy:Bo l y=some (.int k i))
(hi:i=(p:Int))(h1:p≤s.length)(h:SL P ro K w0 N ops Hs items Q D ((t,vS (s.drop p))::l) H):SL P ro K w0 N ops Hs (.cons (tk,o) items) Q D l H:=
 SL.val ho rfl (fun a w ha _=>by
  subst hi
  have hsz:(ByteArray.mk ⟨s⟩).size=s.length:=rfl
  have ht:(s.drop p).take (s.length-p)=s.drop p:=List.take_of_length_le zS
  simp only[execOp,ho.op,Instr.sliceAt,Instr.slice,Option.map]
  simp[ha.eval hx,ha.eval hy,A2 hty,Instr.sliceBounds,Instr.sliceBound,asIntOf,hsz,h1,Ur,ht]) h
theorem UT{s:List UInt8}{ty:TypeId}{k:IntKind}{j:Int}(q:Nat)(ho:At ops N l o t (.slice ty x none (some z) none))(hty:P.underlying ty=some .string)(hx:Bo l x=some (vS s))(hz:Bo l z=some (.int k j))
(hj:j=(q:Int))(h2:q≤s.length)(h:SL P ro K w0 N ops Hs items Q D ((t,vS (s.take q))::l) H):SL P ro K w0 N ops Hs (.cons (tk,o) items) Q D l H:=
 SL.val ho rfl (fun a w ha _=>by
  subst hj
  have hsz:(ByteArray.mk ⟨s⟩).size=s.length:=rfl
  simp only[execOp,ho.op,Instr.sliceAt,Instr.slice,Option.map]
  simp[ha.eval hx,ha.eval hz,A2 hty,Instr.sliceBounds,Instr.sliceBound,asIntOf,hsz,h2,Ur]) h
theorem CU(b off d:Nat):Addr.add ⟨b,off,none⟩ d=⟨b,off+d,none⟩:=by
 unfold Addr.add;split
 rename_i h;simp[h]
 rfl
theorem wd{b off d f:Nat}{ty:TypeId}(ho:At ops N l o t (.fieldAddr ty x f))(hx:Bo l x=some (vP b off))(hf:fo P ty f=some d)(h:SL P ro K w0 N ops Hs items Q D ((t,vP b (off+d))::l) H):
  SL P ro K w0 N ops Hs (.cons (tk,o) items) Q D l H:=
 SL.val ho rfl (fun a w ha _=>by
  unfold fo at hf
  cases hu:P.underlying ty with
  | none=>simp[hu]at hf
  | some ds=>
   cases ds<;>simp only[hu]at hf<;>try cases hf
   rename_i fs
   cases hfd:fs[f]? with
   | none=>simp[hfd]at hf
   | some fd=>
    simp only[hfd]at hf
    cases hi:P.info? fd.type with
    | none=>simp[hi]at hf
    | some ii=>
     simp only[hi]at hf
     by_cases hz:ii.size=0
     simp[hz]at hf
     simp only[hz,if_false,Option.some.injEq]at hf
     have hsz:∀w,(sizeOf fd.type).run P w=.ok ii.size w:=fun w=>CY (by simp[DU,hi]) w
     simp[execOp,ho.op,Instr.fieldAt,ha.eval hx,A2 hu,hfd,Instr.sureAddr,fieldPlace,hsz,hz,CU,hf]) h
theorem kO{b off len cap sz n:Nat}{k:IntKind}{i:Int}{ty e:TypeId}(ho:At ops N l o t (.indexAddr ty x y))(hty:P.underlying ty=some (.slice e))(hsz:DU P e=some sz)(hx:Bo l x=some (.slice (some ⟨b,off,none⟩) len cap))(hy:Bo l y=some (.int k i))
(hi:i=(n:Int))(hlt:n<len)(h:SL P ro K w0 N ops Hs items Q D ((t,vP b (off+n*sz))::l) H):SL P ro K w0 N ops Hs (.cons (tk,o) items) Q D l H:=
 SL.val ho rfl (fun a w ha _=>by
  subst hi
  simp[execOp,ho.op,Instr.indexAt,ha.eval hx,ha.eval hy,asIntOf,A2 hty,CY hsz,hlt,CU]) h
theorem I7{b off len sz n:Nat}{k:IntKind}{i:Int}{ty e:TypeId}(ho:At ops N l o t (.indexAddr ty x y))(hty:P.underlying ty=some (.array len e))(hsz:DU P e=some sz)(hx:Bo l x=some (vP b off))(hy:Bo l y=some (.int k i))
(hi:i=(n:Int))(hlt:n<len)(h:SL P ro K w0 N ops Hs items Q D ((t,vP b (off+n*sz))::l) H):SL P ro K w0 N ops Hs (.cons (tk,o) items) Q D l H:=
 SL.val ho rfl (fun a w ha _=>by
  subst hi
  simp[execOp,ho.op,Instr.indexAt,ha.eval hx,ha.eval hy,asIntOf,Instr.sureAddr,A2 hty,CY hsz,hlt,CU]) h
theorem Bm{ad:Addr}{ty:TypeId}(ho:At ops N l o t (.load ty x))(hs:KM P ty=true)(hx:Bo l x=some (.pointer (some ad)))(hc:∀w,HW K w0 (bif tk then Hs else H) w→w.cell? ad=some v)
(h:SL P ro K w0 N ops Hs items Q D ((t,v)::l) H):SL P ro K w0 N ops Hs (.cons (tk,o) items) Q D l H:=
 SL.val ho rfl (fun a w ha hsw=>by
  simp[execOp,ho.op,Instr.loadAt,Instr.sureAddr,ha.eval hx,loadVar,(Yr hs w).1,hc w hsw]) h
theorem RO(a:Addr)(w:World):∀(n i:Nat) (acc:Array Value) (cs:List Value),cs.length=n→(∀j u,cs[j]? = some u→w.cell? (a.add (i+j))=some u)→
  (loadCellsFrom a i n acc).run P w=.ok (acc++cs.toArray) w
 | 0,i,acc,cs,hn,hc=>by
  have:cs=[]:=List.length_eq_zero_iff.1 hn
  subst this
  simp[loadCellsFrom]
 | n+1,i,acc,cs,hn,hc=>by
  match cs,hn with
  | c::cs,hn=>
   have h0:=hc 0 c rfl
   simp only[Nat.add_zero]at h0
   have ih:=RO a w n (i+1) (acc.push c) cs (by simpa using hn) (fun j u hu=>by
    have:=hc (j+1) u (by simpa using hu)
    have e:i+1+j=i+(j+1):=zO
    rw[e];exact this)
   simp[loadCellsFrom,h0,ih]
theorem RN{a:Addr}{w:World}{cs:List Value}(hc:∀j u,cs[j]? = some u→w.cell? (a.add j)=some u):(loadCells a cs.length).run P w=.ok cs.toArray w:=by
 unfold loadCells
 rw[RO a w cs.length 0 #[] cs rfl (by simpa using hc)]
 simp
theorem Aw{ad:Addr}{ty:TypeId}{n:Nat}(cs:List Value)(ho:At ops N l o t (.load ty x))(hs:PN P ty=some n)(hn:cs.length=n)(hx:Bo l x=some (.pointer (some ad)))
(hc:∀w,HW K w0 (bif tk then Hs else H) w→∀j u,cs[j]? = some u→w.cell? (ad.add j)=some u)
(h:SL P ro K w0 N ops Hs items Q D ((t,.agg cs.toArray)::l) H):SL P ro K w0 N ops Hs (.cons (tk,o) items) Q D l H:=
 SL.val ho rfl (fun a w ha hsw=>by
  obtain⟨h1,h2⟩:=YJ hs w
  subst hn
  simp[execOp,ho.op,Instr.loadAt,Instr.sureAddr,ha.eval hx,loadVar,h1,CY h2,RN (hc w hsw)]) h
theorem Dd{b off:Nat}{c:Array Value}{e:TypeId}{z:Nat×Nat}(i:Nat)(hi:L[i]? = some (own b (.cells c e z)))(hc:c[off]? = some v):∀w,HW K w0 L w→w.cell? ⟨b,off,none⟩=some v:=by
 intro w hs
 have:=hs.holds _ (List.mem_of_getElem? hi)
 have hb:w.heap[b]? = some (.cells c e z):=this
 simp[World.cell?,hb,hc]
theorem Q2{ad:Addr}(hk:K ad.block)(hc:w0.cell? ad=some v):∀w,HW K w0 L w→w.cell? ad=some v:=by
 intro w hs
 rw[World.cell?_of_block (w:=w0) (hs.keep _ hk)]
 exact hc
theorem Ct{b off:Nat}{c:Array Value}{e:TypeId}{z:Nat×Nat}{cs:List Value}(i:Nat)(hi:L[i]? = some (own b (.cells c e z)))(hc:∀j u,cs[j]? = some u→c[off+j]? = some u):
  ∀w,HW K w0 L w→∀j u,cs[j]? = some u→w.cell? (Addr.add ⟨b,off,none⟩ j)=some u:=by
 intro w hs j u hu
 rw[CU]
 exact Dd i hi (hc j u hu) w hs
theorem Ap{b:Nat}{cs:List Value}{e:TypeId}{z:Nat×Nat}(i:Nat)(hi:L[i]? = some (own b (.cells cs.toArray e z))):
  ∀w,HW K w0 L w→∀j u,cs[j]? = some u→w.cell? (Addr.add ⟨b,0,none⟩ j)=some u:=
 Ct i hi (fun j u hu=>by simpa using hu)
def FF:List AX→List AX→Prop
 | [],_=>True
 | c::r,H=>(∃i:Nat,H[i]? = some c)∧FF r H
theorem FF.mem:∀ {Hs H:List AX},FF Hs H→∀c∈Hs,c∈H
 | [],_,_,c,hc=>by cases hc
 | d::r,H,h,c,hc=>by
  rcases List.mem_cons.1 hc with rfl | hc
  obtain⟨i,hi⟩:=h.1
  exact List.mem_of_getElem? hi
  exact h.2.mem c hc
theorem FF.hs{w:World}(h:FF Hs H)(hw:Bj K w0 (H++[Bf D]) w):HW K w0 Hs w:=hw.s.sub fun c hc=>List.mem_append_left _ (h.mem c hc)
theorem IJ{op:Op}{α:Type}(val:α→Value)(G:α→List AX)(ho:At ops N l o t op)(hnd:Xw op=false)
(hq:∀a w,LU l a→Bj K w0 (H++[Bf D]) w→∃r w',(execOp a.eval o).run P w=.ok (.value (val r)) w'∧Bj K w0 (G r++[Bf D]) w')
(hs:∀r,FF Hs (G r))(h:∀r,SL P ro K w0 N ops Hs items Q D ((t,val r)::l) (G r)):SL P ro K w0 N ops Hs (.cons (false,o) items) Q D l H:=by
 intro a w ha hw hs0
 have hw1:=GX ho.wt ha.vals
 obtain⟨r,w',hrun,hw'⟩:=hq a w ha.vals hw
 simp only[PL,hw1,if_true]
 have hput:N8 N D ((t,val r)::l) (a.put o.dst (val r)):=by rw[ho.dst];exact ha.put (JB ho.lt) _
 exact LM (by rw[ho.op];exact GW hnd) hrun ⟨(hs r).hs hw',h r _ w' hput hw' ((hs r).hs hw')⟩
theorem YF{op:Op}{G:List AX}(ho:At0 ops l o op)(hnd:Xw op=false)
(hq:∀a w,LU l a→Bj K w0 (H++[Bf D]) w→∃w',(execOp a.eval o).run P w=.ok .skip w'∧Bj K w0 (G++[Bf D]) w')
(hs:FF Hs G)(h:SL P ro K w0 N ops Hs items Q D l G):SL P ro K w0 N ops Hs (.cons (false,o) items) Q D l H:=by
 intro a w ha hw hs0
 have hw1:=GX ho.wt ha.vals
 obtain⟨w',hrun,hw'⟩:=hq a w ha.vals hw
 simp only[PL,hw1,if_true]
 refine rf (by rw[ho.op];exact GW hnd) hrun ⟨hs.hs hw',?_⟩
 rw[ho.dst]
 exact h _ w' ha hw' (hs.hs hw')
theorem Au{ty:TypeId}{zv:Value}(ho:At ops N l o t (.alloc ty))(hz:Ev P ty=some zv)(hs:∀b,FF Hs (own b (.cells zv.cells ty)::H))
(h:∀b,SL P ro K w0 N ops Hs items Q D ((t,vP b 0)::l) (own b (.cells zv.cells ty)::H)):SL P ro K w0 N ops Hs (.cons (false,o) items) Q D l H:=
 IJ (fun b=>vP b 0) (fun b=>own b (.cells zv.cells ty)::H) ho rfl (fun a w ha hw=>by
  refine⟨w.heap.size,w.alloc (.cells zv.cells ty),?_,hw.alloc _⟩
  simp[execOp,ho.op,Instr.alloc,Pd hz,newVar,newRow]) hs h
theorem Bg{ty:TypeId}(ho:At ops N l o t (.box ty x))(hx:Bo l x=some v)(hs:∀b,FF Hs (own b (.cells v.cells ty)::H))
(h:∀b,SL P ro K w0 N ops Hs items Q D ((t,vP b 0)::l) (own b (.cells v.cells ty)::H)):SL P ro K w0 N ops Hs (.cons (false,o) items) Q D l H:=
 IJ (fun b=>vP b 0) (fun b=>own b (.cells v.cells ty)::H) ho rfl (fun a w ha hw=>by
  refine⟨w.heap.size,w.alloc (.cells v.cells ty),?_,hw.alloc _⟩
  simp[execOp,ho.op,Instr.box,ha.eval hx,newVar,newRow]) hs h
def Fp(c:Array Value)(off:Nat):List Value→Array Value
 | []=>c
 | v::r=>Fp (c.setIfInBounds off v) (off+1) r
theorem dF{w:World}{b:Nat}{o o':Obj}(_hb:b<w.heap.size):(w.putObj b o).putObj b o'=w.putObj b o':=by
 simp[World.putObj,Array.setIfInBounds_setIfInBounds]
theorem WS{w:World}{b off:Nat}{c:Array Value}{e:TypeId}{z:Nat×Nat}(u:Value)(hb:w.heap[b]? = some (.cells c e z)):w.setCell ⟨b,off,none⟩ u=w.putObj b (.cells (c.setIfInBounds off u) e z):=by
 unfold World.setCell World.putObj
 congr 1
 apply Array.ext_getElem?
 intro i
 rw[Array.getElem?_modify,Array.getElem?_setIfInBounds]
 obtain⟨hlt,hget⟩:=Array.getElem?_eq_some_iff.1 hb
 by_cases hi:b=i
 subst hi
 simp[hlt,hget]
 simp[hi]
theorem Nl{b:Nat}{e:TypeId}:∀(vs:List Value) (off i:Nat) (c:Array Value) (w:World),w.heap[b]? = some (.cells c e (0,0))→off+i+vs.length≤c.size→(∀u∈vs,u.oneCell'=true)→
  ∃w',(storeCells ⟨b,off,none⟩ vs i).run P w=.ok () w'∧w'=w.putObj b (.cells (Fp c (off+i) vs) e (0,0))
 | [],off,i,c,w,hb,_,_=>by
  refine⟨w,rfl,?_⟩
  simp only[Fp]
  have:w.putObj b (.cells c e (0,0))=w:=by
   unfold World.putObj
   obtain⟨hlt,hget⟩:=Array.getElem?_eq_some_iff.1 hb
   have:w.heap.setIfInBounds b (.cells c e (0,0))=w.heap:=by
    apply Array.ext_getElem?
    intro k
    rw[Array.getElem?_setIfInBounds]
    split
    rename_i hk;subst hk;simp[hlt,hget]
    rfl
   rw[this]
  exact this.symm
 | u::r,off,i,c,w,hb,hle,h1=>by
  have hu:=h1 u (List.mem_cons_self ..)
  simp only[List.length_cons]at hle
  have hlt:off+i<c.size:=zO
  have hcell:w.cell? ⟨b,off+i,none⟩=some c[off+i]:=by simp[World.cell?,hb,hlt]
  have hfz:w.frozen? ⟨b,off+i,none⟩=false:=by simp[World.frozen?,hb]
  have hset:=WS (off:=off+i) u hb
  obtain⟨hbl,_⟩:=Array.getElem?_eq_some_iff.1 hb
  have hb':(w.putObj b (.cells (c.setIfInBounds (off+i) u) e (0,0))).heap[b]? = some (.cells (c.setIfInBounds (off+i) u) e (0,0)):=World.putObj_heap_same hbl
  obtain⟨w',hrun,hw'⟩:=Nl r off (i+1) _ _ hb' zQ (fun v hv=>h1 v (List.mem_cons_of_mem _ hv))
  refine⟨w',?_,?_⟩
  simp only[storeCells,Sem.run_bind,CU,run_store P w _ u _ hu,hcell,hfz,hset]
  simpa using hrun
  rw[hw',dF hbl]
  rfl
theorem Bj.putAt{M:List AX}{w:World}{b:Nat}{o o':Obj}(i:Nat)(h:Bj K w0 (H++M) w)(hi:H[i]? = some (own b o)):Bj K w0 (H.set i (own b o')++M) (w.putObj b o'):=by
 obtain⟨hlt,hget⟩:=List.getElem?_eq_some_iff.1 hi
 have hsplit:H=H.take i++own b o::H.drop (i+1):=by
  rw[←hget];simp
 have hset:H.set i (own b o')=H.take i++own b o'::H.drop (i+1):=by
  rw[List.set_eq_take_append_cons_drop,if_pos hlt]
 rw[hset]
 rw[hsplit]at h
 have hp:(H.take i++own b o::H.drop (i+1)++M).Perm (own b o::(H.take i++H.drop (i+1)++M)):=by
  simp
 have hp':(own b o'::(H.take i++H.drop (i+1)++M)).Perm (H.take i++own b o'::H.drop (i+1)++M):=by
  rw[List.perm_comm];simp
 exact((h.perm hp).put).perm hp'
theorem Zq{b off n:Nat}{c:Array Value}{e ty:TypeId}(i:Nat)(ho:At0 ops l o (.store ty x y))(hx:Bo l x=some (vP b off))(hy:Bo l y=some v)(hi:H[i]? = some (own b (.cells c e)))
(hn:DU P ty=some n)(hv:v.cells.size=n)(h1:v.cells.toList.all (·.oneCell')=true)(hle:off+n≤c.size)
(hs:FF Hs (H.set i (own b (.cells (Fp c off v.cells.toList) e))))(h:SL P ro K w0 N ops Hs items Q D l (H.set i (own b (.cells (Fp c off v.cells.toList) e)))):SL P ro K w0 N ops Hs (.cons (false,o) items) Q D l H:=
 YF ho rfl (fun a w ha hw=>by
  have hb:w.heap[b]? = some (.cells c e (0,0)):=hw.holds _ (List.mem_append_left _ (List.mem_of_getElem? hi))
  obtain⟨w',hrun,hw'⟩:=Nl (P:=P) v.cells.toList off 0 c w hb (by simp[hv];exact hle) (List.all_eq_true.1 h1)
  refine⟨w',?_,?_⟩
  simp[execOp,ho.op,Instr.storeAt,Instr.sureAddr,ha.eval hx,ha.eval hy,storeVar,CY hn,hv]
  rw[hrun]
  rfl
  rw[hw']
  exact hw.putAt i hi) hs h
theorem A3{b off n:Nat}{c:Array Value}{e ty:TypeId}(i:Nat)(ho:At0 ops l o (.store ty x y))(hx:Bo l x=some (vP b off))(hy:Bo l y=some v)(hi:H[i]? = some (own b (.cells c e)))
(hn:DU P ty=some n)(hv:v.cells.size=n)(h1:v.cells.toList.all (·.oneCell')=true)(hle:Nat.ble (off+n) c.size=true)
(hs:FF Hs (H.set i (own b (.cells (Fp c off v.cells.toList) e))))(h:SL P ro K w0 N ops Hs items Q D l (H.set i (own b (.cells (Fp c off v.cells.toList) e)))):SL P ro K w0 N ops Hs (.cons (false,o) items) Q D l H:=
 Zq i ho hx hy hi hn hv h1 (Nat.le_of_ble_eq_true hle) hs h
def AP(P:Program)(f:FuncId):Bool:=
 match P.funcs[f]? with
 | some fn=>fn.body.isSome&&fn.name != "runtime.NumGoroutine"
 | none=>false
theorem NW{f:FuncId}{args:Array Value}(h:AP P f=true)(w:World):(callFunc f args).run P w=.ok (.enter f args) w:=by
 unfold AP at h
 cases hf:P.funcs[f]? with
 | none=>simp[hf]at h
 | some fn=>
  simp only[hf,Bool.and_eq_true,bne_iff_ne,ne_eq]at h
  have hb:fn.body.isNone=false:=by cases hb:fn.body<;>simp_all
  have h2:(fn.name == "runtime.NumGoroutine")=false:=by simpa using h.2
  simp only[callFunc,Sem.run_bind,run_program,Result.andThen_ok,hf,h2,hb,Bool.false_eq_true,if_false,Sem.run_pure]
def dD(l:Tm):List Operand→List Value→Prop
 | [],[]=>True
 | x::xs,v::vs=>Bo l x=some v∧dD l xs vs
 | _,_=>False
theorem dD.eval{a:Act}(ha:LU l a):∀ {xs:List Operand} {vs:List Value},dD l xs vs→xs.map a.eval=vs
 | [],[],_=>rfl
 | x::xs,v::vs,h=>by simp[ha.eval h.1,dD.eval ha h.2]
 | [],_::_,h=>h.elim
 | _::_,[],h=>h.elim
theorem BT{f:FuncId}{fs cs:Array Value}{xs:Array Operand}{tys:Array TypeId}{vs args:List Value}{Hin Hr:List AX}{post:Value→List AX→Prop}(ho:At ops N l o t (.call { callee:=.value x,args:=xs,argTypes:=tys }))
(hx:Bo l x=some (.func (.func f) fs cs))(hv:dD l xs.toList vs)(hf:AP P f=true)(hargs:fs.toList++vs++cs.toList=args)(hH:H=Hin++Hr)
(hc:WN P K w0 f args Hin (Hr++[Bf D]) post)
(h:∀v M,post v M→FF Hs (M++Hr)∧SL P ro K w0 N ops Hs items Q D ((t,v)::l) (M++Hr)):SL P ro K w0 N ops Hs (.cons (false,o) items) Q D l H:=by
 intro a w ha hw hs0
 subst hH
 have hw1:=GX ho.wt ha.vals
 simp only[PL,hw1,if_true]
 refine o9 (by rw[ho.op];exact GW rfl) (w':=w) (f:=f) (args:=args.toArray) ?_ ?_
 simp[execOp,ho.op,resolve,Deferred.ofValue,ha.vals.eval hx,invoke,NW hf]
 rw[dD.eval ha.vals hv,←hargs,List.append_assoc]
 refine(hc w (by simpa[List.append_assoc]using hw)).mono ?_
 rintro e w' ⟨v,M,rfl,hp,hw'⟩
 obtain⟨h1,h2⟩:=h v M hp
 have hw'':Bj K w0 ((M++Hr)++[Bf D]) w':=by simpa[List.append_assoc]using hw'
 exact⟨v,rfl,h1.hs hw'',h2 _ w' (by rw[ho.dst];exact ha.put (JB ho.lt) v) hw'' (h1.hs hw'')⟩
section
variable {P:Program}{ro:Option Nat}{K:Nat→Prop}{w0:World}{N:Nat}{Q:Dg}{D:List Nat}{l l':Tm}{H H' Hs L:List AX}{ops:Array Oper}{items:I6}{o:Oper}{t:Nat}{x:Operand}
def gv:Nat→List AX→Option (List AX×List AX)
 | 0,h=>some ([],h)
 | k+1,c::h=>match gv k h with
  | some (a,b)=>some (c::a,b)
  | none=>none
 | _+1,[]=>none
theorem Tq:∀ {k:Nat} {h a b:List AX} ,gv k h=some (a,b)→h=a++b
 | 0,h,a,b,e=>by cases e;rfl
 | k+1,c::h,a,b,e=>by
  rw[gv]at e
  split at e
  rename_i a' b' h1
  cases e
  rw[Tq h1];rfl
  cases e
 | _+1,[],a,b,e=>by cases e
def oY(l:Tm):List Operand→Option (List Value)
 | []=>some []
 | x::xs=>match Bo l x,oY l xs with
  | some v,some vs=>some (v::vs)
  | _,_=>none
theorem Xb:∀ {xs:List Operand} {vs:List Value} ,oY l xs=some vs→dD l xs vs
 | [],vs,h=>by cases h;trivial
 | x::xs,vs,h=>by
  rw[oY]at h
  split at h
  rename_i v vs' h1 h2
  cases h
  exact⟨h1,Xb h2⟩
  cases h
theorem Y3{op:Op}(h1:o.op=op)(h2:o.dst=some t)(h3:Nat.blt t N=true)(h4:Tw ops l o=some true):At ops N l o t op:=by
 first
  | exact⟨h1,h2,h3,h4⟩
  | (unfold At;rw[h1,h2,h3,h4])
theorem AQ{f:FuncId}{fs cs:Array Value}{xs:Array Operand}{tys:Array TypeId}{vs args:List Value}{Hin Hr M0:List AX}{u0:Value}(k:Nat)
(hf:AP P f=true)(hc:WN P K w0 f args Hin (Hr++[Bf D]) (fun u M=>u=u0∧M=M0))
(he:(o.op,o.dst,Nat.blt t N,Tw ops l o,Bo l x,oY l xs.toList,fs.toList++vs++cs.toList,gv k H)=(.call { callee:=.value x,args:=xs,argTypes:=tys },some t,true,some true,some (.func (.func f) fs cs),some vs,args,some (Hin,Hr)))
(h:SL P ro K w0 N ops [] items Q D ((t,u0)::l) (M0++Hr)):SL P ro K w0 N ops [] (.cons (false,o) items) Q D l H:=by
 simp only[Prod.mk.injEq]at he
 obtain⟨h1,h2,h3,h4,h5,h6,h8,h7⟩:=he
 refine BT (Hin:=Hin) (Hr:=Hr) (vs:=vs) (Y3 h1 h2 h3 h4) h5 (Xb h6) hf h8 (Tq h7) hc ?_
 rintro _ _ ⟨rfl,rfl⟩
 exact⟨trivial,h⟩
def sD(l:Tm):List ResultVar→Option Value
 | []=>some (.tuple #[])
 | [.tmp t]=>look l t
 | [.tmp t,.tmp u]=>match look l t,look l u with
  | some a,some b=>some (.tuple #[a,b])
  | _,_=>none
 | [.tmp t,.tmp u,.tmp s]=>match look l t,look l u,look l s with
  | some a,some b,some c=>some (.tuple #[a,b,c])
  | _,_,_=>none
 | _=>none
theorem zb{fn:Func}{v:Value}(h:sD l fn.results.toList=some v):∀a w,LU l a→HW K w0 H w→(results fn a.tmps).run P w=.ok v w:=by
 have hq:fn.results=fn.results.toList.toArray:=by simp
 generalize fn.results.toList=q at h hq
 unfold sD at h
 split at h
 cases h;exact Ed hq
 exact Cx hq h
 split at h
 cases h;exact C9 hq (by assumption) (by assumption)
 cases h
 split at h
 cases h;exact VA hq (by assumption) (by assumption) (by assumption)
 cases h
 cases h
theorem Ac{fn:Func}{A:Value}{B Hk H0:List AX}(is:List Nat)(k:Nat)
(he:(sD l fn.results.toList,gv k H)=(some A,some (Hk,H0)))(hB:pick is k Hk=B)(hn:(decide is.Nodup&&is.all (· < k))=true):
  SQ K w0 N (FP P fn (pf K w0 H0 (fun u M=>u=A∧M=B))) .ret D l H:=by
 simp only[Prod.mk.injEq]at he
 refine An (zb he.1) (Ao (M:=B) ⟨E,E⟩ fun w hw=>?_)
 rw[Tq he.2]at hw
 rw[←hB]
 exact Bj.pick (H:=Hk) hw is k hn
theorem BY{f:FuncId}{fs cs:Array Value}{xs:Array Operand}{tys:Array TypeId}{vs args:List Value}{Hin Hr:List AX}{post:Value→List AX→Prop}(k:Nat)
(hf:AP P f=true)(hc:WN P K w0 f args Hin (Hr++[Bf D]) post)
(he:(o.op,o.dst,Nat.blt t N,Tw ops l o,Bo l x,oY l xs.toList,fs.toList++vs++cs.toList,gv k H)=(.call { callee:=.value x,args:=xs,argTypes:=tys },some t,true,some true,some (.func (.func f) fs cs),some vs,args,some (Hin,Hr)))
(h:∀v M,post v M→SL P ro K w0 N ops [] items Q D ((t,v)::l) (M++Hr)):SL P ro K w0 N ops [] (.cons (false,o) items) Q D l H:=by
 simp only[Prod.mk.injEq]at he
 obtain⟨h1,h2,h3,h4,h5,h6,h8,h7⟩:=he
 refine BT (Hin:=Hin) (Hr:=Hr) (vs:=vs) (Y3 h1 h2 h3 h4) h5 (Xb h6) hf h8 (Tq h7) hc ?_
 exact fun v M hp=>⟨trivial,h v M hp⟩
theorem BM{Hk M H':List AX}(is:List Nat)(k:Nat)(hs:gv k H=some (Hk,M))(hn:(decide is.Nodup&&is.all (· < k))=true)(he:pick is k Hk++M=H'):∀w,Bj K w0 H w→Bj K w0 H' w:=fun w hw=>by
 rw[Tq hs]at hw
 rw[←he]
 exact Bj.pick (H:=Hk) hw is k hn
theorem BS{f:FuncId}{fs cs:Array Value}{xs:Array Operand}{tys:Array TypeId}{vs args:List Value}{Hin Hr M0:List AX}{u0:Value}(k:Nat)
(hf:AP P f=true)(hc:WN P K w0 f args Hin (Hr++[Bf D]) (fun u M=>u=u0∧M=M0))
(he:(o.op,o.dst,Nat.blt t N,Tw ops l o,Bo l x,oY l xs.toList,fs.toList++vs++cs.toList,gv k H)=(.call { callee:=.value x,args:=xs,argTypes:=tys },some t,true,some true,some (.func (.func f) fs cs),some vs,args,some (Hin,Hr)))
(hsub:FF Hs (M0++Hr))(h:SL P ro K w0 N ops Hs items Q D ((t,u0)::l) (M0++Hr)):SL P ro K w0 N ops Hs (.cons (false,o) items) Q D l H:=by
 simp only[Prod.mk.injEq]at he
 obtain⟨h1,h2,h3,h4,h5,h6,h8,h7⟩:=he
 refine BT (Hin:=Hin) (Hr:=Hr) (vs:=vs) (Y3 h1 h2 h3 h4) h5 (Xb h6) hf h8 (Tq h7) hc ?_
 rintro _ _ ⟨rfl,rfl⟩
 exact⟨hsub,h⟩
def plN(l:List Nat):List (Bool×Nat):=l.map fun k=>(Nat.beq (k%2) 1,k / 2)
theorem BH{fn:Func}{v:Value}{post:Value→List AX→Prop}{Hk H0:List AX}(is:List Nat)(k:Nat)
(hr:∀a w,LU l a→HW K w0 H w→(results fn a.tmps).run P w=.ok v w)(hs:gv k H=some (Hk,H0))(hn:(decide is.Nodup&&is.all (· < k))=true)(hp:post v (pick is k Hk)):
  SQ K w0 N (FP P fn (pf K w0 H0 post)) .ret D l H:=by
 refine An hr (Ao hp fun w hw=>?_)
 rw[Tq hs]at hw
 exact Bj.pick (H:=Hk) hw is k hn
theorem AL{α:Type}{c:Operand}{x y:Code}{b:Bool}{u v:Option α}{r:α}(h:_root_.cond b u v=some r)(hc:Bo l c=some (.bool b))(ht:b=true→u=some r→SX P ro K w0 N x Q D l H)(hf:b=false→v=some r→SX P ro K w0 N y Q D l H):
  SX P ro K w0 N (.cond c x y) Q D l H:=
 A7 hc (fun hb=>ht hb (by subst hb;exact h)) (fun hb=>hf hb (by subst hb;exact h))
theorem AF{α β:Type}{a:Option α}{f:α→Option β}{r:β}{C:Prop}(h:a.bind f=some r)(k:∀x,a=some x→f x=some r→C):C:=by
 obtain⟨x,h1,h2⟩:=Option.bind_eq_some_iff.1 h
 exact k x h1 h2
variable {tk:Bool}{v:Value}{y:Operand}
theorem J(he:(o.op,o.dst,Nat.blt t N,Tw ops l o,Bo l x)=(.move x,some t,true,some true,some v))(h:SL P ro K w0 N ops Hs items Q D ((t,v)::l) H):SL P ro K w0 N ops Hs (.cons (tk,o) items) Q D l H:=by
 simp only[Prod.mk.injEq]at he
 exact wg (Y3 he.1 he.2.1 he.2.2.1 he.2.2.2.1) he.2.2.2.2 h
theorem U(he:(o.op,o.dst,Nat.blt t N,Tw ops l o,Bo l x)=(.assign x,some t,true,some true,some v))(h:SL P ro K w0 N ops Hs items Q D ((t,v)::l) H):SL P ro K w0 N ops Hs (.cons (tk,o) items) Q D l H:=by
 simp only[Prod.mk.injEq]at he
 exact mN (Y3 he.1 he.2.1 he.2.2.1 he.2.2.2.1) he.2.2.2.2 h
theorem AC(he:(o.dst,Nat.blt t N,Tw ops l o)=(some t,true,some false))(h:SL P ro K w0 N ops Hs items Q D ((t,undef)::l) H):SL P ro K w0 N ops Hs (.cons (tk,o) items) Q D l H:=by
 simp only[Prod.mk.injEq]at he
 exact pp he.1 he.2.1 he.2.2 h
theorem AG{b off:Nat}{c:Array Value}{e ty:TypeId}{z:Nat×Nat}(i:Nat)(hs:KM P ty=true)
(he:(o.op,o.dst,Nat.blt t N,Tw ops l o,Bo l x,(bif tk then Hs else H)[i]?,c[off]?)=(.load ty x,some t,true,some true,some (vP b off),some (own b (.cells c e z)),some v))
(h:SL P ro K w0 N ops Hs items Q D ((t,v)::l) H):SL P ro K w0 N ops Hs (.cons (tk,o) items) Q D l H:=by
 simp only[Prod.mk.injEq]at he
 exact Bm (Y3 he.1 he.2.1 he.2.2.1 he.2.2.2.1) hs he.2.2.2.2.1 (Dd i he.2.2.2.2.2.1 he.2.2.2.2.2.2) h
theorem Z{op:BinOp}{ty uy:TypeId}{a b:Value}(he:(o.op,o.dst,Nat.blt t N,Tw ops l o,Bo l x,Bo l y)=(.binOp op ty x y uy,some t,true,some true,some a,some b))(hb:GT op a b v)
(h:SL P ro K w0 N ops Hs items Q D ((t,v)::l) H):SL P ro K w0 N ops Hs (.cons (tk,o) items) Q D l H:=by
 simp only[Prod.mk.injEq]at he
 exact mO (Y3 he.1 he.2.1 he.2.2.1 he.2.2.2.1) he.2.2.2.2.1 he.2.2.2.2.2 hb h
theorem AE{b off d f:Nat}{ty:TypeId}(he:(o.op,o.dst,Nat.blt t N,Tw ops l o,Bo l x)=(.fieldAddr ty x f,some t,true,some true,some (vP b off)))(hf:fo P ty f=some d)
(h:SL P ro K w0 N ops Hs items Q D ((t,vP b (off+d))::l) H):SL P ro K w0 N ops Hs (.cons (tk,o) items) Q D l H:=by
 simp only[Prod.mk.injEq]at he
 exact wd (Y3 he.1 he.2.1 he.2.2.1 he.2.2.2.1) he.2.2.2.2 hf h
end
def G4:Nat→Nat→List (Bool×Nat)
 | _,0=>[]
 | a,n+1=>(true,a)::G4 (a+1) n
end

section
variable {P:Program}{ro:Option Nat}{K:Nat→Prop}{w0:World}{N:Nat}{Q:Dg}{D:List Nat}{l l':Tm}{H H' Hs L:List AX}{ops:Array Oper}{items:I6}
def qE(P:Program)(K:Nat→Prop)(w0:World)(lp:Nat)(vs:List Value)(Hin:List AX)(R:Bool→List AX→Prop):Prop:=
 ∀w,Bj K w0 Hin w→∃f tmps asg body,(Instr.yield lp vs.toArray).run P w=.ok (.round lp f tmps asg body) w∧
  RoundIn Fence.wide 0 P lp f tmps asg body w fun e w'=>∃b M,e=.returned (.bool b)∧R b M∧Bj K w0 M w'
abbrev vY(lp:Nat):Value:=.func (.yield lp) #[] #[]
def qC(P:Program)(K:Nat→Prop)(w0:World)(f:FuncId)(cap:List Value)(Hit:List AX){α:Type}(enc:α→List Value)(xs:List α):Prop:=
 ∀(lp:Nat) (J9:List α→List AX→Prop) (X:List AX→Prop) (T:List AX),
  (∀pre x suf,xs=pre++x::suf→∀G,J9 pre G→∀M,qE P K w0 lp (enc x) (G++M) fun b G'=>∃G1,G'=G1++M∧(if b then J9 (pre++[x]) G1 else X G1))→
  ∀G,J9 [] G→WN P K w0 f (vY lp::cap) (Hit++G) T fun _ M=>J9 xs M∨X M
def Tl(r:Loop)(lp:Nat)(Rest:List AX)(st:LoopState):List AX:=own lp (.loop { r with state:=st,pending:=none })::Rest
def bgn(P:Program)(lp:Nat)(body:Code)(Qb:Dg):Dg
 | .normal,a,w=>∃w₂,(Instr.beginRound lp).run P w=.ok () w₂∧body.wpIn (Fc (some lp)) 0 P (NP Qb) a w₂
 | _,_,_=>False
def jy{α:Type}(K:Nat→Prop)(w0:World)(J9:List α→List AX→Prop)(X:Code→List AX→Prop)(pre:List α)(x:α)(T:List AX):Dg
 | .normal,_a,w=>∃G,J9 (pre++[x]) G∧Bj K w0 (G++T) w
 | .ret,_a,w=>∃G,X .ret G∧Bj K w0 (G++T) w
 | .exit id,_a,w=>∃G,X (.exit id) G∧Bj K w0 (G++T) w
 | _,_,_=>False
theorem Jm{r:Loop}{lp:Nat}{Rest G:List AX}{body:Code}{Qb:Dg}(h:SX P (some lp) K w0 N body Qb D l (G++Tl r lp Rest .busy)):
  SQ K w0 N (Go.Proofs.YtpaohlmgfifebaaGreatDoor.bgn P lp body Qb) .normal D l (G++Tl r lp Rest .ready):=by
 intro a w ha hw
 have hl:w.heap[lp]? = some (.loop { r with state:=.ready,pending:=none }):=hw.holds (own lp _) (by simp[Tl])
 refine⟨_,run_beginRound hl rfl,h a _ ha ?_⟩
 have h2:=hw.putAt (b:=lp) (o:=.loop { r with state:=.ready,pending:=none }) (o':=.loop { r with state:=.busy,pending:=none }) G.length (by simp[Tl])
 have e:(G++Tl r lp Rest .ready).set G.length (own lp (.loop { r with state:=.busy,pending:=none }))=G++Tl r lp Rest .busy:=by
  simp[Tl]
 rw[e]at h2
 exact h2
theorem IK{α:Type}{J9:List α→List AX→Prop}{X:Code→List AX→Prop}{pre:List α}{x:α}{T G:List AX}(hJ:J9 (pre++[x]) G)(hH:∀w,Bj K w0 H w→Bj K w0 (G++T) w):
  SQ K w0 N (jy K w0 J9 X pre x T) .normal D l H:=fun _a w _ha hw=>⟨G,hJ,hH w hw.dropMarks⟩
theorem qA{α:Type}{J9:List α→List AX→Prop}{X:Code→List AX→Prop}{pre:List α}{x:α}{T G:List AX}(hJ:X .ret G)(hH:∀w,Bj K w0 H w→Bj K w0 (G++T) w):
  SQ K w0 N (jy K w0 J9 X pre x T) .ret D l H:=fun _a w _ha hw=>⟨G,hJ,hH w hw.dropMarks⟩
theorem NB{α:Type}{J9:List α→List AX→Prop}{X:Code→List AX→Prop}{pre:List α}{x:α}{T G:List AX}{id:Nat}(hJ:X (.exit id) G)(hH:∀w,Bj K w0 H w→Bj K w0 (G++T) w):
  SQ K w0 N (jy K w0 J9 X pre x T) (.exit id) D l H:=fun _a w _ha hw=>⟨G,hJ,hH w hw.dropMarks⟩
def SH:List Tmp→List Value→Tm→Tm
 | p::ps,v::vs,l=>SH ps vs ((p,v)::l)
 | _,_,l=>l
theorem Su:∀(ps:List Tmp) (vs:List Value) (l:Tm) (tm:Array Value),(∀p∈ps,p<tm.size)→LU l { tmps:=tm,defers:=[] }→
  LU (SH ps vs l) { tmps:=(ps.zip vs).foldl (fun tm (t,a)=>tm.setIfInBounds t a) tm,defers:=[] }
 | [],_,l,tm,_,h=>by simpa[SH]using h
 | p::ps,[],l,tm,_,h=>by simpa[SH]using h
 | p::ps,v::vs,l,tm,hp,h=>by
  simp only[SH,List.zip_cons_cons,List.foldl_cons]
  refine Su ps vs ((p,v)::l) _ (fun q hq=>by simpa using hp q (List.mem_cons_of_mem _ hq)) ?_
  have:=(show N8 tm.size [] l { tmps:=tm,defers:=[] }from⟨rfl,rfl,h⟩).put (hp p (List.mem_cons_self ..)) v
  exact this.vals
theorem K5:∀(z:List (Tmp×Value)) (tm:Array Value),(z.foldl (fun tm (t,a)=>tm.setIfInBounds t a) tm).size=tm.size
 | [],_=>rfl
 | x::z,tm=>by simp only[List.foldl_cons];rw[K5 z];simp
theorem Va{α:Type}{g:Operand}{ps:Array Tmp}{assign body:Code}{f:FuncId}{cap:List Value}{Hit:List AX}{enc:α→List Value}(xs:List α){G0:List AX}
(J9:List α→List AX→Prop)(X:Code→List AX→Prop)
(hg:Bo l g=some (.func (.func f) #[] cap.toArray))(hf:AP P f=true)(hps:ps.toList.all (fun p=>Nat.blt p N)=true)(hlen:∀x,(enc x).length=ps.size)
(hseq:qC P K w0 f cap Hit enc xs)(hH:H=Hit++G0)(h0:J9 [] G0)
(hbody:∀pre x suf G,xs=pre++x::suf→J9 pre G→∀r lp Rest,SX P (some lp) K w0 N assign (bgn P lp body (jy K w0 J9 X pre x (Tl r lp Rest .busy))) [] (SH ps.toList (enc x) l) (G++Tl r lp Rest .ready))
(hdone:∀G D,J9 xs G→SQ K w0 N Q .normal D l G)
(hstop:∀c G D,X c G→SX P none K w0 N c Q D l G):SX P none K w0 N (.rangeFunc g ps assign body) Q D l H:=by
 intro a w ha hw
 subst hH
 refine wpIn_rangeFunc fun fn _=>?_
 let r:Loop:={ state:=.ready,pending:=none,fn:=fn,tmps:=a.tmps,params:=ps,assign:=assign,body:=body,defers:=w.heap.size }
 refine⟨w.heap.size+1,[{ target:=.collected w.heap.size,args:=#[] }],(w.alloc (.deferred (some []))).alloc (.loop r),{ target:=.fn (.func f) cap.toArray,args:=#[vY (w.heap.size+1)] },(w.alloc (.deferred (some []))).alloc (.loop r),
  f,(vY (w.heap.size+1)::cap).toArray,(w.alloc (.deferred (some []))).alloc (.loop r),?_,?_,fun _ _=>PJ _ _,?_,fun hd=>by simp[Qn]at hd,?_⟩
 rw[N5];exact run_enterLoop_outer fn a.tmps ps assign body
 have hev:=ha.vals.eval hg
 simp[resolve,hev,Deferred.ofValue]
 rfl
 simp[invoke,NW hf]
 
 generalize hlp:w.heap.size+1=lp
 have hw1:Bj K w0 ((Hit++(Tl r lp [] .ready++G0))++[Bf (w.heap.size::D)]) ((w.alloc (.deferred (some []))).alloc (.loop r)):=by
  have h1:=(hw.alloc (.deferred (some []))).alloc (.loop r)
  rw[World.size_alloc,hlp]at h1
  
  have hm:Bj K w0 (Bf (w.heap.size::D)::own lp (.loop r)::(Hit++G0)) ((w.alloc (.deferred (some []))).alloc (.loop r)):=by
   have hp:(own lp (.loop r)::own w.heap.size (.deferred (some []))::(Hit++G0++[Bf D])).Perm (own w.heap.size (.deferred (some []))::Bf D::own lp (.loop r)::(Hit++G0)):=by
    refine(List.Perm.swap _ _ _).trans (List.Perm.cons _ ?_)
    refine(List.Perm.cons _ (List.perm_append_comm (l₁:=Hit++G0) (l₂:=[Bf D]))).trans ?_
    exact List.Perm.swap _ _ _
   have h2:=h1.perm hp
   have hpw:=List.pairwise_cons.1 h2.disj
   have hpw2:=List.pairwise_cons.1 hpw.2
   have hmk:=h2.holds (Bf D) zS
   have hnew:=h2.holds (own w.heap.size (.deferred (some []))) (List.mem_cons_self ..)
   refine⟨h2.os,h2.tape,h2.output,h2.size,h2.klt,h2.keep,?_,?_,?_⟩
   intro c hc
   rcases List.mem_cons.1 hc with rfl | hc
   refine⟨List.nodup_cons.2 ⟨fun hin=>hpw.1 (Bf D) zS _ rfl hin,hmk.1⟩,fun b hb=>?_⟩
   rcases List.mem_cons.1 hb with rfl | hb
   exact hnew
   exact hmk.2 b hb
   exact h2.holds c (by simp only[List.mem_cons]at hc ⊢;exact .inr (.inr hc))
   intro c hc b hb
   rcases List.mem_cons.1 hc with rfl | hc
   rcases List.mem_cons.1 hb with rfl | hb
   exact h2.foot (own w.heap.size (.deferred (some []))) (List.mem_cons_self ..) _ rfl
   exact h2.foot (Bf D) zS b hb
   exact h2.foot c (by simp only[List.mem_cons]at hc ⊢;exact .inr (.inr hc)) b hb
   refine List.pairwise_cons.2 ⟨fun c hc b hb hb'=>?_,hpw2.2⟩
   rcases List.mem_cons.1 hb with rfl | hb
   exact hpw.1 c (List.mem_cons_of_mem _ hc) _ rfl hb'
   exact hpw2.1 c hc b hb hb'
  refine hm.perm ?_
  have e:Tl r lp [] .ready=[own lp (.loop r)]:=rfl
  rw[e]
  refine(List.perm_append_comm (l₁:=[Bf (w.heap.size::D)])).trans (List.Perm.append_right _ ?_)
  simpa using(List.perm_middle (l₁:=Hit) (a:=own lp (.loop r)) (l₂:=G0)).symm
 have hN:∀p∈ps.toList,p<a.tmps.size:=fun p hp=>by
  rw[ha.size]
  exact JB (List.all_eq_true.1 hps p hp)
 let D':=w.heap.size::D
 have hcon:=hseq lp (fun pre Gx=>∃G,J9 pre G∧Gx=Tl r lp [] .ready++G) (fun Gx=>∃c G,X c G∧Gx=own lp (.loop { r with state:=.done,pending:=some c })::G) [Bf D'] ?_ (Tl r lp [] .ready++G0) ⟨G0,h0,rfl⟩
 refine SV none ((hcon _ hw1).mono ?_)
 rintro e w' ⟨v,M,rfl,hM,hw'⟩
 have hD:N8 N D' l { tmps:=a.tmps,defers:=[{ target:=.collected w.heap.size,args:=#[] }]++a.defers }:=⟨ha.size,by simp[ha.defers,D',d6],ha.vals⟩
 rcases hM with⟨G,hJ,rfl⟩ | ⟨c,G,hX,rfl⟩
 have hl:w'.heap[lp]? = some (.loop { r with state:=.ready,pending:=none }):=hw'.holds (own lp _) (by simp[Tl])
 refine⟨_,_,run_endLoop hl zS,?_⟩
 refine hdone G D' hJ _ _ hD ?_
 have h3:=(show Bj K w0 (own lp (.loop { r with state:=.ready,pending:=none })::(G++[Bf D'])) w' from hw').put (o':=.loop { r with state:=.exhausted,pending:=none })
 exact h3.sublist (List.sublist_cons_self _ _)
 have hl:w'.heap[lp]? = some (.loop { r with state:=.done,pending:=some c }):=hw'.holds (own lp _) zS
 refine⟨_,_,run_endLoop hl zS,?_⟩
 refine hstop c G D' hX _ _ hD ?_
 have h3:=(show Bj K w0 (own lp (.loop { r with state:=.done,pending:=some c })::(G++[Bf D'])) w' from hw').put (o':=.loop { r with state:=.exhausted,pending:=some c })
 exact h3.sublist (List.sublist_cons_self _ _)
 
 rintro pre x suf hxs Gx ⟨G,hJ,rfl⟩ M w₁ hw₁
 have hl:w₁.heap[lp]? = some (.loop { r with state:=.ready,pending:=none }):=hw₁.holds (own lp _) (by simp[Tl])
 refine⟨_,_,_,_,run_yield hl (by simp[hlen];rfl),?_⟩
 refine roundIn_of_wpIn trivial ?_
 have hw₂:Bj K w0 ((G++Tl r lp M .ready)++[Bf []]) w₁:=by
  refine Bj.marks0 (hw₁.perm ?_)
  show(own lp _::(G++M)).Perm (G++own lp _::M)
  exact List.perm_middle.symm
 have hzip:((ps.zip (enc x).toArray).foldl (fun tmps (t,a)=>tmps.setIfInBounds t a) a.tmps)=((ps.toList.zip (enc x)).foldl (fun tm (t,a)=>tm.setIfInBounds t a) a.tmps):=by
  rw[←Array.foldl_toList,Array.toList_zip]
 have hb:=hbody pre x suf G hxs hJ r lp M { tmps:=(ps.zip (enc x).toArray).foldl (fun tmps (t,a)=>tmps.setIfInBounds t a) a.tmps,defers:=[] } w₁
  ⟨by rw[hzip,K5];exact ha.size,rfl,by rw[hzip];exact Su ps.toList (enc x) l a.tmps hN ha.vals⟩ hw₂
 refine wpIn_mono hb ?_
 intro e a' w' q
 cases e with
 | normal=>
  obtain⟨w₃,hbr,hbody'⟩:=q
  refine⟨w₃,hbr,wpIn_mono hbody' ?_⟩
  have fin:∀(jump:Option Code) (G':List AX) (w₄:World),Bj K w0 (G'++Tl r lp M .busy) w₄→
    (Instr.endRound lp jump).run P w₄=.ok (.bool jump.isNone) (w₄.putObj lp (.loop { r with state:=if jump.isNone then .ready else .done,pending:=jump }))∧
    Bj K w0 ((own lp (.loop { r with state:=if jump.isNone then .ready else .done,pending:=jump })::G')++M) (w₄.putObj lp (.loop { r with state:=if jump.isNone then .ready else .done,pending:=jump })):=by
   intro jump G' w₄ h4
   have hl4:w₄.heap[lp]? = some (.loop { r with state:=.busy,pending:=none }):=h4.holds (own lp _) (by simp[Tl])
   refine⟨run_endRound (r:={ r with state:=.busy,pending:=none }) jump hl4,?_⟩
   have h5:Bj K w0 (own lp (.loop { r with state:=.busy,pending:=none })::(G'++M)) w₄:=h4.perm List.perm_middle
   exact h5.put
  intro e₂ a₂ w₄ q₂
  cases e₂ with
  | normal=>
   obtain⟨G',hJ',h4⟩:=q₂
   obtain⟨hrun,h5⟩:=fin none G' w₄ h4
   exact⟨_,_,hrun,_,_,rfl,⟨_,rfl,by simp only[Option.isNone_none,if_true];exact⟨G',hJ',rfl⟩⟩,h5⟩
  | ret=>
   obtain⟨G',hX',h4⟩:=q₂
   obtain⟨hrun,h5⟩:=fin (some .ret) G' w₄ h4
   exact⟨_,_,hrun,_,_,rfl,⟨_,rfl,by simp only[Option.isNone_some,Bool.false_eq_true,if_false];exact⟨_,G',hX',rfl⟩⟩,h5⟩
  | exit id=>
   obtain⟨G',hX',h4⟩:=q₂
   obtain⟨hrun,h5⟩:=fin (some (.exit id)) G' w₄ h4
   exact⟨_,_,hrun,_,_,rfl,⟨_,rfl,by simp only[Option.isNone_some,Bool.false_eq_true,if_false];exact⟨_,G',hX',rfl⟩⟩,h5⟩
  | goto _=>exact q₂.elim
  | panic _=>exact q₂.elim
  | outgrown=>exact q₂.elim
 | exit _=>exact q.elim
 | goto _=>exact q.elim
 | ret=>exact q.elim
 | panic _=>exact q.elim
 | outgrown=>exact q.elim
end

section
variable {P:Program}{ro:Option Nat}{K:Nat→Prop}{w0:World}{N:Nat}{Q:Dg}{D:List Nat}{l l':Tm}{H H' Hs L:List AX}{ops:Array Oper}{items:I6}
variable {tk:Bool}{o:Oper}{t:Nat}{v:Value}{x y z:Operand}
def D7(e:TypeId)(sz:Nat)(v:Value)(n:Nat)(xs:List Value):AX:=
 ⟨fun b=>v.ownBlock=some b,fun w=>w.ownsRowF 0 e sz v n xs,fun w w' h hw=>by
  refine⟨hw.1,?_⟩
  rcases hw.2 with hn | ⟨g,cap,cur,fz,rfl,hb,hgg,rest⟩
  exact .inl hn
  exact .inr ⟨g,cap,cur,fz,rfl,hb,by rw[h g rfl];exact hgg,rest⟩⟩
def RW(P:Program)(t:TypeId):Option Nat:=(P.info? t).map (·.bytes)
theorem RD{e:TypeId}{sz by_:Nat}{zv:Value}(h1:DU P e=some sz)(h2:RW P e=some by_)(h3:Ev P e=some zv):∃i,P.info? e=some i∧i.size=sz∧i.bytes=by_∧i.zero=some zv:=by
 unfold DU at h1;unfold RW at h2;unfold Ev at h3
 cases hi:P.info? e with
 | none=>simp[hi]at h1
 | some i=>
  simp[hi]at h1 h2 h3
  exact⟨i,rfl,h1,h2,h3⟩
theorem Yk(w:World)(t ty e:TypeId)(i:TypeInfo)(z:Value)(size bytes:Nat)(ht:P.underlying t=some (.slice e))(hi:P.info? e=some i)(hz:i.zero=some z)
(hsize:i.size=size)(hby:i.bytes=bytes)(hzs:z.cells.size=size)(hsz:0<size)
(v:Value)(n:Nat)(xs:List Value)(hown:w.ownsRowF 0 e size v n xs)
(a:Addr)(m c:Nat)(news:List Value)(hl:news.length=m*size)(hnews:∀j u,news[j]? = some u→w.cell? (a.add j)=some u)(h1:∀u∈news,u.oneCell'=true)
(h63:n+m≤maxLen)(hbytes:(n+m)*bytes≤140737488355328):
  ∃v' w',(Builtin.append_ #[t,t] ty #[v,.slice (some a) m c]).run P w=.ok v' w'∧w'.ownsRowF 0 e size v' (n+m) (xs++news)∧w.grownBy w' v.ownBlock∧
   (v'.ownBlock=v.ownBlock∨v'.ownBlock=some w.heap.size):=by
 rcases hown.2 with⟨rfl,rfl⟩ | ⟨g,cap,cur,fz,rfl,hbg,hg,hfz,hnc,hcm,hcs,htake⟩
 obtain⟨v',w',r1,r2,r3,_,r4⟩:=run_append_own_at (P:=P) w 0 t ty e i z size bytes ht hi hz hsize hby hzs hsz (.slice none 0 0) 0 xs ⟨hown.1,.inl ⟨rfl,rfl⟩⟩ a m c news hl hnews h1 h63 hbytes (Nat.zero_le _)
 exact⟨v',w',r1,World.ownsRowF_of r2,r3,r4⟩
 subst hsize
 subst hby
 have hsmall:n+m≤9223372036854775807:=by simp only[maxLen]at h63;omega
 have hlen:(xs++news).length=(n+m)*i.size:=by rw[List.length_append,hown.1,hl,Nat.add_mul]
 by_cases hroom:n+m≤cap
 have hfit:n*i.size+news.length≤cur.size:=by rw[hl,hcs,←Nat.add_mul];exact Nat.mul_le_mul_right _ hroom
 have hr:=run_append_roomF (P:=P) w t ty e i ht hi g n cap cur fz hg hfz a m c news hl hnews h1 hroom hfit
 refine⟨_,_,hr,⟨hlen,.inr ⟨g,cap,_,fz,rfl,hbg,setRow_heap w g cur _ e _ hg,Nat.le_trans hfz (Nat.mul_le_mul_right _ (Nat.le_add_right n m)),hroom,hcm,?_,?_⟩⟩,⟨rfl,rfl,rfl,by simp,fun k _ hk=>setRow_other w g k _ (fun e=>hk (by simp[Value.ownBlock,e]))⟩,.inl rfl⟩
 simp only[List.size_toArray,List.length_append,List.length_take,List.length_drop,Array.length_toList]
 omega
 rw[htake,←hlen]
 exact List.take_left
 have holds:∀j u,xs[j]? = some u→w.cell? ((⟨g,0,none⟩:Addr).add j)=some u:=hown.cells (g:=g) rfl
 have hr:=run_append_grow (P:=P) w t ty e i z ht hi hz ⟨g,0,none⟩ n cap xs hown.1 holds a m c news hl hnews zO zO (growslice_fits zO hbytes)
 have hge:=grownCap_ge w (n+m) cap e
 have hcm2:grownCap w (n+m) cap e≤maxLen:=grownCap_le_maxLen w (n+m) cap e h63
 refine⟨_,_,hr,⟨hlen,.inr ⟨w.heap.size,_,_,(0,0),rfl,Nat.zero_le _,heap_alloc_new w.drew _,Nat.zero_le _,hge,hcm2,?_,?_⟩⟩,⟨rfl,rfl,rfl,by simp,fun k hk _=>heap_alloc_old w.drew _ k hk⟩,.inr rfl⟩
 simp only[Array.size_append,List.size_toArray,size_zeroCells,hzs,hown.1,hl,←Nat.add_mul]
 congr 1
 omega
 simp only[Array.toList_append,List.append_assoc]
 rw[←List.append_assoc,←hlen]
 exact List.take_left
theorem Yl(w:World)(t u ty e:TypeId)(i:TypeInfo)(ht:P.underlying t=some (.slice e))(hu:P.underlying u=some .string)(hi:P.info? e=some i)(hz:i.zero=some (.int .u8 0))
(hsize:i.size=1)(hby:i.bytes=1)
(v:Value)(n:Nat)(xs:List Value)(hown:w.ownsRowF 0 e 1 v n xs)(s:ByteArray)
(h63:n+s.size≤maxLen)(hbytes:n+s.size≤140737488355328):
  ∃v' w',(Builtin.append_ #[t,u] ty #[v,.string s]).run P w=.ok v' w'∧w'.ownsRowF 0 e 1 v' (n+s.size) (xs++Lib.strCells s)∧w.grownBy w' v.ownBlock∧
   (v'.ownBlock=v.ownBlock∨v'.ownBlock=some w.heap.size):=by
 rcases hown.2 with⟨rfl,rfl⟩ | ⟨g,cap,cur,fz,rfl,hbg,hg,hfz,hnc,hcm,hcs,htake⟩
 have hxs:xs=[]:=List.length_eq_zero_iff.1 (by simpa using hown.1)
 subst hxs
 by_cases h0:s.size=0
 obtain⟨v',w',h1,h2,h3,h4⟩:=Lib.run_append_own_string (P:=P) w 0 t u ty e i ht hu hi hz hsize hby (.slice none 0 0) 0 [] ⟨by simp,.inl ⟨rfl,rfl⟩⟩ s h63 hbytes (Nat.zero_le _)
 refine⟨v',w',h1,World.ownsRowF_of h2,h3,.inl ?_⟩
 rw[h4.2 ⟨rfl,h0⟩]
 have hr:=run_append_nil_string (P:=P) w t u ty e i (.int .u8 0) ht hu hi hz s zO (by simp only[maxLen]at h63;omega) (by rw[hby];omega)
 have hge:=grownCap_ge w s.size 0 e
 have hcm2:grownCap w s.size 0 e≤maxLen:=grownCap_le_maxLen w s.size 0 e zO
 have hsc:(s.data.map (fun b=>Value.int .u8 b.toNat)).toList=Lib.strCells s:=by simp[Lib.strCells]
 have hscl:(Lib.strCells s).length=s.size:=Lib.strCells_length s
 refine⟨_,_,hr,⟨by simp[hscl],.inr ⟨w.heap.size,_,_,(0,0),by simp,Nat.zero_le _,heap_alloc_new w.drew _,Nat.zero_le _,by omega,hcm2,?_,?_⟩⟩,⟨rfl,rfl,rfl,by simp,fun k hk _=>heap_alloc_old w.drew _ k hk⟩,.inr rfl⟩
 have hz1:(Value.int IntKind.u8 0).cells.size=1:=rfl
 have hds:(s.data.map (fun b=>Value.int .u8 b.toNat)).size=s.size:=by simp
 rw[Array.size_append,hds,size_zeroCells,hz1]
 omega
 rw[Array.toList_append,hsc,List.nil_append]
 have:(0+s.size)*1=(Lib.strCells s).length:=by rw[hscl];omega
 rw[this]
 exact List.take_left
 have hsmall:n+s.size≤9223372036854775807:=by simp only[maxLen]at h63;omega
 have hxl:xs.length=n:=by simpa using hown.1
 have hlen:(xs++Lib.strCells s).length=(n+s.size)*1:=by rw[List.length_append,hxl,Lib.strCells_length,Nat.mul_one]
 by_cases hroom:n+s.size≤cap
 have hcs':cur.size=cap:=by simpa using hcs
 have hr:=Lib.run_append_room_stringF (P:=P) w t u ty e i ht hu hi hsize g n cap cur fz hg (by simpa using hfz) s hroom zO
 refine⟨_,_,hr,⟨hlen,.inr ⟨g,cap,_,fz,rfl,hbg,setRow_heap w g cur _ e _ hg,by omega,hroom,hcm,?_,?_⟩⟩,⟨rfl,rfl,rfl,by simp,fun k _ hk=>setRow_other w g k _ (fun e=>hk (by simp[Value.ownBlock,e]))⟩,.inl rfl⟩
 simp only[List.size_toArray,List.length_append,List.length_take,List.length_drop,Array.length_toList,Lib.strCells_length]
 omega
 have ht':cur.toList.take n=xs:=by simpa using htake
 rw[ht',←hlen]
 exact List.take_left
 have holds:∀j u,xs[j]? = some u→w.cell? ((⟨g,0,none⟩:Addr).add j)=some u:=hown.cells (g:=g) rfl
 have hr:=Lib.run_append_grow_string (P:=P) w t u ty e i (.int .u8 0) ht hu hi hz ⟨g,0,none⟩ n cap xs (by rw[hsize];simpa using hxl) holds s zO zO (by rw[hby];exact growslice_fits zO zO)
 have hge:=grownCap_ge w (n+s.size) cap e
 have hcm2:grownCap w (n+s.size) cap e≤maxLen:=grownCap_le_maxLen w (n+s.size) cap e h63
 refine⟨_,_,hr,⟨hlen,.inr ⟨w.heap.size,_,_,(0,0),rfl,Nat.zero_le _,heap_alloc_new w.drew _,Nat.zero_le _,hge,hcm2,?_,?_⟩⟩,⟨rfl,rfl,rfl,by simp,fun k hk _=>heap_alloc_old w.drew _ k hk⟩,.inr rfl⟩
 have hz1:(Value.int IntKind.u8 0).cells.size=1:=rfl
 simp only[Array.size_append,List.size_toArray,size_zeroCells,hz1,hxl,Lib.strCells_length]
 omega
 simp only[Array.toList_append,List.append_assoc]
 rw[←List.append_assoc,←hlen]
 exact List.take_left
theorem Bj.turnAt{M:List AX}{w w':World}{c d:AX}(i:Nat)(h:Bj K w0 (H++M) w)(hi:H[i]? = some c)(h1:w'.os=w.os)(h2:w'.tape=w.tape)(h3:w'.output=w.output)(h4:w.heap.size≤w'.heap.size)
(h5:∀b,b<w.heap.size→¬c.foot b→w'.heap[b]? = w.heap[b]?)(hd:d.holds w')(hf:∀b,d.foot b→(c.foot b∨w.heap.size≤b)∧b<w'.heap.size):Bj K w0 (H.set i d++M) w':=by
 obtain⟨hlt,hget⟩:=List.getElem?_eq_some_iff.1 hi
 have hsplit:H=H.take i++c::H.drop (i+1):=by
  rw[←hget];simp
 have hset:H.set i d=H.take i++d::H.drop (i+1):=by
  rw[List.set_eq_take_append_cons_drop,if_pos hlt]
 rw[hset]
 rw[hsplit]at h
 have hp:(H.take i++c::H.drop (i+1)++M).Perm (c::(H.take i++H.drop (i+1)++M)):=by simp
 have hp':(d::(H.take i++H.drop (i+1)++M)).Perm (H.take i++d::H.drop (i+1)++M):=by rw[List.perm_comm];simp
 exact((h.perm hp).turn h1 h2 h3 h4 h5 hd hf).perm hp'
theorem W7{ty e:TypeId}{sz by_ n m c:Nat}{zv:Value}{xs news:List Value}{ad:Addr}(i:Nat)(ho:At ops N l o t (.call { callee:=.builtin .append,args:=#[x,y],argTypes:=#[ty,ty] }))
(hty:P.underlying ty=some (.slice e))(hsz:DU P e=some sz)(hby:RW P e=some by_)(hze:Ev P e=some zv)(hzs:zv.cells.size=sz)(hsz0:0<sz)
(hx:Bo l x=some v)(hy:Bo l y=some (.slice (some ad) m c))(hi:H[i]? = some (D7 e sz v n xs))
(hl:news.length=m*sz)(hnews:∀w,HW K w0 H w→∀j u,news[j]? = some u→w.cell? (ad.add j)=some u)(h1:∀u∈news,u.oneCell'=true)(hb:(n+m)*by_≤140737488355328)(h63:n+m≤9223372036854775807)
(hs:∀v',FF Hs (H.set i (D7 e sz v' (n+m) (xs++news))))
(h:∀v',SL P ro K w0 N ops Hs items Q D ((t,v')::l) (H.set i (D7 e sz v' (n+m) (xs++news)))):SL P ro K w0 N ops Hs (.cons (false,o) items) Q D l H:=
 IJ (fun v'=>v') (fun v'=>H.set i (D7 e sz v' (n+m) (xs++news))) ho rfl (fun a w ha hw=>by
  obtain⟨ii,hii,e1,e2,e3⟩:=RD hsz hby hze
  have hrow:w.ownsRowF 0 e sz v n xs:=hw.holds _ (List.mem_append_left _ (List.mem_of_getElem? hi))
  obtain⟨v',w',hr,hr2,hr3,hr4⟩:=Yk (P:=P) w ty o.type e ii zv sz by_ hty hii e3 e1 e2 hzs hsz0 v n xs hrow ad m c news hl (hnews w hw.dropMarks.s) h1 (by simp only[maxLen];omega) hb
  refine⟨v',w',?_,hw.turnAt i hi hr3.os hr3.tape hr3.output hr3.size (fun b hb hne=>hr3.block b hb (fun e=>hne e.symm)) hr2 ?_⟩
  unfold execOp
  simp only[ho.op,resolve,invoke,builtin,Sem.run_bind,Sem.run_pure,Result.andThen_ok,List.map_toArray,List.map_cons,List.map_nil,ha.eval hx,ha.eval hy,hr]
  intro b hb
  refine⟨?_,(hr2.lt b hb).2⟩
  have hb':v'.ownBlock=some b:=hb
  rcases hr4 with h4 | h4
  exact .inl (by rw[h4]at hb';exact hb')
  rw[h4]at hb'
  right
  simp at hb'
  omega) hs h
theorem gz(s:List UInt8):Lib.strCells (ByteArray.mk ⟨s⟩)=s.map fun b=>FE b:=by simp[Lib.strCells]
theorem pg{ty u e:TypeId}{n:Nat}{xs:List Value}{s:List UInt8}(i:Nat)(ho:At ops N l o t (.call { callee:=.builtin .append,args:=#[x,y],argTypes:=#[ty,u] }))
(hty:P.underlying ty=some (.slice e))(hu:P.underlying u=some .string)(hsz:DU P e=some 1)(hby:RW P e=some 1)(hze:Ev P e=some (.int .u8 0))
(hx:Bo l x=some v)(hy:Bo l y=some (vS s))(hi:H[i]? = some (D7 e 1 v n xs))(hb:n+s.length≤140737488355328)
(hs:∀v',FF Hs (H.set i (D7 e 1 v' (n+s.length) (xs++s.map fun b=>FE b))))
(h:∀v',SL P ro K w0 N ops Hs items Q D ((t,v')::l) (H.set i (D7 e 1 v' (n+s.length) (xs++s.map fun b=>FE b)))):SL P ro K w0 N ops Hs (.cons (false,o) items) Q D l H:=
 IJ (fun v'=>v') (fun v'=>H.set i (D7 e 1 v' (n+s.length) (xs++s.map fun b=>FE b))) ho rfl (fun a w ha hw=>by
  obtain⟨ii,hii,e1,e2,e3⟩:=RD hsz hby hze
  have hrow:w.ownsRowF 0 e 1 v n xs:=hw.holds _ (List.mem_append_left _ (List.mem_of_getElem? hi))
  have hss:(ByteArray.mk ⟨s⟩).size=s.length:=rfl
  obtain⟨v',w',hr,hr2,hr3,hr4⟩:=Yl (P:=P) w ty u o.type e ii hty hu hii e3 e1 e2 v n xs hrow ⟨⟨s⟩⟩ (by simp only[maxLen,hss];omega) (by rw[hss];exact hb)
  rw[hss,gz]at hr2
  refine⟨v',w',?_,hw.turnAt i hi hr3.os hr3.tape hr3.output hr3.size (fun b hb hne=>hr3.block b hb (fun e=>hne e.symm)) hr2 ?_⟩
  unfold execOp
  simp only[ho.op,resolve,invoke,builtin,Sem.run_bind,Sem.run_pure,Result.andThen_ok,List.map_toArray,List.map_cons,List.map_nil,ha.eval hx,ha.eval hy,hr]
  intro b hb
  refine⟨?_,(hr2.lt b hb).2⟩
  have hb':v'.ownBlock=some b:=hb
  rcases hr4 with h4 | h4
  exact .inl (by rw[h4]at hb';exact hb')
  rw[h4]at hb'
  right
  simp at hb'
  omega) hs h
theorem Bj.nilRow{w:World}(e:TypeId)(sz:Nat)(h:Bj K w0 H w):Bj K w0 (D7 e sz (.slice none 0 0) 0 []::H) w:=by
 refine h.cons (n:=w.heap.size) (Nat.le_refl _) (fun d hd b hb=>(h.foot d hd b hb).1) h.kltw (World.ownsRowF_nil ..) ?_
 intro b hb
 simp[D7,Value.ownBlock]at hb
theorem KR{c:Code}(e:TypeId)(sz:Nat)(h:SX P ro K w0 N c Q D l (D7 e sz (.slice none 0 0) 0 []::H)):SX P ro K w0 N c Q D l H:=
 fun a w ha hw=>h a w ha (hw.nilRow e sz)
theorem Tx(f:Operand→Value):∀l:List (Nat×Operand),l.map (fun(i,x)=>(i,f x))=(l.map (·.1)).zip ((l.map (·.2)).map f)
 | []=>rfl
 | (i,x)::r=>by simp[Tx f r]
theorem Wy:∀(vs:List Value) (c:Array Value) (off:Nat),(Fp c off vs).size=c.size
 | [],_,_=>rfl
 | v::r,c,off=>by simp[Fp,Wy r]
theorem pL(l:List Value)(off:Nat)(v:Value)(h:off<l.length):(l.set off v).take (off+1)=l.take off++[v]:=by
 rw[List.set_eq_take_append_cons_drop,if_pos h]
 have e:off+1=(l.take off++[v]).length:=by simp;omega
 have e2:l.take off++v::l.drop (off+1)=(l.take off++[v])++l.drop (off+1):=by simp
 rw[e2,e]
 exact List.take_left
theorem Mu:∀(vs:List Value) (c:Array Value) (off:Nat),off+vs.length≤c.size→(Fp c off vs).toList=c.toList.take off++vs++c.toList.drop (off+vs.length)
 | [],c,off,h=>by simp[Fp]
 | v::r,c,off,h=>by
  simp only[List.length_cons]at h
  rw[Fp,Mu r _ _ zQ]
  simp only[Array.toList_setIfInBounds]
  have hlt:off<c.toList.length:=by simp;omega
  rw[pL _ _ _ hlt,List.drop_set_of_lt zO]
  simp only[List.append_assoc,List.cons_append,List.nil_append,List.length_cons]
  have e:off+1+r.length=off+(r.length+1):=zO
  rw[e]
theorem R8:∀(vs:List Value) (k off:Nat) (c:Array Value),((vs.zipIdx k).foldl (fun cs (p:Value×Nat)=>cs.setIfInBounds (off+p.2) p.1) c)=Fp c (off+k) vs
 | [],_,_,_=>rfl
 | v::r,k,off,c=>by
  simp only[List.zipIdx_cons,List.foldl_cons,Fp]
  rw[R8 r (k+1) off]
  rfl
theorem Wh(sz:Nat):∀(vs:List Value) (k:Nat) (Dx:Array Value),(∀v∈vs,v.cells.size=sz)→(k+vs.length)*sz≤Dx.size→
  Instr.fill (fun i=>some (i*sz,sz)) Dx ((List.range' k vs.length).zip vs)=some (Fp Dx (k*sz) (vs.flatMap fun v=>v.cells.toList))
 | [],k,Dx,_,_=>by simp[Instr.fill,Fp]
 | v::r,k,Dx,h,hle=>by
  have hv:=h v (List.mem_cons_self ..)
  have hm:(k+1+r.length)*sz≤Dx.size:=by
   have:k+1+r.length=k+(v::r).length:=by simp;omega
   rw[this];exact hle
  have h1:k*sz+sz≤Dx.size:=by
   have:(k+1)*sz≤(k+1+r.length)*sz:=Nat.mul_le_mul_right _ zO
   rw[Nat.add_mul,Nat.one_mul]at this
   omega
  have happ:∀(xs ys:List Value) (c:Array Value) (off:Nat),Fp c off (xs++ys)=Fp (Fp c off xs) (off+xs.length) ys:=by
   intro xs
   induction xs with
   | nil=>intro ys c off;simp[Fp]
   | cons x xs ih=>intro ys c off;simp only[List.cons_append,Fp,ih,List.length_cons];congr 1;omega
  simp only[List.length_cons,List.range'_succ,List.zip_cons_cons,Instr.fill]
  rw[if_neg (by simp[hv];omega)]
  have e:(v.cells.zipIdx.foldl (fun cs (c,j)=>cs.setIfInBounds (k*sz+j) c) Dx)=Fp Dx (k*sz) v.cells.toList:=by
   rw[←Array.foldl_toList,Array.toList_zipIdx]
   exact R8 v.cells.toList 0 (k*sz) Dx
  rw[e]
  have hih:=Wh sz r (k+1) (Fp Dx (k*sz) v.cells.toList) (fun u hu=>h u (List.mem_cons_of_mem _ hu)) (by rw[Wy];exact hm)
  rw[hih,List.flatMap_cons,happ]
  congr 2
  rw[Array.length_toList,hv,Nat.add_mul,Nat.one_mul]
theorem CA{ty e:TypeId}{len sz:Nat}{zv:Value}{parts:Array (Nat×Operand)}(vs:List Value)(ho:At ops N l o t (.buildSlice ty len parts))(hty:P.underlying ty=some (.slice e))(hsz:DU P e=some sz)(hze:Ev P e=some zv)
(hv:dD l (parts.toList.map (·.2)) vs)(hi:parts.toList.map (·.1)=List.range' 0 len)(hlen:vs.length=len)(_hzs:zv.cells.size=sz)(hs1:∀v∈vs,v.cells.size=sz)(hlt:Nat.ble (len*sz) 16777216=true)(h0:Nat.blt 0 (len*sz)=true)
(hs:∀b,FF Hs (own b (.cells (vs.flatMap fun v=>v.cells.toList).toArray e)::H))
(h:∀b,SL P ro K w0 N ops Hs items Q D ((t,.slice (some ⟨b,0,none⟩) len len)::l) (own b (.cells (vs.flatMap fun v=>v.cells.toList).toArray e)::H)):SL P ro K w0 N ops Hs (.cons (false,o) items) Q D l H:=
 IJ (fun b=>.slice (some ⟨b,0,none⟩) len len) (fun b=>own b (.cells (vs.flatMap fun v=>v.cells.toList).toArray e)::H) ho rfl (fun a w ha hw=>by
  refine⟨w.heap.size,w.alloc (.cells (vs.flatMap fun v=>v.cells.toList).toArray e),?_,by exact hw.alloc _⟩
  have hev:=dD.eval ha hv
  have hp:(parts.map fun(i,x)=>(i,a.eval x)).toList=(List.range' 0 vs.length).zip vs:=by
   rw[Array.toList_map,Tx,hev,hi,hlen]
  have hle:¬(len*sz>2^24):=by have:=Nat.le_of_ble_eq_true hlt;omega
  have hne:¬(len*sz=0):=by have:=JB h0;omega
  have hfl:∀us:List Value,(∀v∈us,v.cells.size=sz)→(us.flatMap fun v=>v.cells.toList).length=us.length*sz:=by
   intro us
   induction us with
   | nil=>intro _;simp
   | cons u us ih=>
    intro hu
    have h1:u.cells.toList.length=sz:=by rw[Array.length_toList];exact hu u (List.mem_cons_self ..)
    rw[List.flatMap_cons,List.length_append,ih (fun v hv=>hu v (List.mem_cons_of_mem _ hv)),h1,List.length_cons,Nat.add_mul,Nat.one_mul,Nat.add_comm]
  have hf:Instr.fill (fun i=>some (i*sz,sz)) ((Array.range (len*sz)).map (zv.cells[·%zv.cells.size]!)) ((List.range' 0 vs.length).zip vs)=some (vs.flatMap fun v=>v.cells.toList).toArray:=by
   rw[Wh sz vs 0 _ hs1 (by simp[hlen])]
   congr 1
   apply Array.ext'
   rw[Mu _ _ _ (by rw[hfl vs hs1];simp[hlen]),hfl vs hs1,hlen]
   simp
  unfold execOp
  simp only[ho.op,Instr.buildSlice,Sem.run_bind,A2 hty,Result.andThen_ok,CY hsz,if_neg hle,if_neg hne,Pd hze,Sem.run_pure,hp,hf,newRow,run_newObj]
  rfl) hs h
end

section
variable {P:Program}{ro:Option Nat}{K:Nat→Prop}{w0:World}{N:Nat}{Q:Dg}{D:List Nat}{l l':Tm}{H H' Hs L:List AX}{ops:Array Oper}{items:I6}
variable {tk:Bool}{o:Oper}{t:Nat}{v:Value}{x y z:Operand}
theorem Ym(ty e:TypeId)(hty:P.underlying ty=some (.pointer e))(p:Option Addr)(w:World):(binOp .eql ty (.pointer p) (.pointer none)).run P w=.ok (.bool p.isNone) w:=by
 have h:∀d,(Op.equalIn (d+1) ty (.pointer p) (.pointer none)).run P w=.ok p.isNone w:=by
  intro d
  cases p<;>simp[Op.equalIn,A2 hty]
 simp only[binOp]
 simp[Op.equal,Op.maxDepth,h 9999]
theorem Dr{ty uy e:TypeId}{p:Option Addr}(ho:At ops N l o t (.binOp .eql ty x y uy))(hty:P.underlying ty=some (.pointer e))(hx:Bo l x=some (.pointer p))(hy:Bo l y=some (.pointer none))
(h:SL P ro K w0 N ops Hs items Q D ((t,.bool p.isNone)::l) H):SL P ro K w0 N ops Hs (.cons (tk,o) items) Q D l H:=
 SL.val ho rfl (fun a w ha _=>by
  simp[execOp,ho.op,ha.eval hx,ha.eval hy,eqGuard,Ym ty e hty]) h
theorem pi{ty uy e:TypeId}{p:Addr}{sz:Nat}(ho:At ops N l o t (.binOp .neq ty x y uy))(hty:P.underlying ty=some (.pointer e))(hsz:DU P e=some sz)(hx:Bo l x=some (.pointer (some p)))(hy:Bo l y=some (.pointer (some p)))
(h:SL P ro K w0 N ops Hs items Q D ((t,.bool false)::l) H):SL P ro K w0 N ops Hs (.cons (tk,o) items) Q D l H:=
 SL.val ho rfl (fun a w ha _=>by
  obtain⟨j,hj⟩:∃j,P.info? e=some j:=by
   unfold DU at hsz
   cases hi:P.info? e with
   | none=>simp[hi]at hsz
   | some j=>exact⟨j,rfl⟩
  have:=Lib.run_neq_ptr_same (P:=P) w p hty hj
  simp[execOp,ho.op,ha.eval hx,ha.eval hy,eqGuard,this]) h
theorem To{b:Nat}{c:Array Value}{e:TypeId}{z:Nat×Nat}{w:World}(h:w.heap[b]? = some (.cells c e z)):w.shape? b=some (e,c.size):=by
 simp[World.shape?,h]
theorem tO{src dst ty e:TypeId}{b off sz:Nat}{c:Array Value}{z:Nat×Nat}(i:Nat)(ho:At ops N l o t (.convert src dst x))(hs:P.underlying src=some (.pointer ty))(hd:P.underlying dst=some .unsafePointer)(hsz:DU P ty=some sz)(hz:Nat.blt 0 sz=true)
(hx:Bo l x=some (vP b off))(hi:(bif tk then Hs else H)[i]? = some (own b (.cells c e z)))(hoff:Nat.blt off c.size=true)(h:SL P ro K w0 N ops Hs items Q D ((t,vP b off)::l) H):SL P ro K w0 N ops Hs (.cons (tk,o) items) Q D l H:=
 SL.val ho rfl (fun a w ha hsw=>by
  have hb:w.heap[b]? = some (.cells c e z):=hsw.holds _ (List.mem_of_getElem? hi)
  unfold DU at hsz
  cases hi:P.info? ty with
  | none=>simp[hi]at hsz
  | some j=>
   simp[hi]at hsz
   have:=Lib.run_to_unsafe (P:=P) w ⟨b,off,none⟩ hs hd hi (by rw[hsz];have:=JB hz;omega) (To hb) (JB hoff)
   simp[execOp,ho.op,ha.eval hx,this]) h
theorem sx{src dst u e:TypeId}{b off sz:Nat}{c:Array Value}{z:Nat×Nat}(i:Nat)(ho:At ops N l o t (.convert src dst x))(hs:P.underlying src=some .unsafePointer)(hd:P.underlying dst=some (.pointer u))(hsz:DU P u=some sz)
(hx:Bo l x=some (vP b off))(hi:(bif tk then Hs else H)[i]? = some (own b (.cells c e z)))(hlies:liesAt P P.depth e (c.size / P.cellsOf e) off u 1=true)(h:SL P ro K w0 N ops Hs items Q D ((t,vP b off)::l) H):SL P ro K w0 N ops Hs (.cons (tk,o) items) Q D l H:=
 SL.val ho rfl (fun a w ha hsw=>by
  have hb:w.heap[b]? = some (.cells c e z):=hsw.holds _ (List.mem_of_getElem? hi)
  unfold DU at hsz
  cases hi:P.info? u with
  | none=>simp[hi]at hsz
  | some j=>
   have:=Lib.run_from_unsafe (P:=P) w ⟨b,off,none⟩ hs hd hi (To hb) hlies
   simp[execOp,ho.op,ha.eval hx,this]) h
theorem ph{f:FuncId}{xs:Array Operand}{tys:Array TypeId}{vs:List Value}(ho:At ops N l o t (.call { callee:=.value (.func f),args:=xs,argTypes:=tys }))(hv:dD l xs.toList vs)
(hrun:∀w,(callFunc f vs.toArray).run P w=.ok (.value v) w)(h:SL P ro K w0 N ops Hs items Q D ((t,v)::l) H):SL P ro K w0 N ops Hs (.cons (tk,o) items) Q D l H:=
 SL.val ho rfl (fun a w ha _=>by
  have hargs:xs.map a.eval=vs.toArray:=by
   apply Array.ext'
   simp[dD.eval ha hv]
  simp only[execOp,ho.op,resolve,Act.eval,Deferred.ofValue,Sem.run_bind,Sem.run_pure,Result.andThen_ok,invoke]
  simp[hargs]
  exact hrun w) h
theorem Y7:∀(s t:List UInt8),((s.map fun b=>((b.toNat:Nat):Int)).foldl (fun r n=>r.push (UInt8.ofNat n.toNat)) (ByteArray.mk ⟨t⟩))=⟨⟨t++s⟩⟩
 | [],t=>by simp
 | b::s,t=>by
  have h:(ByteArray.mk ⟨t⟩).push b=⟨⟨t++[b]⟩⟩:=by
   apply ByteArray.ext
   simp[ByteArray.push]
  simp only[List.map_cons,List.foldl_cons,Int.toNat_natCast,UInt8.ofNat_toNat,h]
  rw[Y7 s (t++[b])]
  simp
theorem cO{src dst e:TypeId}(hs:P.underlying src=some (.slice e))(he:P.underlying e=some (.int .u8))(hd:P.underlying dst=some .string){ad:Addr}{n c:Nat}{s:List UInt8}{w:World}(hn:s.length=n)
(hc:∀j u,(s.map fun b=>FE b)[j]? = some u→w.cell? (ad.add j)=some u):(convert src dst (.slice (some ad) n c)).run P w=.ok (vS s) w:=by
 rw[run_convert_bytes_string w src dst e (some ad) n c hs he hd]
 have hl:=RN (P:=P) hc
 rw[List.length_map,hn]at hl
 have hm:(s.map fun b=>FE b)=(s.map fun b=>((b.toNat:Nat):Int)).map (Value.int .u8):=by simp
 rw[hm]at hl
 rw[run_bytesToString w ad n c _ hl]
 have:=Y7 s []
 simp only[List.nil_append]at this
 exact congrArg (fun b=>Result.ok (Value.string b) w) this
theorem VW{src dst e:TypeId}{ad:Addr}{n c:Nat}(s:List UInt8)(ho:At ops N l o t (.convert src dst x))(hs:P.underlying src=some (.slice e))(he:P.underlying e=some (.int .u8))(hd:P.underlying dst=some .string)(hx:Bo l x=some (.slice (some ad) n c))(hn:s.length=n)
(hc:∀w,HW K w0 (bif tk then Hs else H) w→∀j u,(s.map fun b=>FE b)[j]? = some u→w.cell? (ad.add j)=some u)
(h:SL P ro K w0 N ops Hs items Q D ((t,vS s)::l) H):SL P ro K w0 N ops Hs (.cons (tk,o) items) Q D l H:=
 SL.val ho rfl (fun a w ha hsw=>by simp[execOp,ho.op,ha.eval hx,cO hs he hd hn (hc w hsw)]) h
theorem aH{src dst e:TypeId}{n:Nat}{s:List UInt8}(i:Nat)(ho:At ops N l o t (.convert src dst x))(hs:P.underlying src=some (.slice e))(he:P.underlying e=some (.int .u8))(hd:P.underlying dst=some .string)(hx:Bo l x=some v)
(hi:(bif tk then Hs else H)[i]? = some (D7 e 1 v n (s.map fun b=>FE b)))
(h:SL P ro K w0 N ops Hs items Q D ((t,vS s)::l) H):SL P ro K w0 N ops Hs (.cons (tk,o) items) Q D l H:=
 SL.val ho rfl (fun a w ha hsw=>by
  have hrow:w.ownsRowF 0 e 1 v n (s.map fun b=>FE b):=hsw.holds _ (List.mem_of_getElem? hi)
  have hlen:s.length=n:=by simpa using hrow.1
  rcases hrow.2 with⟨rfl,rfl⟩ | ⟨g,cap,cur,fz,rfl,_⟩
  have:s=[]:=List.length_eq_zero_iff.1 hlen
  subst this
  have h0:(convert src dst (.slice none 0 0)).run P w=.ok (vS []) w:=by
   rw[run_convert_bytes_string w src dst e none 0 0 hs he hd]
   simp[Conv.bytesToString]
   rfl
  simp[execOp,ho.op,ha.eval hx,h0]
  simp[execOp,ho.op,ha.eval hx,cO hs he hd hlen (hrow.cells rfl)]) h
theorem iZ{e ty:TypeId}{sz n:Nat}{xs:List Value}(i:Nat)(ho:At ops N l o t (.call { callee:=.builtin .len,args:=#[x],argTypes:=#[ty] }))(hty:P.underlying ty=some (.slice e))(hx:Bo l x=some v)
(hi:(bif tk then Hs else H)[i]? = some (D7 e sz v n xs))(h:SL P ro K w0 N ops Hs items Q D ((t,vI n)::l) H):SL P ro K w0 N ops Hs (.cons (tk,o) items) Q D l H:=
 SL.val ho rfl (fun a w ha hsw=>by
  have hrow:w.ownsRowF 0 e sz v n xs:=hsw.holds _ (List.mem_of_getElem? hi)
  simp only[execOp,ho.op,resolve,invoke,builtin,Builtin.len_]
  rcases hrow.2 with⟨rfl,rfl⟩ | ⟨g,cap,cur,fz,rfl,_⟩<;>simp[ha.eval hx,A2 hty,goInt]) h
theorem iV{b:Option Addr}{n c:Nat}{e ty:TypeId}(ho:At ops N l o t (.call { callee:=.builtin .cap,args:=#[x],argTypes:=#[ty] }))(hty:P.underlying ty=some (.slice e))(hx:Bo l x=some (.slice b n c))
(h:SL P ro K w0 N ops Hs items Q D ((t,vI c)::l) H):SL P ro K w0 N ops Hs (.cons (tk,o) items) Q D l H:=
 SL.val ho rfl (fun a w ha _=>by
  simp only[execOp,ho.op,resolve,invoke,builtin,Builtin.cap_]
  simp[ha.eval hx,A2 hty,goInt]) h
theorem cN{e:TypeId}{sz n:Nat}{xs:List Value}{w:World}(h:(D7 e sz v n xs).holds w):(v=.slice none 0 0∧n=0)∨∃g cap,v=.slice (some ⟨g,0,none⟩) n cap∧n≤cap:=by
 have hrow:w.ownsRowF 0 e sz v n xs:=h
 rcases hrow.2 with hn | ⟨g,cap,cur,fz,rfl,_,_,_,hc,_⟩
 exact .inl hn
 exact .inr ⟨g,cap,rfl,hc⟩
theorem pz{e pe:TypeId}{n:Nat}{xs:List Value}{tys:Array TypeId}(i:Nat)(ho:At ops N l o t (.call { callee:=.builtin .unsafeSliceData,args:=#[x],argTypes:=tys }))(hty:P.underlying o.type=some (.pointer pe))(hx:Bo l x=some v)
(hi:H[i]? = some (D7 e 1 v n xs))(hs:FF Hs H)
(h:∀p,(0<n→∃g cap,v=.slice (some ⟨g,0,none⟩) n cap∧p=some ⟨g,0,none⟩)→SL P ro K w0 N ops Hs items Q D ((t,.pointer p)::l) H):SL P ro K w0 N ops Hs (.cons (false,o) items) Q D l H:=by
 intro a w ha hw hs0
 have hrow:w.ownsRowF 0 e 1 v n xs:=hw.holds _ (List.mem_append_left _ (List.mem_of_getElem? hi))
 have key:∃p w',(Builtin.unsafeSliceData_ tys o.type #[v]).run P w=.ok (.pointer p) w'∧Bj K w0 (H++[Bf D]) w'∧(0<n→∃g cap,v=.slice (some ⟨g,0,none⟩) n cap∧p=some ⟨g,0,none⟩):=by
  rcases hrow.2 with⟨rfl,rfl⟩ | ⟨g,cap,cur,fz,rfl,_,hg,_,hc,_⟩
  exact⟨none,w,Lib.run_unsafeSliceData_nil w tys o.type 0 0,hw,fun h=>absurd h zO⟩
  by_cases hcap:cap=0
  subst hcap
  refine⟨_,_,Lib.run_unsafeSliceData_zero w tys o.type pe hty ⟨g,0,none⟩ n _ (To hg),?_,fun h=>absurd h zO⟩
  exact(hw.alloc _).sublist (List.sublist_cons_self _ _)
  exact⟨_,w,Lib.run_unsafeSliceData_row w tys o.type ⟨g,0,none⟩ n cap hcap,hw,fun _=>⟨g,cap,rfl,rfl⟩⟩
 obtain⟨p,w',hrun,hw',hp⟩:=key
 have hw1:=GX ho.wt ha.vals
 simp only[PL,hw1,if_true]
 refine LM (by rw[ho.op];exact GW rfl) (v:=.pointer p) (w':=w') ?_ ⟨hs.hs hw',h p hp _ w' (by rw[ho.dst];exact ha.put (JB ho.lt) _) hw' (hs.hs hw')⟩
 unfold execOp
 simp only[ho.op,resolve,invoke,builtin,Sem.run_bind,Sem.run_pure,Result.andThen_ok,List.map_toArray,List.map_cons,List.map_nil,ha.vals.eval hx,hrun]
theorem p9{e pt it:TypeId}{n:Nat}{s:List UInt8}{p:Option Addr}(i:Nat)(ho:At ops N l o t (.call { callee:=.builtin .unsafeString,args:=#[x,y],argTypes:=#[pt,it] }))(hpt:P.underlying pt=some (.pointer e))(hce:P.cellsOf e=1)(hx:Bo l x=some (.pointer p))(hy:Bo l y=some (vI n))
(hp:0<n→∃g cap,v=.slice (some ⟨g,0,none⟩) n cap∧p=some ⟨g,0,none⟩)
(hi:H[i]? = some (D7 e 1 v n (s.map fun b=>FE b)))(h63:n≤9223372036854775807)(hs:FF Hs H)
(h:SL P ro K w0 N ops Hs items Q D ((t,vS s)::l) H):SL P ro K w0 N ops Hs (.cons (false,o) items) Q D l H:=by
 intro a w ha hw hs0
 have hrow:w.ownsRowF 0 e 1 v n (s.map fun b=>FE b):=hw.holds _ (List.mem_append_left _ (List.mem_of_getElem? hi))
 have hlen:s.length=n:=by simpa using hrow.1
 have key:∃w',(Builtin.unsafeString_ #[pt,it] o.type #[.pointer p,vI n]).run P w=.ok (vS s) w'∧Bj K w0 (H++[Bf D]) w':=by
  by_cases hn:n=0
  have:s=[]:=List.length_eq_zero_iff.1 zO
  subst this
  subst hn
  exact⟨w,Lib.run_unsafeString_none w pt it o.type p,hw⟩
  obtain⟨g,cap,rfl,rfl⟩:=hp zO
  rcases hrow.2 with⟨h0,_⟩ | ⟨g',cap',cur,fz,he,_,hg,hfz,hc,hcm,hcs,htk⟩
  cases h0
  obtain⟨rfl,rfl⟩:g=g'∧cap=cap':=by simpa using he
  have hsne:s≠[]:=by intro e;subst e;simp at hlen;omega
  have hcell:∀j u,s[j]? = some u→w.cell? ((⟨g,0,none⟩:Addr).add j)=some (.int .u8 u.toNat):=fun j u hu=>hrow.cells (g:=g) rfl j (FE u) (by simp[hu])
  refine⟨w.freeze ⟨g,0,none⟩ s.length,?_,?_⟩
  have:=Lib.run_unsafeString_row (P:=P) w pt it o.type e hpt hce g cur.size (To hg) s hsne zO zO hcell
  have e2:(s.length:Int)=(n:Int):=by rw[hlen]
  rw[e2]at this
  exact this
  have hfr:w.freeze ⟨g,0,none⟩ s.length=w.putObj g (.cells cur e (if fz.1==fz.2 then(0,s.length)else(min fz.1 0,max fz.2 s.length))):=by
   obtain⟨hlt,hget⟩:=Array.getElem?_eq_some_iff.1 hg
   unfold World.freeze World.putObj
   rw[if_neg zO]
   congr 1
   apply Array.ext_getElem?
   intro k
   rw[Array.getElem?_modify,Array.getElem?_setIfInBounds]
   by_cases hk:g=k
   subst hk
   simp[hlt,hget]
   simp[hk]
  rw[hfr]
  obtain⟨hlt,hget⟩:=Array.getElem?_eq_some_iff.1 hg
  have hset:H.set i (D7 e 1 (.slice (some ⟨g,0,none⟩) n cap) n (s.map fun b=>FE b))=H:=by
   obtain⟨hl,hgi⟩:=List.getElem?_eq_some_iff.1 hi
   rw[←hgi]
   exact List.set_getElem_self hl
  have:=hw.turnAt (w':=w.putObj g (.cells cur e (if fz.1==fz.2 then(0,s.length)else(min fz.1 0,max fz.2 s.length)))) (d:=D7 e 1 (.slice (some ⟨g,0,none⟩) n cap) n (s.map fun b=>FE b)) i hi rfl rfl rfl zS
   (fun b hb hne=>World.putObj_heap_other (fun e=>hne (by subst e;rfl))) ⟨hrow.1,.inr ⟨g,cap,cur,_,rfl,Nat.zero_le _,World.putObj_heap_same hlt,?_,hc,hcm,hcs,htk⟩⟩ (fun b hb=>⟨.inl hb,?_⟩)
  rw[hset]at this
  exact this
  split
  simp;omega
  show max fz.2 s.length≤n*1
  omega
  have:b=g:=by
   have hb':(some g:Option Nat)=some b:=hb
   simp at hb'
   exact hb'.symm
  subst this
  simp[hlt]
 obtain⟨w',hrun,hw'⟩:=key
 have hw1:=GX ho.wt ha.vals
 simp only[PL,hw1,if_true]
 refine LM (by rw[ho.op];exact GW rfl) (v:=vS s) (w':=w') ?_ ⟨hs.hs hw',h _ w' (by rw[ho.dst];exact ha.put (JB ho.lt) _) hw' (hs.hs hw')⟩
 unfold execOp
 simp only[ho.op,resolve,invoke,builtin,Sem.run_bind,Sem.run_pure,Result.andThen_ok,List.map_toArray,List.map_cons,List.map_nil,ha.vals.eval hx,ha.vals.eval hy,hrun]
def zg(is:List Nat)(H:List AX):List AX:=is.filterMap (H[·]?)
theorem Ax{id:Nat}{ops:Array Oper}(hm:P.follows .mixedOrders=true)(is:List Nat)(plan:Pl)(hp:XI ops plan=true)
(h:SL P ro K w0 N ops (zg is H) (NS ops plan) Q D l H):SX P ro K w0 N (.region id ops true) Q D l H:=
 qB hm (zg is H) plan hp (fun c hc=>by
  obtain⟨i,_,hi⟩:=List.mem_filterMap.1 hc
  exact List.mem_of_getElem? hi) h
theorem Y{id:Nat}{ops:Array Oper}{y:Code}(h:SL P ro K w0 N ops [] (I6.all ops.toList) (thn P ro y Q) D l H):SX P ro K w0 N (.seq (.region id ops false) y) Q D l H:=
 AH (AM h)
theorem V{c:Code}(h:SX P ro K w0 N c Q D l H):SL P ro K w0 N ops Hs .nil (thn P ro c Q) D l H:=AZ h
end

section
variable {P:Program}{ro:Option Nat}{K:Nat→Prop}{w0:World}{N:Nat}{Q:Dg}{D:List Nat}{l l':Tm}{H H' Hs L:List AX}{ops:Array Oper}{items:I6}
variable {tk:Bool}{o:Oper}{t:Nat}{v:Value}{x y z:Operand}
structure By{α:Type}(K:Nat→Prop)(w0:World)(enc:α→List Value)(sz:Nat)(v:Value)(xs:List α):Prop where
 len:∀x,(enc x).length=sz
 at_:(∃a,v=.slice a 0 0∧xs=[])∨∃b off cap,v=.slice (some ⟨b,off,none⟩) xs.length cap∧xs.length≤cap∧
  ∀j u,(xs.flatMap enc)[j]? = some u→K b∧w0.cell? ⟨b,off+j,none⟩=some u
theorem TP{α:Type}{enc:α→List Value}{sz:Nat}(hl:∀x,(enc x).length=sz):∀(xs:List α) (i:Nat) (x:α) (j:Nat) (u:Value),xs[i]? = some x→(enc x)[j]? = some u→(xs.flatMap enc)[i*sz+j]? = some u
 | [],i,x,j,u,h,_=>by simp at h
 | y::ys,0,x,j,u,h,hu=>by
  simp at h
  subst h
  have hlt:j<(enc y).length:=by
   rcases Nat.lt_or_ge j (enc y).length with h | h
   exact h
   rw[List.getElem?_eq_none h]at hu;cases hu
  rw[List.flatMap_cons,Nat.zero_mul,Nat.zero_add,List.getElem?_append_left hlt]
  exact hu
 | y::ys,i+1,x,j,u,h,hu=>by
  have hy:(enc y).length=sz:=hl y
  rw[List.flatMap_cons,List.getElem?_append_right (by rw[hy,Nat.add_mul];omega)]
  have e:(i+1)*sz+j-(enc y).length=i*sz+j:=by rw[hy,Nat.add_mul];omega
  rw[e]
  exact TP hl ys i x j u (by simpa using h) hu
theorem Bt{α:Type}{enc:α→List Value}{sz:Nat}{xs:List α}{e ty:TypeId}(hk:By K w0 enc sz v xs)(ho:At ops N l o t (.call { callee:=.builtin .len,args:=#[x],argTypes:=#[ty] }))(hty:P.underlying ty=some (.slice e))(hx:Bo l x=some v)
(h:SL P ro K w0 N ops Hs items Q D ((t,vI xs.length)::l) H):SL P ro K w0 N ops Hs (.cons (tk,o) items) Q D l H:=
 SL.val ho rfl (fun a w ha hsw=>by
  simp only[execOp,ho.op,resolve,invoke,builtin,Builtin.len_]
  rcases hk.at_ with⟨a0,rfl,rfl⟩ | ⟨b,off,cap,rfl,_⟩<;>simp[ha.eval hx,A2 hty,goInt]) h
theorem S3{α:Type}{enc:α→List Value}{sz:Nat}{xs:List α}{k:IntKind}{i:Int}{ty e:TypeId}(n:Nat)(x0:α)(hk:By K w0 enc sz v xs)(ho:At ops N l o t (.indexAddr ty x y))(hty:P.underlying ty=some (.slice e))(hsz:DU P e=some sz)(hx:Bo l x=some v)(hy:Bo l y=some (.int k i))
(hi:i=(n:Int))(hn:xs[n]? = some x0)
(h:∀b off,(∀L w,HW K w0 L w→∀j u,(enc x0)[j]? = some u→w.cell? ⟨b,off+j,none⟩=some u)→SL P ro K w0 N ops Hs items Q D ((t,vP b off)::l) H):SL P ro K w0 N ops Hs (.cons (tk,o) items) Q D l H:=by
 have hlt:n<xs.length:=by
  rcases Nat.lt_or_ge n xs.length with h | h
  exact h
  rw[List.getElem?_eq_none h]at hn;cases hn
 rcases hk.at_ with⟨_,_,rfl⟩ | ⟨b,off,cap,rfl,_,hc⟩
 simp at hlt
 refine kO ho hty hsz hx hy hi hlt (h b (off+n*sz) ?_)
 intro L w hw j u hu
 obtain⟨hb,hcell⟩:=hc (n*sz+j) u (TP hk.len xs n x0 j u hn hu)
 have:=Q2 (L:=L) hb hcell w hw
 rw[Nat.add_assoc]
 exact this
theorem YT{b off:Nat}{cs:List Value}{L:List AX}(hc:∀w,HW K w0 L w→∀j u,cs[j]? = some u→w.cell? ⟨b,off+j,none⟩=some u):∀w,HW K w0 L w→∀j u,cs[j]? = some u→w.cell? (Addr.add ⟨b,off,none⟩ j)=some u:=
 fun w hw j u hu=>by rw[CU];exact hc w hw j u hu
theorem tM{α:Type}{enc:α→List Value}{sz:Nat}{xs:List α}{k:IntKind}{j:Int}{ty e:TypeId}(n:Nat)(hk:By K w0 enc sz v xs)(ho:At ops N l o t (.slice ty x none (some z) none))(hty:P.underlying ty=some (.slice e))(hsz:DU P e=some sz)(hx:Bo l x=some v)(hz:Bo l z=some (.int k j))
(hj:j=(n:Int))(hn:n≤xs.length)(h:∀v',By K w0 enc sz v' (xs.take n)→SL P ro K w0 N ops Hs items Q D ((t,v')::l) H):SL P ro K w0 N ops Hs (.cons (tk,o) items) Q D l H:=by
 subst hj
 rcases hk.at_ with⟨a0,rfl,rfl⟩ | ⟨b,off,cap,rfl,hcap,hc⟩
 have hn0:n=0:=by simpa using hn
 subst hn0
 refine SL.val (v:=.slice a0 0 0) ho E (fun a w ha _=>?_) (h _ ⟨hk.len,.inl ⟨_,E,by simp⟩⟩)
 simp only[execOp,ho.op,Instr.sliceAt,Instr.slice,Option.map]
 cases a0<;>simp[ha.eval hx,ha.eval hz,A2 hty,CY hsz,Instr.sliceBounds,Instr.sliceBound,asIntOf]
 have hle:n≤cap:=Nat.le_trans hn hcap
 refine SL.val (v:=.slice (some ⟨b,off,none⟩) n cap) ho E (fun a w ha _=>?_) (h _ ⟨hk.len,.inr ⟨b,off,cap,by simp[List.length_take,Nat.min_eq_left hn],by simp[List.length_take];omega,?_⟩⟩)
 simp only[execOp,ho.op,Instr.sliceAt,Instr.slice,Option.map]
 simp[ha.eval hx,ha.eval hz,A2 hty,CY hsz,Instr.sliceBounds,Instr.sliceBound,asIntOf,hle,CU]
 intro j u hu
 refine hc j u ?_
 have hpre:(xs.take n).flatMap enc++(xs.drop n).flatMap enc=xs.flatMap enc:=by
  rw[←List.flatMap_append,List.take_append_drop]
 rw[←hpre]
 have hlt:j<((xs.take n).flatMap enc).length:=by
  rcases Nat.lt_or_ge j ((xs.take n).flatMap enc).length with h | h
  exact h
  rw[List.getElem?_eq_none h]at hu;cases hu
 rw[List.getElem?_append_left hlt]
 exact hu
def YD(K:Nat→Prop)(w0:World)(K':Nat→Prop)(w1:World):Prop:=∀b,K b→K' b∧w1.heap[b]? = w0.heap[b]?
theorem By.keeps{α:Type}{enc:α→List Value}{sz:Nat}{xs:List α}{K':Nat→Prop}{w1:World}(h:By K w0 enc sz v xs)(hk:YD K w0 K' w1):By K' w1 enc sz v xs:=by
 refine⟨h.len,?_⟩
 rcases h.at_ with h0 | ⟨b,off,cap,rfl,hcap,hc⟩
 exact .inl h0
 refine .inr ⟨b,off,cap,rfl,hcap,fun j u hu=>?_⟩
 obtain⟨h1,h2⟩:=hc j u hu
 obtain⟨h3,h4⟩:=hk b h1
 refine⟨h3,?_⟩
 rw[World.cell?_of_block (w:=w0) h4]
 exact h2
theorem CJ{f:FuncId}{args:List Value}{B Hin:List AX}{post:Value→List AX→Prop}
(hc:∀K' w1,YD K w0 K' w1→(∀c∈B,c.holds w1∧∀b,c.foot b→K' b)→WN P K' w1 f args Hin H post):
  WN P K w0 f args (B++Hin) H (fun v M=>∃M',M=B++M'∧post v M'):=by
 intro w hw
 have hB:Bj K w0 (B++(Hin++H)) w:=by rw[←List.append_assoc];exact hw
 have hpw:=List.pairwise_append.1 hB.disj
 let K':Nat→Prop:=fun b=>K b∨∃c∈B,c.foot b
 have hK':∀b,K' b→b<w.heap.size:=by
  rintro b (h | ⟨c,hcB,hb⟩)
  exact hw.kltw b h
  exact(hB.foot c (List.mem_append_left _ hcB) b hb).1
 have h1:Bj K' w (Hin++H) w:=by
  refine⟨rfl,rfl,rfl,Nat.le_refl _,hK',fun _ _=>rfl,fun c hc=>hB.holds c (List.mem_append_right _ hc),fun c hc b hb=>?_,hpw.2.1⟩
  have:=hB.foot c (List.mem_append_right _ hc) b hb
  refine⟨this.1,?_⟩
  rintro(h | ⟨d,hd,hdb⟩)
  exact this.2 h
  exact hpw.2.2 d hd c hc b hdb hb
 refine(hc K' w (fun b hb=>⟨.inl hb,(hw.keep b hb)⟩) (fun c hcB=>⟨hB.holds c (List.mem_append_left _ hcB),fun b hb=>.inr ⟨c,hcB,hb⟩⟩) w h1).mono ?_
 rintro e w' ⟨v,M',rfl,hp,hw'⟩
 refine⟨v,B++M',rfl,⟨M',rfl,hp⟩,?_⟩
 rw[List.append_assoc]
 refine⟨hw'.os.trans hw.os,hw'.tape.trans hw.tape,hw'.output.trans hw.output,Nat.le_trans hw.size hw'.size,hw.klt,fun b hb=>(hw'.keep b (.inl hb)).trans (hw.keep b hb),?_,?_,?_⟩
 intro c hc
 rcases List.mem_append.1 hc with hc | hc
 exact c.loc w w' (fun b hb=>hw'.keep b (.inr ⟨c,hc,hb⟩)) (hB.holds c (List.mem_append_left _ hc))
 exact hw'.holds c hc
 intro c hc b hb
 rcases List.mem_append.1 hc with hc | hc
 have:=hB.foot c (List.mem_append_left _ hc) b hb
 exact⟨Nat.lt_of_lt_of_le this.1 hw'.size,this.2⟩
 have:=hw'.foot c hc b hb
 exact⟨this.1,fun h=>this.2 (.inl h)⟩
 refine List.pairwise_append.2 ⟨hpw.1,hw'.disj,?_⟩
 intro c hc d hd b hb hb'
 exact(hw'.foot d hd b hb').2 (.inr ⟨c,hc,hb⟩)
theorem By.lent{α:Type}{enc:α→List Value}{sz b cap:Nat}{xs:List α}{c:Array Value}{e:TypeId}{z:Nat×Nat}{K':Nat→Prop}{w1:World}(hl:∀x,(enc x).length=sz)(hcap:xs.length≤cap)(hc:c.toList.take (xs.length*sz)=xs.flatMap enc)
(h:(own b (.cells c e z)).holds w1∧∀k,(own b (.cells c e z)).foot k→K' k):By K' w1 enc sz (.slice (some ⟨b,0,none⟩) xs.length cap) xs:=by
 refine⟨hl,.inr ⟨b,0,cap,rfl,hcap,fun j u hu=>⟨h.2 b rfl,?_⟩⟩⟩
 have hb:w1.heap[b]? = some (.cells c e z):=h.1
 rw[←hc,List.getElem?_take]at hu
 split at hu
 simp only[Nat.zero_add,World.cell?,hb]
 simpa using hu
 cases hu
theorem ik{α:Type}{enc:α→List Value}{sz:Nat}{xs:List α}{e:TypeId}{v:Value}{K':Nat→Prop}{w1:World}(hl:∀x,(enc x).length=sz)
(h:(D7 e sz v xs.length (xs.flatMap enc)).holds w1∧∀k,(D7 e sz v xs.length (xs.flatMap enc)).foot k→K' k):By K' w1 enc sz v xs:=by
 have hrow:w1.ownsRowF 0 e sz v xs.length (xs.flatMap enc):=h.1
 refine⟨hl,?_⟩
 rcases hrow.2 with⟨rfl,h0⟩ | ⟨g,cap,cur,fz,rfl,_,hg,_,hc,_⟩
 exact .inl ⟨_,rfl,List.length_eq_zero_iff.1 h0⟩
 refine .inr ⟨g,0,cap,rfl,hc,fun j u hu=>⟨h.2 g rfl,?_⟩⟩
 have:=hrow.cells (g:=g) rfl j u hu
 rw[CU]at this
 exact this
theorem By.cells1{α:Type}{enc:α→List Value}{sz:Nat}{xs:List α}{v:Value}(h:By K w0 enc sz v xs):v.cells=#[v]:=by
 rcases h.at_ with⟨_,rfl,_⟩ | ⟨b,off,cap,rfl,_⟩<;>rfl
end

section
variable {P:Program}{ro:Option Nat}{K:Nat→Prop}{w0:World}{N:Nat}{Q:Dg}{D:List Nat}{l l':Tm}{H H' Hs L:List AX}{ops:Array Oper}{items:I6}
variable {tk:Bool}{o:Oper}{t:Nat}{v:Value}{x y z:Operand}
def NT(P:Program)(ty:TypeId):Option (List (Nat×Nat)):=
 match P.underlying ty with
 | some (.struct fs)=>some (fs.toList.map fun f=>(f.offset,((P.info? f.type).map (·.size)).getD 0))
 | some (.array n e)=>some ((List.range' 0 n).map fun i=>(i*((P.info? e).map (·.size)).getD 0,((P.info? e).map (·.size)).getD 0))
 | _=>none
def R6(pl:List (Nat×Nat)):Array Value→List (Nat×Value)→Option (Array Value)
 | c,[]=>some c
 | c,(i,v)::r=>
  match pl[i]? with
  | none=>none
  | some (off,size)=>bif Nat.beq v.cells.size size&&Nat.ble (off+v.cells.size) c.size then R6 pl (Fp c off v.cells.toList) r else none
theorem Ut(place:Nat→Option (Nat×Nat))(pl:List (Nat×Nat))(hp:∀i p,pl[i]? = some p→place i=some p):∀(vs:List (Nat×Value)) (c r:Array Value),R6 pl c vs=some r→Instr.fill place c vs=some r
 | [],c,r,h=>by simpa[R6,Instr.fill]using h
 | (i,v)::vs,c,r,h=>by
  simp only[R6]at h
  cases hi:pl[i]? with
  | none=>simp[hi]at h
  | some p=>
   obtain⟨off,size⟩:=p
   simp only[hi]at h
   cases hb:Nat.beq v.cells.size size&&Nat.ble (off+v.cells.size) c.size with
   | false=>simp[hb]at h
   | true=>
    simp only[hb,CC]at h
    simp only[Bool.and_eq_true]at hb
    have hb1:v.cells.size=size:=Nat.eq_of_beq_eq_true hb.1
    have hb2:=Nat.le_of_ble_eq_true hb.2
    simp only[Instr.fill,hp i _ hi]
    rw[if_neg zQ]
    have e:(v.cells.zipIdx.foldl (fun cs (c,j)=>cs.setIfInBounds (off+j) c) c)=Fp c off v.cells.toList:=by
     rw[←Array.foldl_toList,Array.toList_zipIdx]
     exact R8 v.cells.toList 0 off c
    rw[e]
    exact Ut place pl hp vs _ r h
theorem Yo(fs:List Field)(w:World)(h:∀f∈fs,(P.info? f.type).isSome=true):
  (fs.mapM fun f=>do pure (f.offset,←sizeOf f.type):Sem (List (Nat×Nat))).run P w=.ok (fs.map fun f=>(f.offset,((P.info? f.type).map (·.size)).getD 0)) w:=by
 induction fs with
 | nil=>simp
 | cons f r ih=>
  obtain⟨i,hi⟩:=Option.isSome_iff_exists.1 (h f (List.mem_cons_self ..))
  have ih':=ih (fun g hg=>h g (List.mem_cons_of_mem _ hg))
  have hs:(sizeOf f.type).run P w=.ok i.size w:=CY (by simp[DU,hi]) w
  rw[List.mapM_cons]
  simp only[Sem.run_bind,hs,Result.andThen_ok,Sem.run_pure,ih',List.map_cons,hi,Option.map_some,Option.getD_some]
def NU(P:Program)(ty:TypeId):Bool:=
 match P.underlying ty with
 | some (.struct fs)=>fs.toList.all fun f=>(P.info? f.type).isSome
 | some (.array _ e)=>(P.info? e).isSome
 | _=>false
theorem lh{ty:TypeId}{pl:List (Nat×Nat)}{zv:Value}{vs:Array (Nat×Value)}{r:Array Value}(hp:NT P ty=some pl)(hk:NU P ty=true)(hz:Ev P ty=some zv)(hf:R6 pl zv.cells vs.toList=some r)(w:World):(Instr.build ty vs).run P w=.ok (.agg r) w:=by
 unfold NT at hp;unfold NU at hk
 cases hu:P.underlying ty with
 | none=>simp[hu]at hp
 | some d=>
  cases d with
  | struct fs=>
   simp only[hu]at hp hk
   obtain rfl:=zI hp
   have hm:=Yo (P:=P) fs.toList w (List.all_eq_true.1 hk)
   have hfill:=Ut (fun i=>((fs.toList.map fun f=>(f.offset,((P.info? f.type).map (·.size)).getD 0)).toArray)[i]?) _ (fun i p h=>by simpa using h) vs.toList zv.cells r hf
   have hma:(fs.mapM fun f=>do pure (f.offset,←sizeOf f.type):Sem (Array (Nat×Nat))).run P w=.ok (fs.toList.map fun f=>(f.offset,((P.info? f.type).map (·.size)).getD 0)).toArray w:=by
    rw[Array.mapM_eq_mapM_toList]
    simp only[Sem.run_map,hm,Result.andThen_ok]
   simp only[Instr.build,Sem.run_bind,Pd hz,Result.andThen_ok,A2 hu,hma]
   rw[hfill]
   rfl
  | array n e=>
   simp only[hu]at hp hk
   obtain⟨i,hi⟩:=Option.isSome_iff_exists.1 hk
   simp only[hi,Option.map_some,Option.getD_some]at hp
   obtain rfl:=zI hp
   have hfill:=Ut (fun k=>some (k*i.size,i.size)) _ (fun k p h=>by
    rw[List.getElem?_map]at h
    cases hr:(List.range' 0 n)[k]? with
    | none=>simp[hr]at h
    | some q=>
     have:q=k:=by
      obtain⟨h1,h2⟩:=List.getElem?_eq_some_iff.1 hr
      simpa using h2.symm
     subst this
     simpa[hr]using h) vs.toList zv.cells r hf
   have hsz:(sizeOf e).run P w=.ok i.size w:=CY (by simp[DU,hi]) w
   simp only[Instr.build,Sem.run_bind,Pd hz,Result.andThen_ok,A2 hu,hsz]
   rw[hfill]
   rfl
  | _=>simp only[hu]at hp;cases hp
theorem B5{ty:TypeId}{parts:Array (Nat×Operand)}{pl:List (Nat×Nat)}{zv:Value}{r:Array Value}(vs:List Value)(ho:At ops N l o t (.build ty parts))(hp:NT P ty=some pl)(hk:NU P ty=true)(hz:Ev P ty=some zv)
(hv:dD l (parts.toList.map (·.2)) vs)(hf:R6 pl zv.cells ((parts.toList.map (·.1)).zip vs)=some r)(h:SL P ro K w0 N ops Hs items Q D ((t,.agg r)::l) H):SL P ro K w0 N ops Hs (.cons (tk,o) items) Q D l H:=
 SL.val ho rfl (fun a w ha _=>by
  have hev:=dD.eval ha hv
  have hparts:(parts.map fun(i,x)=>(i,a.eval x)).toList=(parts.toList.map (·.1)).zip vs:=by
   rw[Array.toList_map,Tx,hev]
  have:=lh (P:=P) (vs:=parts.map fun(i,x)=>(i,a.eval x)) hp hk hz (by rw[hparts];exact hf) w
  simp[execOp,ho.op,this]) h
def jt(P:Program)(K:Nat→Prop)(w0:World)(H:List AX)(l:Tm):ResultVar→Value→Prop
 | .tmp t,v=>look l t=some v
 | .cell t ty,v=>∃ad,look l t=some (.pointer (some ad))∧∀w,HW K w0 H w→(loadVar ty ad).run P w=.ok v w
theorem Yn{ad:Addr}{ty:TypeId}{n:Nat}{cs:List Value}{w:World}(hs:PN P ty=some n)(hn:cs.length=n)(hc:∀j u,cs[j]? = some u→w.cell? (ad.add j)=some u):(loadVar ty ad).run P w=.ok (.agg cs.toArray) w:=by
 obtain⟨h1,h2⟩:=YJ hs w
 subst hn
 simp[loadVar,h1,CY h2,RN hc]
theorem B2{u b off n:Nat}{ty e:TypeId}{z:Nat×Nat}{c:Array Value}(i:Nat)(cs:List Value)(hs:PN P ty=some n)(hn:cs.length=n)(hl:look l u=some (vP b off))(hi:H[i]? = some (own b (.cells c e z)))(hc:(c.toList.drop off).take n=cs):jt P K w0 H l (.cell u ty) (.agg cs.toArray):=by
 refine⟨_,hl,fun w hw=>Yn hs hn (Ct i hi (fun j u hu=>?_) w hw)⟩
 rw[←hc,List.getElem?_take]at hu
 split at hu
 rw[List.getElem?_drop]at hu
 simpa using hu
 cases hu
theorem Yp{a:Act}{w:World}{r:ResultVar}(ha:LU l a)(hw:HW K w0 H w)(h:jt P K w0 H l r v):(match r with | .tmp t=>pure (a.tmps.getD t undef) | .cell t ty=>do loadVar ty (←asAddr (a.tmps.getD t undef)):Sem Value).run P w=.ok v w:=by
 cases r with
 | tmp t=>have:=HZ ha h;simp[←this]
 | cell t ty=>
  obtain⟨ad,hl,hr⟩:=h
  have:=HZ ha hl
  simp only[this]
  simp[asAddr,hr w hw]
theorem xZ{f:ResultVar→Sem Value}{r r':ResultVar}{v v':Value}{w:World}(h:(f r).run P w=.ok v w)(h':(f r').run P w=.ok v' w):(#[r,r'].mapM f).run P w=.ok #[v,v'] w:=by
 simp[h,h']
theorem GM{fn:Func}{r:ResultVar}{v:Value}(hr:fn.results=#[r])(h:jt P K w0 H l r v):∀a w,LU l a→HW K w0 H w→(results fn a.tmps).run P w=.ok v w:=by
 intro a w ha hw
 have h1:=Yp ha hw h
 cases r with
 | tmp t=>simp only[results,hr];simpa using h1
 | cell t ty=>simp only[results,hr];simpa using h1
theorem FA{fn:Func}{r r':ResultVar}{v v':Value}(hr:fn.results=#[r,r'])(h:jt P K w0 H l r v)(h':jt P K w0 H l r' v'):∀a w,LU l a→HW K w0 H w→(results fn a.tmps).run P w=.ok (.tuple #[v,v']) w:=by
 intro a w ha hw
 simp only[results,hr,Sem.run_bind]
 rw[xZ (v:=v) (v':=v')]
 simp
 cases r<;>exact Yp ha hw h
 cases r'<;>exact Yp ha hw h'
end

section
variable {P:Program}{ro:Option Nat}{K:Nat→Prop}{w0:World}{N:Nat}{Q:Dg}{D:List Nat}{l l':Tm}{H H' Hs L:List AX}{ops:Array Oper}{items:I6}
theorem sp{l₁:Tm}(hl:∀s v,look l₁ s=some v→look l s=some v)(h:SL P ro K w0 N ops Hs items Q D l₁ H):SL P ro K w0 N ops Hs items Q D l H:=
 fun a w ha hw hs=>h a w ⟨ha.size,ha.defers,fun s v hv=>ha.vals s v (hl s v hv)⟩ hw hs
def OV(t:Nat):Tm→Tm
 | []=>[]
 | (s,v)::r=>bif Nat.beq s t then OV t r else(s,v)::OV t r
theorem SL.join{t tt:Nat}{v0 u:Value}{it:I6}(hb:look l t=some v0)(h:SL P ro K w0 N ops Hs it Q D ((tt,u)::l) H):SL P ro K w0 N ops Hs it Q D ((tt,u)::(t,v0)::OV t l) H:=
 fun a w ha hw hs=>h a w ⟨ha.size,ha.defers,fun s v hv=>by
  
  have key:∀s v,look ((tt,u)::l) s=some v→look ((tt,u)::(t,v0)::OV t l) s=some v:=by
   intro s v h
   simp only[look]at h ⊢
   cases h1:Nat.beq tt s with
   | true=>rw[h1]at h;exact h
   | false=>
    simp only[h1,BZ]at h ⊢
    cases h2:Nat.beq t s with
    | true=>
     have:t=s:=Nat.eq_of_beq_eq_true h2
     subst this
     rw[hb]at h
     exact h
    | false=>
     simp only[BZ]
     have:∀(l:Tm),look l s=some v→look (OV t l) s=some v:=by
      intro l
      induction l with
      | nil=>intro h;simp[look]at h
      | cons p r ih=>
       obtain⟨k,x⟩:=p
       intro h
       cases hk:Nat.beq k t with
       | true=>
        simp only[OV,hk,CC]
        have hkt:k=t:=Nat.eq_of_beq_eq_true hk
        subst hkt
        simp only[look,h2,BZ]at h
        exact ih h
       | false=>
        simp only[OV,hk,BZ,look]at h ⊢
        cases hs:Nat.beq k s with
        | true=>simpa only[hs,CC]using h
        | false=>
         simp only[hs,BZ]at h ⊢
         exact ih h
     exact this l h
  exact ha.vals s v (key s v hv)⟩ hw hs
theorem d5(t s:Nat):∀l:Tm,look (OV t l) s=if t=s then none else look l s
 | []=>by simp[OV,look]
 | (k,v)::r=>by
  have ih:=d5 t s r
  cases hk:Nat.beq k t with
  | true=>
   have:k=t:=Nat.eq_of_beq_eq_true hk
   subst this
   simp only[OV,hk,CC,ih,look]
   cases hs:Nat.beq k s with
   | true=>rw[if_pos (Nat.eq_of_beq_eq_true hs),if_pos (Nat.eq_of_beq_eq_true hs)]
   | false=>rfl
  | false=>
   simp only[OV,hk,BZ,look]
   cases hs:Nat.beq k s with
   | true=>
    have:k=s:=Nat.eq_of_beq_eq_true hs
    subst this
    have hne:¬t=k:=fun e=>by subst e;simp at hk
    rw[if_neg hne]
    rfl
   | false=>simpa only[BZ]using ih
theorem lE(t s:Nat)(v:Value)(l:Tm):look ((t,v)::OV t l) s=look ((t,v)::l) s:=by
 simp only[look]
 cases hs:Nat.beq t s with
 | true=>rfl
 | false=>
  have hne:¬t=s:=fun e=>by subst e;simp at hs
  simp only[BZ]
  rw[d5,if_neg hne]
theorem N6{t:Nat}{v0:Value}(h:SL P ro K w0 N ops Hs items Q D ((t,v0)::OV t l) H):SL P ro K w0 N ops Hs items Q D ((t,v0)::l) H:=
 sp (fun s v hv=>by rwa [lE]at hv) h
theorem CV(t n tt:Nat){b c:Bool}(hb:look l t=some (.bool b))
(ht:b=true→SL P ro K w0 N ops Hs (items.drop n) Q D ((tt,.bool c)::(t,.bool true)::OV t l) H→SL P ro K w0 N ops Hs items Q D ((t,.bool true)::OV t l) H)
(hf:b=false→SL P ro K w0 N ops Hs (items.drop n) Q D ((tt,.bool false)::(t,.bool false)::OV t l) H→SL P ro K w0 N ops Hs items Q D ((t,.bool false)::OV t l) H)
(h:SL P ro K w0 N ops Hs (items.drop n) Q D ((tt,.bool (b&&c))::l) H):SL P ro K w0 N ops Hs items Q D l H:=by
 refine Qo t hb (fun e=>?_) (fun e=>?_)
 subst e;exact N6 (ht rfl (h.join hb))
 subst e;exact N6 (hf rfl (h.join hb))
theorem Dw(t n tt:Nat){b c:Bool}(hb:look l t=some (.bool b))
(ht:b=true→SL P ro K w0 N ops Hs (items.drop n) Q D ((tt,.bool true)::(t,.bool true)::OV t l) H→SL P ro K w0 N ops Hs items Q D ((t,.bool true)::OV t l) H)
(hf:b=false→SL P ro K w0 N ops Hs (items.drop n) Q D ((tt,.bool c)::(t,.bool false)::OV t l) H→SL P ro K w0 N ops Hs items Q D ((t,.bool false)::OV t l) H)
(h:SL P ro K w0 N ops Hs (items.drop n) Q D ((tt,.bool (b||c))::l) H):SL P ro K w0 N ops Hs items Q D l H:=by
 refine Qo t hb (fun e=>?_) (fun e=>?_)
 subst e;exact N6 (ht rfl (h.join hb))
 subst e;exact N6 (hf rfl (h.join hb))
def mid{α:Type}(K:Nat→Prop)(w0:World)(N:Nat)(D:List Nat)(p:α→Prop)(I:α→Tm)(G:α→List AX)(Q:Dg):Dg
 | .normal,a,w=>∃x,p x∧N8 N D (I x) a∧Bj K w0 (G x++[Bf D]) w
 | e,a,w=>Q e a w
theorem aL{α:Type}(p:α→Prop)(I:α→Tm)(G:α→List AX){c y:Code}(h:SX P ro K w0 N c (mid K w0 N D p I G Q) D l H)(h2:∀x,p x→SX P ro K w0 N y Q D (I x) (G x)):SX P ro K w0 N (.seq c y) Q D l H:=by
 intro a w ha hw
 refine wpIn_seq (wpIn_mono (h a w ha hw) ?_)
 intro e a w q
 cases e with
 | normal=>
  obtain⟨x,hx,ha,hw⟩:=q
  exact h2 x hx a w ha hw
 | _=>exact q
theorem XF{α:Type}{p:α→Prop}{I:α→Tm}{G:α→List AX}(x:α)(hp:p x)(hl:Ty (I x) l)(hH:∀w,Bj K w0 (H++[Bf D]) w→Bj K w0 (G x++[Bf D]) w:=by exact fun _ h=>h):
  SQ K w0 N (Go.Proofs.YtpaohlmgfifebaaGreatDoor.mid K w0 N D p I G Q) .normal D l H:=fun _a w ha hw=>⟨x,hp,ha.mono hl,hH w hw⟩
theorem I8{o:Oper}{t lp:Nat}{x:Operand}{xs:Array Operand}{tys:Array TypeId}{vs:List Value}{M2 G T:List AX}{ok no:List AX→Prop}
(ho:At ops N l o t (.call { callee:=.value x,args:=xs,argTypes:=tys }))(hx:Bo l x=some (vY lp))(hv:dD l xs.toList vs)(hH:H=M2++(G++T))
(hy:∀M,qE P K w0 lp vs (G++M) fun b G'=>∃G1,G'=G1++M∧(if b then ok G1 else no G1))
(h:∀(b:Bool) (G1:List AX),(if b then ok G1 else no G1)→FF Hs (M2++(G1++T))∧SL P ro K w0 N ops Hs items Q D ((t,.bool b)::l) (M2++(G1++T))):
  SL P ro K w0 N ops Hs (.cons (false,o) items) Q D l H:=by
 subst hH
 intro a w ha hw hs0
 have hw1:=GX ho.wt ha.vals
 simp only[PL,hw1,if_true]
 have hp:∀X:List AX,(M2++(X++T)++[Bf D]).Perm (X++(T++(M2++[Bf D]))):=by
  intro X
  have h1:M2++(X++T)++[Bf D]=M2++(X++T++[Bf D]):=by simp
  have h2:X++(T++(M2++[Bf D]))=(X++T)++(M2++[Bf D]):=by simp
  rw[h1,h2]
  have h3:=List.perm_append_comm_assoc M2 (X++T) [Bf D]
  simpa using h3
 obtain⟨f,tmps,asg,body,hrun,hround⟩:=hy (T++(M2++[Bf D])) w (hw.perm (hp G))
 have hargs:xs.map a.eval=vs.toArray:=by
  apply Array.ext'
  simp[dD.eval ha.vals hv]
 refine pA (by rw[ho.op];exact GW rfl) (i:=lp) (f:=f) (tmps:=tmps) (x:=asg) (y:=body) (w':=w) ?_ ?_
 simp[execOp,ho.op,resolve,Deferred.ofValue,ha.vals.eval hx,invoke,hargs]
 exact hrun
 refine hround.mono ?_
 rintro e w' ⟨b,G',rfl,⟨G1,rfl,hb⟩,hw'⟩
 have hw'':Bj K w0 ((M2++(G1++T))++[Bf D]) w':=hw'.perm (hp G1).symm
 obtain⟨h1,h2⟩:=h b G1 hb
 refine⟨_,rfl,h1.hs hw'',?_⟩
 have hput:N8 N D ((t,.bool b)::l) (a.put o.dst (.bool b)):=by rw[ho.dst];exact ha.put (JB ho.lt) _
 exact h2 _ w' hput hw'' (h1.hs hw'')
theorem F6{α:Type}{xs:List α}{i:Nat}{x:α}(h:xs[i]? = some x):xs=xs.take i++x::xs.drop (i+1)∧xs.take (i+1)=xs.take i++[x]:=by
 obtain⟨hlt,hx⟩:=List.getElem?_eq_some_iff.1 h
 subst hx
 refine⟨?_,?_⟩
 simp
 rw[List.take_add_one,List.getElem?_eq_getElem hlt];rfl
theorem RC{α:Type}{xs:List α}{i:Nat}(h:i<xs.length):∃x,xs[i]? = some x:=⟨xs[i],List.getElem?_eq_getElem h⟩
end

section
variable {P:Program}{ro:Option Nat}{K:Nat→Prop}{w0:World}{N:Nat}{Q:Dg}{D:List Nat}{l l':Tm}{H H' Hs L:List AX}{ops:Array Oper}{items:I6}
variable {tk:Bool}{o:Oper}{t:Nat}{v:Value}{x y z:Operand}
theorem ig{b off n c sz:Nat}{k:IntKind}{j:Int}{ty e:TypeId}(q:Nat)(ho:At ops N l o t (.slice ty x none (some z) none))(hty:P.underlying ty=some (.slice e))(hsz:DU P e=some sz)(hx:Bo l x=some (.slice (some ⟨b,off,none⟩) n c))(hz:Bo l z=some (.int k j))
(hj:j=(q:Int))(hq:q≤c)(h:SL P ro K w0 N ops Hs items Q D ((t,.slice (some ⟨b,off,none⟩) q c)::l) H):SL P ro K w0 N ops Hs (.cons (tk,o) items) Q D l H:=
 SL.val ho rfl (fun a w ha _=>by
  subst hj
  simp only[execOp,ho.op,Instr.sliceAt,Instr.slice,Option.map]
  simp[ha.eval hx,ha.eval hz,A2 hty,CY hsz,Instr.sliceBounds,Instr.sliceBound,asIntOf,hq,CU]) h
theorem iO{w:World}{b cap sz:Nat}{e:TypeId}{c:Array Value}{M:List AX}(h:Bj K w0 (own b (.cells c e)::M) w)(hc:c.size=cap*sz)(hm:cap≤9223372036854775807):Bj K w0 (D7 e sz (.slice (some ⟨b,0,none⟩) 0 cap) 0 []::M) w:=by
 refine h.turn rfl rfl rfl (Nat.le_refl _) (fun _ _ _=>rfl) ⟨by simp,.inr ⟨b,cap,c,(0,0),rfl,Nat.zero_le _,h.holds _ (List.mem_cons_self ..),by simp,Nat.zero_le _,by simp only[maxLen];omega,hc,by simp⟩⟩ (fun k hk=>?_)
 have hkb:k=b:=by simp[D7,Value.ownBlock]at hk;exact hk.symm
 subst hkb
 exact⟨.inl rfl,(h.foot _ (List.mem_cons_self ..) k rfl).1⟩
theorem en{w:World}{b n cap sz:Nat}{e:TypeId}{c:Array Value}{M:List AX}(h:Bj K w0 (own b (.cells c e)::M) w)(hc:c.size=cap*sz)(hn:n≤cap)(hm:cap≤9223372036854775807):Bj K w0 (D7 e sz (.slice (some ⟨b,0,none⟩) n cap) n (c.toList.take (n*sz))::M) w:=by
 have hle:n*sz≤cap*sz:=Nat.mul_le_mul_right _ hn
 refine h.turn rfl rfl rfl (Nat.le_refl _) (fun _ _ _=>rfl) ⟨by simp;omega,.inr ⟨b,cap,c,(0,0),rfl,Nat.zero_le _,h.holds _ (List.mem_cons_self ..),Nat.zero_le _,hn,by simp only[maxLen];omega,hc,rfl⟩⟩ (fun k hk=>?_)
 have hkb:k=b:=by simp[D7,Value.ownBlock]at hk;exact hk.symm
 subst hkb
 exact⟨.inl rfl,(h.foot _ (List.mem_cons_self ..) k rfl).1⟩
theorem Bj.grow0{w w':World}(h:Bj K w0 H w){e:TypeId}{cs:Array Value}(hw:w'=w.drew.drew.alloc (.cells cs e)):Bj K w0 (own w.heap.size (.cells cs e)::H) w':=by
 subst hw
 exact(h.same (w':=w.drew.drew) rfl rfl rfl (Nat.le_refl _) (fun _ _=>rfl)).alloc (.cells cs e)
theorem tG{f:FuncId}{fn:Func}{tys:Array TypeId}{ty e:TypeId}{k:Int}{n:Nat}(ho:At ops N l o t (.call { callee:=.value (.func f),args:=#[x],argTypes:=tys }))(hx:Bo l x=some (vI k))(hk:k=(n:Int))(hn:n≤281474976710656)(hty:P.underlying ty=some (.slice e))
(hrun:∀(w:World) (r:Value) (w':World),(Extern.BytealgMakeNoZero.makeNoZero fn.params #[ty] #[.int .i64 n]).run P w=.ok r w'→(callFunc f #[vI n]).run P w=.ok (.value r) w')
(hs:∀b (cs:Array Value),FF Hs (own b (.cells cs e)::H))
(h:∀b (cs:Array Value),n≤cs.size→cs.size≤9223372036854775807→SL P ro K w0 N ops Hs items Q D ((t,.slice (some ⟨b,0,none⟩) n cs.size)::l) (own b (.cells cs e)::H)):SL P ro K w0 N ops Hs (.cons (false,o) items) Q D l H:=by
 subst hk
 intro a w ha hw hs0
 have hw1:=GX ho.wt ha.vals
 simp only[PL,hw1,if_true]
 obtain⟨cs,hr,h1,h2⟩:=Lib.run_makeNoZero (P:=P) w fn.params ty e hty n hn
 have hw':=hw.grow0 (e:=e) (cs:=cs) rfl
 refine LM (by rw[ho.op];exact GW rfl) (v:=.slice (some ⟨w.heap.size,0,none⟩) n cs.size) (w':=w.drew.drew.alloc (.cells cs e)) ?_ ⟨(hs w.heap.size cs).hs hw',h w.heap.size cs h1 (h2 (by simp only[maxLen];omega)) _ _ (by rw[ho.dst];exact ha.put (JB ho.lt) _) hw' ((hs w.heap.size cs).hs hw')⟩
 simp only[execOp,ho.op,resolve,Act.eval,Deferred.ofValue,Sem.run_bind,Sem.run_pure,Result.andThen_ok,invoke]
 have hxe:=ha.vals.eval hx
 simp only[List.map_toArray,List.map_cons,List.map_nil,hxe]
 simpa using hrun w _ _ hr
theorem tE{ty e:TypeId}{sz by_ n c:Nat}{zv:Value}{k k':IntKind}(ho:At ops N l o t (.makeSlice ty x y))(hty:P.underlying ty=some (.slice e))(hsz:DU P e=some sz)(hby:RW P e=some by_)(hze:Ev P e=some zv)
(hx:Bo l x=some (.int k (n:Int)))(hy:Bo l y=some (.int k' (c:Int)))(hnc:n≤c)(hb:by_*c≤281474976710656)(h63:c≤9223372036854775807)
(hs:∀b,FF Hs (own b (.cells (madeCells zv.cells (c*sz)) e)::H))
(h:∀b,SL P ro K w0 N ops Hs items Q D ((t,.slice (some ⟨b,0,none⟩) n c)::l) (own b (.cells (madeCells zv.cells (c*sz)) e)::H)):SL P ro K w0 N ops Hs (.cons (false,o) items) Q D l H:=
 IJ (fun b=>.slice (some ⟨b,0,none⟩) n c) (fun b=>own b (.cells (madeCells zv.cells (c*sz)) e)::H) ho rfl (fun a w ha hw=>by
  obtain⟨ii,hii,e1,e2,e3⟩:=RD hsz hby hze
  refine⟨w.heap.size,_,?_,hw.alloc (.cells (madeCells zv.cells (c*sz)) e)⟩
  have hb':(ii.bytes:Int)*(c:Int)≤281474976710656:=by rw[e2,←Int.natCast_mul];omega
  have hr:=run_make (P:=P) w ty e ii zv hty hii e3 k k' n c zO zO hb' zO
  rw[e1]at hr
  simp only[Int.toNat_natCast]at hr
  unfold execOp
  simp only[ho.op,ha.eval hx,ha.eval hy,Sem.run_bind,hr,Result.andThen_ok,Sem.run_pure]) hs h
theorem oH{a b c:Int}{u:Operand}{ty:Array TypeId}(ho:At ops N l o t (.call { callee:=.builtin .min,args:=#[x,y,u],argTypes:=ty }))(hx:Bo l x=some (vI a))(hy:Bo l y=some (vI b))(hu:Bo l u=some (vI c))
(h:SL P ro K w0 N ops Hs items Q D ((t,vI (min (min a b) c))::l) H):SL P ro K w0 N ops Hs (.cons (tk,o) items) Q D l H:=
 SL.val ho rfl (fun a' w ha _=>by
  simp only[execOp,ho.op,resolve,invoke,builtin,Builtin.min_]
  simp[ha.eval hx,ha.eval hy,ha.eval hu,Builtin.min2]
  omega) h
theorem sw{ty e:TypeId}{sz dl dc:Nat}{ad:Addr}(ho:At ops N l o t (.call { callee:=.builtin .copy,args:=#[x,y],argTypes:=#[ty,ty] }))(hty:P.underlying ty=some (.slice e))(hsz:DU P e=some sz)
(hx:Bo l x=some (.slice (some ad) dl dc))(hy:Bo l y=some (.slice none 0 0))(h:SL P ro K w0 N ops Hs items Q D ((t,vI 0)::l) H):SL P ro K w0 N ops Hs (.cons (tk,o) items) Q D l H:=
 SL.val ho rfl (fun a w ha _=>by
  have hs:((P.info? e).map (·.size)).isSome=true:=by
   have:(P.info? e).map (·.size)=some sz:=hsz
   rw[this];rfl
  unfold execOp
  simp only[ho.op,resolve,invoke,builtin,Sem.run_bind,Sem.run_pure,Result.andThen_ok,List.map_toArray,List.map_cons,List.map_nil,ha.eval hx,ha.eval hy]
  rw[run_copy_nil (P:=P) (w:=w) ty ty o.type e ad dl dc hty hs]
  rfl) h
end

section
variable {P:Program}{ro:Option Nat}{K:Nat→Prop}{w0:World}{N:Nat}{Q:Dg}{D:List Nat}{l l':Tm}{H H' Hs L:List AX}{ops:Array Oper}{items:I6}
variable {tk:Bool}{o:Oper}{t:Nat}{v:Value}{x y z:Operand}
theorem pj{a:Int}{ty:TypeId}(ho:At ops N l o t (.unOp .neg ty x))(hx:Bo l x=some (vI a))(h1 : -9223372036854775807≤a)(h2:a≤9223372036854775807)(h:SL P ro K w0 N ops Hs items Q D ((t,vI (-a))::l) H):SL P ro K w0 N ops Hs (.cons (tk,o) items) Q D l H:=
 SL.val ho rfl (fun a' w ha _=>by
  have hw:IntKind.i64.wrap (0-a) = -a:=by
   rw[O7 (k:=.i64) (by show(-9223372036854775808:Int)≤_;omega) (by show _≤(9223372036854775807:Int);omega)]
   omega
  simp only[execOp,ho.op,ha.eval hx,Op.unary,Op.intArith,hw,Sem.run_bind,Sem.run_pure,Result.andThen_ok]) h
theorem dP{a:UInt32}{ty:TypeId}(ho:At ops N l o t (.unOp .xor ty x))(hx:Bo l x=some (AB a))(h:SL P ro K w0 N ops Hs items Q D ((t,AB (4294967295 ^^^ a))::l) H):SL P ro K w0 N ops Hs (.cons (tk,o) items) Q D l H:=
 SL.val ho rfl (fun a' w ha _=>by
  have h1:=(Cw (a:=4294967295) (b:=a) P w 0 (.tmp 0) (.tmp 0)).2
  simp only[binOp]at h1
  have hm:(if IntKind.u32.signed=true then(-1:Int)else IntKind.u32.max)=((4294967295:UInt32).toNat:Int):=by decide
  simp only[execOp,ho.op,ha.eval hx,Op.unary,Sem.run_bind,hm]
  simp only[ne_eq,not_true_eq_false,if_false]at h1
  rw[h1]
  rfl) h
def Dx{α:Type}(f:α→Value)(xs:List α):Array Value:=(xs.map f).toArray
theorem Hd{α:Type}{f:α→Value}{xs:List α}{i:Nat}{a:α}(h:xs[i]? = some a):(Dx f xs)[i]? = some (f a):=by simp[Dx,h]
theorem YL{α:Type}(f:α→Value)(xs:List α):(Dx f xs).size=xs.length:=by simp[Dx]
theorem qJ{α:Type}(f:α→Value)(xs:List α)(i:Nat)(a:α):Fp (Dx f xs) i [f a]=Dx f (xs.set i a):=by
 simp only[Fp,Dx]
 apply Array.ext'
 simp[List.map_set]
theorem Y6{α:Type}(f:α→Value)(xs:List α):(Dx f xs).toList=xs.map f:=by simp[Dx]
theorem RY{n i:Nat}{k:IntKind}{j:Int}{ty e:TypeId}{cs:Array Value}(ho:At ops N l o t (.index ty x y))(hty:P.underlying ty=some (.array n e))(hs:KM P e=true)(hx:Bo l x=some (.agg cs))(hy:Bo l y=some (.int k j))
(hj:j=(i:Int))(hlt:i<n)(hc:cs[i]? = some v)(h:SL P ro K w0 N ops Hs items Q D ((t,v)::l) H):SL P ro K w0 N ops Hs (.cons (tk,o) items) Q D l H:=
 SL.val ho rfl (fun a w ha _=>by
  subst hj
  obtain⟨h1,h2⟩:=Yr hs w
  have h3:(isAgg e).run P w=.ok false w:=h1
  simp only[execOp,ho.op,Instr.index,Sem.run_bind,ha.eval hx,ha.eval hy,asIntOf,Sem.run_pure,Result.andThen_ok,A2 hty]
  have h4:(0:Int)≤(i:Int)∧(i:Int)<(n:Int):=zO
  simp only[if_pos h4,Sem.run_bind,CY h2,Result.andThen_ok,Int.toNat_natCast,Nat.mul_one]
  simp[part,h3,hc]) h
theorem XL{α:Type}{f:α→Value}{xs ys:List α}{j:Nat}(d:α)(h:j<xs.length):(Dx f (xs++ys))[j]? = some (f (xs.getD j d)):=by
 refine Hd ?_
 rw[List.getElem?_append_left h,List.getD_eq_getElem?_getD,List.getElem?_eq_getElem h]
 rfl
theorem Vf{α:Type}(xs:List α)(z x:α)(n i:Nat)(h:xs.length=i)(hn:i<n):(xs++List.replicate (n-i) z).set i x=(xs++[x])++List.replicate (n-(i+1)) z:=by
 subst h
 rw[List.set_append_right _ _ (Nat.le_refl _),Nat.sub_self]
 have e:n-xs.length=(n-(xs.length+1))+1:=zO
 rw[e,List.replicate_succ,List.set_cons_zero,List.append_assoc]
 rfl
theorem DK{b n m:Nat}{k:IntKind}{i:Int}{ty e:TypeId}(ho:At ops N l o t (.indexAddr ty x y))(hty:P.underlying ty=some (.array m e))(hsz:DU P e=some 1)(hx:Bo l x=some (vP b 0))(hy:Bo l y=some (.int k i))
(hi:i=(n:Int))(hlt:n<m)(h:SL P ro K w0 N ops Hs items Q D ((t,vP b n)::l) H):SL P ro K w0 N ops Hs (.cons (tk,o) items) Q D l H:=
 I7 ho hty hsz hx hy hi hlt (by rw[Nat.zero_add,Nat.mul_one];exact h)
theorem sy{b n len cap:Nat}{k:IntKind}{i:Int}{ty e:TypeId}(ho:At ops N l o t (.indexAddr ty x y))(hty:P.underlying ty=some (.slice e))(hsz:DU P e=some 1)(hx:Bo l x=some (.slice (some ⟨b,0,none⟩) len cap))(hy:Bo l y=some (.int k i))
(hi:i=(n:Int))(hlt:n<len)(h:SL P ro K w0 N ops Hs items Q D ((t,vP b n)::l) H):SL P ro K w0 N ops Hs (.cons (tk,o) items) Q D l H:=
 kO ho hty hsz hx hy hi hlt (by rw[Nat.zero_add,Nat.mul_one];exact h)
theorem XE{α:Type}{f:α→Value}{a:α}{xs:List α}{b k:Nat}{e ty:TypeId}(i:Nat)(ho:At0 ops l o (.store ty x y))(hx:Bo l x=some (vP b k))(hy:Bo l y=some (f a))(hi:H[i]? = some (own b (.cells (Dx f xs) e)))
(hn:DU P ty=some 1)(hc:(f a).cells=#[f a])(h1:(f a).oneCell'=true)(hk:k<xs.length)
(hs:FF Hs (H.set i (own b (.cells (Dx f (xs.set k a)) e))))(h:SL P ro K w0 N ops Hs items Q D l (H.set i (own b (.cells (Dx f (xs.set k a)) e)))):SL P ro K w0 N ops Hs (.cons (false,o) items) Q D l H:=by
 have e1:Fp (Dx f xs) k (f a).cells.toList=Dx f (xs.set k a):=by rw[hc];exact qJ f xs k a
 refine Zq i ho hx hy hi hn (by rw[hc];rfl) (by rw[hc];simp[h1]) (by rw[YL];omega) ?_ ?_
 rw[e1];exact hs
 rw[e1];exact h
theorem cS{c:Array Value}{vs:List Value}(h:c.size=vs.length):Fp c 0 vs=vs.toArray:=by
 apply Array.ext'
 rw[Mu _ _ _ zO]
 have:c.toList.drop (0+vs.length)=[]:=List.drop_eq_nil_of_le zQ
 rw[this]
 simp
theorem S4{b n:Nat}{c c':Array Value}{e ty:TypeId}(i:Nat)(ho:At0 ops l o (.store ty x y))(hx:Bo l x=some (vP b 0))(hy:Bo l y=some (.agg c'))(hi:H[i]? = some (own b (.cells c e)))
(hn:DU P ty=some n)(hv:c'.size=n)(hc:c.size=n)(h1:∀u∈c'.toList,u.oneCell'=true)
(hs:FF Hs (H.set i (own b (.cells c' e))))(h:SL P ro K w0 N ops Hs items Q D l (H.set i (own b (.cells c' e)))):SL P ro K w0 N ops Hs (.cons (false,o) items) Q D l H:=by
 have e1:Fp c 0 (Value.agg c').cells.toList=c':=by
  have:=cS (c:=c) (vs:=c'.toList) zQ
  exact this
 refine Zq i ho hx hy hi hn hv (List.all_eq_true.2 h1) zO ?_ ?_
 rw[e1];exact hs
 rw[e1];exact h
theorem Sa{α:Type}{f:α→Value}(hf:∀a,(f a).oneCell'=true)(xs:List α):∀u∈(Dx f xs).toList,u.oneCell'=true:=by
 intro u hu
 rw[Y6]at hu
 obtain⟨a,_,rfl⟩:=List.mem_map.1 hu
 exact hf a
def PC{α:Type}(f:α→Value)(xs:List α)(tl:List Value):Array Value:=(xs.map f++tl).toArray
theorem LB{α:Type}{f:α→Value}{xs:List α}{tl:List Value}{j:Nat}(d:α)(h:j<xs.length):(PC f xs tl)[j]? = some (f (xs.getD j d)):=by
 simp only[PC,List.getElem?_toArray]
 rw[List.getElem?_append_left (by simpa using h),List.getElem?_map,List.getD_eq_getElem?_getD,List.getElem?_eq_getElem h]
 rfl
theorem oN{α:Type}(f:α→Value)(xs:List α)(tl:List Value)(i:Nat)(a:α)(h:i<xs.length):Fp (PC f xs tl) i [f a]=PC f (xs.set i a) tl:=by
 simp only[Fp,PC]
 apply Array.ext'
 simp only[Array.toList_setIfInBounds]
 rw[List.set_append_left _ _ (by simpa using h),List.map_set]
theorem tN{α:Type}{f:α→Value}{a:α}{xs:List α}{tl:List Value}{b k:Nat}{e ty:TypeId}(i:Nat)(ho:At0 ops l o (.store ty x y))(hx:Bo l x=some (vP b k))(hy:Bo l y=some (f a))(hi:H[i]? = some (own b (.cells (PC f xs tl) e)))
(hn:DU P ty=some 1)(hc:(f a).cells=#[f a])(h1:(f a).oneCell'=true)(hk:k<xs.length)
(hs:FF Hs (H.set i (own b (.cells (PC f (xs.set k a) tl) e))))(h:SL P ro K w0 N ops Hs items Q D l (H.set i (own b (.cells (PC f (xs.set k a) tl) e)))):SL P ro K w0 N ops Hs (.cons (false,o) items) Q D l H:=by
 have e1:Fp (PC f xs tl) k (f a).cells.toList=PC f (xs.set k a) tl:=by rw[hc];exact oN f xs tl k a hk
 refine Zq i ho hx hy hi hn (by rw[hc];rfl) (by rw[hc];simp[h1]) (by simp[PC];omega) ?_ ?_
 rw[e1];exact hs
 rw[e1];exact h
structure Vo(K:Nat→Prop)(w0:World)(g:Nat)(T:List UInt32):Prop where
 keep:K g
 cell:∀i x,T[i]? = some x→w0.cell? ⟨g,i,none⟩=some (AB x)
theorem Vo.keeps{g:Nat}{T:List UInt32}{K':Nat→Prop}{w1:World}(h:Vo K w0 g T)(hk:YD K w0 K' w1):Vo K' w1 g T:=
 ⟨(hk g h.keep).1,fun i x hx=>by rw[World.cell?_of_block (w:=w0) (hk g h.keep).2];exact h.cell i x hx⟩
theorem Vo.load{g n:Nat}{T:List UInt32}(h:Vo K w0 g T)(hn:n<T.length):∀w,HW K w0 L w→w.cell? ⟨g,n,none⟩=some (AB (T.getD n 0)):=
 Q2 (ad:=⟨g,n,none⟩) h.keep (h.cell n _ (by rw[List.getD_eq_getElem?_getD,List.getElem?_eq_getElem hn];rfl))
theorem W8{ty e:TypeId}{n:Nat}{parts:Array (Nat×Operand)}{zv:Value}(vs:List Value)(ho:At ops N l o t (.build ty parts))(hty:P.underlying ty=some (.array n e))(hsz:DU P e=some 1)(hz:Ev P ty=some zv)(hzs:zv.cells.size=n)
(hv:dD l (parts.toList.map (·.2)) vs)(hi:parts.toList.map (·.1)=List.range' 0 n)(hlen:vs.length=n)(h1:∀v∈vs,v.cells=#[v])(h:SL P ro K w0 N ops Hs items Q D ((t,.agg vs.toArray)::l) H):SL P ro K w0 N ops Hs (.cons (tk,o) items) Q D l H:=
 SL.val ho rfl (fun a w ha _=>by
  have hev:=dD.eval ha hv
  have hp:(parts.map fun(i,x)=>(i,a.eval x)).toList=(List.range' 0 vs.length).zip vs:=by
   rw[Array.toList_map,Tx,hev,hi,hlen]
  have hfm:(vs.flatMap fun v=>v.cells.toList)=vs:=by
   clear hlen hv hev hp h
   induction vs with
   | nil=>rfl
   | cons u us ih=>rw[List.flatMap_cons,ih (fun v hv=>h1 v (List.mem_cons_of_mem _ hv)),h1 u (List.mem_cons_self ..)];rfl
  have hf:=Wh 1 vs 0 zv.cells (fun v hv=>by rw[h1 v hv];rfl) zO
  rw[hfm,Nat.zero_mul,cS zO]at hf
  simp only[execOp,ho.op,Sem.run_bind,Instr.build,Pd hz,Result.andThen_ok,A2 hty,CY hsz,hp,hf,Sem.run_pure]) h
theorem UR{n i sz:Nat}{k:IntKind}{j:Int}{ty e:TypeId}{cs c':Array Value}(ho:At ops N l o t (.index ty x y))(hty:P.underlying ty=some (.array n e))(hs:PN P e=some sz)(hx:Bo l x=some (.agg cs))(hy:Bo l y=some (.int k j))
(hj:j=(i:Int))(hlt:i<n)(hc:cs.extract (i*sz) (i*sz+sz)=c')(h:SL P ro K w0 N ops Hs items Q D ((t,.agg c')::l) H):SL P ro K w0 N ops Hs (.cons (tk,o) items) Q D l H:=
 SL.val ho rfl (fun a w ha _=>by
  subst hj
  obtain⟨h1,h2⟩:=YJ hs w
  have h3:(isAgg e).run P w=.ok true w:=h1
  simp only[execOp,ho.op,Instr.index,Sem.run_bind,ha.eval hx,ha.eval hy,asIntOf,Sem.run_pure,Result.andThen_ok,A2 hty]
  have h4:(0:Int)≤(i:Int)∧(i:Int)<(n:Int):=zO
  simp only[if_pos h4,Sem.run_bind,CY h2,Result.andThen_ok,Int.toNat_natCast]
  simp[part,h3,CY h2,hc]) h
theorem LL{α:Type}{xs:List α}{n:Nat}(d:α)(h:n<xs.length):xs[n]? = some (xs.getD n d):=by
 rw[List.getD_eq_getElem?_getD,List.getElem?_eq_getElem h];rfl
theorem mQ{b n sz:Nat}{ty e:TypeId}(ho:At ops N l o t (.slice ty x none none none))(hty:P.underlying ty=some (.array n e))(hsz:DU P e=some sz)(hx:Bo l x=some (vP b 0))(_h0:n≠0)
(h:SL P ro K w0 N ops Hs items Q D ((t,.slice (some ⟨b,0,none⟩) n n)::l) H):SL P ro K w0 N ops Hs (.cons (tk,o) items) Q D l H:=
 SL.val ho rfl (fun a w ha _=>by
  simp only[execOp,ho.op,Instr.sliceAt,Option.map]
  simp[ha.eval hx,A2 hty,CY hsz,Instr.sliceBounds,Instr.sureAddr,CU]) h
theorem su{α:Type}{f:α→Value}{xs ys:List α}{b b' n cc cc':Nat}{ty e e':TypeId}(i i':Nat)(ho:At ops N l o t (.call { callee:=.builtin .copy,args:=#[x,y],argTypes:=#[ty,ty] }))(hty:P.underlying ty=some (.slice e))(hsz:DU P e=some 1)
(hx:Bo l x=some (.slice (some ⟨b,0,none⟩) n cc))(hy:Bo l y=some (.slice (some ⟨b',0,none⟩) n cc'))(hi:H[i]? = some (own b (.cells (Dx f xs) e')))(hi':H[i']? = some (own b' (.cells (Dx f ys) e')))(hxs:xs.length=n)(hys:ys.length=n)(h1:∀a,(f a).oneCell'=true)
(hs:FF Hs (H.set i (own b (.cells (Dx f ys) e'))))(h:SL P ro K w0 N ops Hs items Q D ((t,vI n)::l) (H.set i (own b (.cells (Dx f ys) e')))):SL P ro K w0 N ops Hs (.cons (false,o) items) Q D l H:=
 IJ (fun _:Unit=>vI n) (fun _=>H.set i (own b (.cells (Dx f ys) e'))) ho rfl (fun a w ha hw=>by
  have hg:w.heap[b]? = some (.cells (Dx f xs) e' (0,0)):=hw.holds _ (List.mem_append_left _ (List.mem_of_getElem? hi))
  have hg':w.heap[b']? = some (.cells (Dx f ys) e' (0,0)):=hw.holds _ (List.mem_append_left _ (List.mem_of_getElem? hi'))
  have hr:=run_copy_row (P:=P) w ty ty o.type e b 0 n cc ⟨b',0,none⟩ n cc' (Dx f xs) e' (ys.map f) hty hsz hg (by simp[hys]) (fun j v hj=>by
   rw[CU]
   simp only[World.cell?,hg',Nat.zero_add,Dx]
   simpa using hj) (by simp[Dx,hxs,hys]) (fun v hv=>by obtain⟨z,_,rfl⟩:=List.mem_map.1 hv;exact h1 z)
  have hset:=hw.putAt (o':=.cells (Dx f ys) e') i hi
  have e4:w.setRow b ((Dx f xs).toList.take 0++ys.map f++(Dx f xs).toList.drop (0+(ys.map f).length)).toArray=w.putObj b (.cells (Dx f ys) e'):=by
   have e5:((Dx f xs).toList.take 0++ys.map f++(Dx f xs).toList.drop (0+(ys.map f).length)).toArray=Dx f ys:=by
    apply Array.ext'
    simp[Dx,hxs,hys]
   rw[e5]
   unfold World.setRow World.putObj
   congr 1
   obtain⟨hlt,hget⟩:=Array.getElem?_eq_some_iff.1 hg
   apply Array.ext_getElem?
   intro k
   rw[Array.getElem?_modify,Array.getElem?_setIfInBounds]
   by_cases hk:b=k
   subst hk
   simp[hlt,hget]
   simp[hk]
  rw[e4]at hr
  refine⟨(),w.putObj b (.cells (Dx f ys) e'),?_,hset⟩
  unfold execOp
  simp only[ho.op,resolve,invoke,builtin,Sem.run_bind,Sem.run_pure,Result.andThen_ok,List.map_toArray,List.map_cons,List.map_nil,ha.eval hx,ha.eval hy,hr]
  simp[goInt,hys]) (fun _=>hs) (fun _=>h)
theorem WN.mono{f:FuncId}{args:List Value}{Hin:List AX}{post post':Value→List AX→Prop}(h:WN P K w0 f args Hin H post)(hp:∀v M,post v M→post' v M):WN P K w0 f args Hin H post':=by
 intro w hw
 refine(h w hw).mono ?_
 rintro e w' ⟨v,M,rfl,hq,hw'⟩
 exact⟨v,M,rfl,hp v M hq,hw'⟩
end

section
def Lo(x:UInt32)(n:Nat):UInt32:=shr32 x n ||| shl32 x (32-n)
def NX(s:List UInt8)(i:Nat):UInt32:=(s.getD i 0).toUInt32
def oB(s:List UInt8)(i:Nat):UInt32:=shl32 (NX s i) 24 ||| shl32 (NX s (i+1)) 16 ||| shl32 (NX s (i+2)) 8 ||| NX s (i+3)
def sL(x:UInt32):UInt32:=Lo x 7 ^^^ Lo x 18 ^^^ shr32 x 3
def sM(x:UInt32):UInt32:=Lo x 17 ^^^ Lo x 19 ^^^ shr32 x 10
def Ta(s:List UInt8)(ws:List UInt32):UInt32:=
 if ws.length<16 then oB s (4*ws.length)
 else ws.getD (ws.length-16) 0+ws.getD (ws.length-7) 0+sL (ws.getD (ws.length-15) 0)+sM (ws.getD (ws.length-2) 0)
def F5(s:List UInt8):Nat→List UInt32
 | 0=>[]
 | n+1=>F5 s n++[Ta s (F5 s n)]
def En(s:List UInt8):List UInt32:=F5 s 64
structure O8 where
 a:UInt32
 b:UInt32
 c:UInt32
 d:UInt32
 e:UInt32
 f:UInt32
 g:UInt32
 i:UInt32
def O8.list(s:O8):List UInt32:=[s.a,s.b,s.c,s.d,s.e,s.f,s.g,s.i]
def O8.of(l:List UInt32):O8:=⟨l.getD 0 0,l.getD 1 0,l.getD 2 0,l.getD 3 0,l.getD 4 0,l.getD 5 0,l.getD 6 0,l.getD 7 0⟩
def O8.t1(s:O8)(k w:UInt32):UInt32:=s.i+(Lo s.e 6 ^^^ Lo s.e 11 ^^^ Lo s.e 25)+(s.e &&& s.f ^^^ (4294967295 ^^^ s.e) &&& s.g)+k+w
def O8.t2(s:O8):UInt32:=(Lo s.a 2 ^^^ Lo s.a 13 ^^^ Lo s.a 22)+(s.a &&& s.b ^^^ s.a &&& s.c ^^^ s.b &&& s.c)
def O8.step(s:O8)(k w:UInt32):O8:=⟨s.t1 k w+s.t2,s.a,s.b,s.c,s.d+s.t1 k w,s.e,s.f,s.g⟩
def Ho(T ws:List UInt32)(h:List UInt32):Nat→O8
 | 0=>O8.of h
 | n+1=>(Ho T ws h n).step (T.getD n 0) (ws.getD n 0)
def TW(T:List UInt32)(h:List UInt32)(s:List UInt8):List UInt32:=List.zipWith (·+·) h (Ho T (En s) h 64).list
def Wm(T:List UInt32)(h:O8)(s:List UInt8):O8:=O8.of (TW T h.list s)
def Ew(T:List UInt32)(h:O8)(s:List UInt8):O8×List UInt8:=
 if s.length<64 then(h,s)else Ew T (Wm T h (s.take 64)) (s.drop 64)
termination_by s.length
decreasing_by simp;omega
def IL(w:UInt32):List UInt8:=[(shr32 w 24).toUInt8,(shr32 w 16).toUInt8,(shr32 w 8).toUInt8,w.toUInt8]
def UY(n:UInt64):List UInt8:=[(shr64 n 56).toUInt8,(shr64 n 48).toUInt8,(shr64 n 40).toUInt8,(shr64 n 32).toUInt8,(shr64 n 24).toUInt8,(shr64 n 16).toUInt8,(shr64 n 8).toUInt8,(shr64 n 0).toUInt8]
def NO(n:Nat):Nat:=(119-n%64)%64
def M6(n:Nat):List UInt8:=[128]++List.replicate (NO n) 0++UY (B9 n*8)
def Eh:O8:=⟨1779033703,3144134277,1013904242,2773480762,1359893119,2600822924,528734635,1541459225⟩
def O3(T:List UInt32)(s:List UInt8):List UInt8:=(Ew T Eh (s++M6 s.length)).1.list.flatMap IL
def T7(h f:List UInt32)(k:Nat):List UInt32:=(List.zipWith (·+·) h f).take k++h.drop k
theorem Xz(h f:List UInt32)(hl:f.length=h.length)(k:Nat):(T7 h f k).length=h.length:=by
 simp[T7,hl];omega
theorem d7(h f:List UInt32)(hl:f.length=h.length)(k:Nat)(hk:k<h.length):(T7 h f k).getD k 0=h.getD k 0:=by
 have e:((List.zipWith (·+·) h f).take k).length=k:=by simp[hl];omega
 simp only[T7,List.getD_eq_getElem?_getD]
 rw[List.getElem?_append_right zO,e,Nat.sub_self,List.getElem?_drop]
 rfl
theorem d8(h f:List UInt32)(hl:f.length=h.length)(k:Nat)(hk:k<h.length):(T7 h f k).set k (h.getD k 0+f.getD k 0)=T7 h f (k+1):=by
 have e:((List.zipWith (·+·) h f).take k).length=k:=by simp[hl];omega
 have e1:h.drop k=h[k]::h.drop (k+1):=List.drop_eq_getElem_cons hk
 have e2:(List.zipWith (·+·) h f).take (k+1)=(List.zipWith (·+·) h f).take k++[h[k]+f[k]' zO]:=by
  rw[List.take_add_one,List.getElem?_eq_getElem (by simp[hl];omega)]
  simp
 simp only[T7]
 rw[List.set_append_right _ _ zO,e,Nat.sub_self,e1,List.set_cons_zero,e2,List.append_assoc]
 simp[List.getD_eq_getElem?_getD,hk,hl]
theorem cB(h f:List UInt32)(hl:f.length=h.length):T7 h f h.length=List.zipWith (·+·) h f:=by
 simp only[T7,List.drop_length,List.append_nil]
 exact List.take_of_length_le (by simp[hl])
theorem Nm(s:List UInt8):∀n,(F5 s n).length=n
 | 0=>rfl
 | n+1=>by simp[F5,Nm s n]
theorem S9{l:List UInt32}(h:l.length=8):(O8.of l).list=l:=by
 match l,h with
 | [a,b,c,d,e,f,g,i],_=>rfl
theorem WG{T h:List UInt32}{s:List UInt8}(hh:h.length=8):(TW T h s).length=8:=by simp[TW,hh,O8.list]
theorem Rs{T:List UInt32}{h:O8}{s:List UInt8}(hs:s.length<64):Ew T h s=(h,s):=by rw[Ew,if_pos hs]
theorem XH{T:List UInt32}{h:O8}{p s:List UInt8}(hp:p.length=64):Ew T h (p++s)=Ew T (Wm T h p) s:=by
 rw[Ew,if_neg zQ]
 have h1:(p++s).take 64=p:=by rw[←hp];exact List.take_left
 have h2:(p++s).drop 64=s:=by rw[←hp];exact List.drop_left
 rw[h1,h2]
def Hx(T:List UInt32)(h:O8)(s:List UInt8):Nat→O8
 | 0=>h
 | j+1=>Wm T (Hx T h s j) ((s.drop (64*j)).take 64)
theorem TA(T:List UInt32)(h:O8)(s:List UInt8):∀j,64*j≤s.length→Ew T h s=Ew T (Hx T h s j) (s.drop (64*j))
 | 0,_=>by simp[Hx]
 | j+1,hj=>by
  rw[TA T h s j zO]
  have e:s.drop (64*j)=(s.drop (64*j)).take 64++s.drop (64*(j+1)):=by
   have:s.drop (64*(j+1))=(s.drop (64*j)).drop 64:=by rw[List.drop_drop];congr 1
   rw[this,List.take_append_drop]
  have h2:=XH (T:=T) (h:=Hx T h s j) (p:=(s.drop (64*j)).take 64) (s:=s.drop (64*(j+1))) zQ
  rw[←e]at h2
  rw[h2]
  rfl
theorem NC(T:List UInt32)(h:O8)(s:List UInt8):Ew T h s=(Hx T h s (s.length / 64),s.drop (64*(s.length / 64))):=by
 rw[TA T h s (s.length / 64) zO]
 exact Rs zQ
theorem e9(T:List UInt32)(h:O8)(s:List UInt8):(Ew T h s).2.length<64:=by
 rw[NC]
 simp
 omega
theorem UX(T:List UInt32)(h:O8)(s t:List UInt8):Ew T h (s++t)=Ew T (Ew T h s).1 ((Ew T h s).2++t):=by
 have h1:=TA T h (s++t) (s.length / 64) zQ
 rw[h1,NC T h s]
 have e:(s++t).drop (64*(s.length / 64))=s.drop (64*(s.length / 64))++t:=by
  rw[List.drop_append_of_le_length zO]
 have e2:∀j,64*j≤s.length→Hx T h (s++t) j=Hx T h s j:=by
  intro j
  induction j with
  | zero=>intro _;rfl
  | succ j ih=>
   intro hj
   simp only[Hx]
   rw[ih zO,List.drop_append_of_le_length zO,List.take_append_of_le_length zQ]
 rw[e,e2 _ zO]
def Qj(s:List UInt8):List (Nat×List UInt8):=(List.range (s.length / 64)).map fun j=>(64*(j+1),(s.drop (64*j)).take 64)
theorem RG(s:List UInt8):(Qj s).length=s.length / 64:=by simp[Qj]
theorem ZN(s:List UInt8)(j:Nat)(h:j<s.length / 64):(Qj s)[j]? = some (64*(j+1),(s.drop (64*j)).take 64):=by simp[Qj,h]
def WC(s:List UInt8):List Value:=[vS s]
def QB(h:O8)(rest:List UInt8)(n:Int):Array Value:=#[AB h.a,AB h.b,AB h.c,AB h.d,AB h.e,AB h.f,AB h.g,AB h.i,vS rest,vI n]
end

section
theorem Kp(T:List UInt32)(s:List UInt8):(O3 T s).length=32:=by simp[O3,O8.list,IL]
def GS(T:List UInt32)(key:List UInt8):List UInt8:=if 64<key.length then O3 T key else key
theorem Ya(T:List UInt32)(key:List UInt8):(GS T key).length≤64:=by
 unfold GS
 split
 rw[Kp];omega
 omega
def HH(T:List UInt32)(key:List UInt8)(c:UInt8):List UInt8:=(List.range 64).map fun i=>(GS T key).getD i 0 ^^^ c
theorem NQ(T:List UInt32)(key:List UInt8)(c:UInt8):(HH T key c).length=64:=by simp[HH]
def T6(T:List UInt32)(key m:List UInt8):List UInt8:=O3 T (HH T key 92++O3 T (HH T key 54++m))
theorem JW(T:List UInt32)(key m:List UInt8):(T6 T key m).length=32:=Kp T _
def Sj(T:List UInt32)(key label:List UInt8):Nat→List UInt8
 | 0=>[]
 | i+1=>T6 T key (Sj T key label i++label++[KJ ((i+1:Nat):Int)])
def Xc(T:List UInt32)(key label:List UInt8):List (List UInt8):=(List.range 255).map fun i=>Sj T key label (i+1)
theorem Xd(T:List UInt32)(key label:List UInt8):(Xc T key label).length=255:=by simp[Xc]
theorem dd(T:List UInt32)(key label:List UInt8)(i:Nat)(h:i<255):(Xc T key label)[i]? = some (Sj T key label (i+1)):=by simp[Xc,h]
def Hq(T:List UInt32)(key label:List UInt8):List UInt8:=T6 T key (label++[1])
theorem oZ(T:List UInt32)(key label:List UInt8):Sj T key label 1=Hq T key label:=by
 simp only[Sj,Hq,List.nil_append]
 rfl
theorem gF(T:List UInt32)(key label:List UInt8):∀i,(Sj T key label i).length≤32
 | 0=>by simp[Sj]
 | i+1=>by rw[Sj,JW];omega
end

section
structure BD where
 gen:UInt32
 secret:List UInt8
deriving DecidableEq
def AU(k:BD):List Value:=[AB k.gen,vS k.secret]
def HU:BD:=⟨0,[]⟩
def MF(ks:List BD):Nat→UInt32
 | 0=>0
 | i+1=>(ks.getD i HU).gen
def QO(ks:List BD)(i:Nat):Bool:=decide (MF ks i<(ks.getD i HU).gen)&&decide (((ks.getD i HU).secret.length:Int)=32)
def M4(ks:List BD):List (UInt32×Bool):=(List.range ks.length).map fun i=>((ks.getD i HU).gen,QO ks i)
def Dt(ks:List BD):Bool:=decide (ks.length≤16)&&(M4 ks).all (·.2)
def Ln(gen:UInt32)(ks:List BD):Nat:=ks.findIdx fun k=>decide (gen≤k.gen)
def Qm(gen:UInt32)(ks:List BD):Bool:=
 match ks[Ln gen ks]? with
 | some k=>decide (k.gen=gen)
 | none=>false
def C6(ks:List BD)(gen:UInt32):BD×Int:=
 if Dt ks=false then(HU,40)
 else match ks[Ln gen ks]? with
  | some k=>if k.gen=gen then(k,0)else(HU,41)
  | none=>(HU,41)
theorem R9(ks:List BD):(M4 ks).length=ks.length:=by simp[M4]
theorem Wj(ks:List BD)(i:Nat)(h:i<ks.length):(M4 ks)[i]? = some ((ks.getD i HU).gen,QO ks i):=by
 simp[M4,h]
theorem MB{ks:List BD}{i:Nat}{k:BD}(h:ks[i]? = some k):ks.getD i HU=k:=by
 simp[List.getD_eq_getElem?_getD,h]
theorem lO(gen:UInt32)(ks:List BD):Ln gen ks≤ks.length:=List.findIdx_le_length
theorem ZD{α:Type}{φ:α→Bool}{xs:List α}{i:Nat}{x:α}(h:xs[i]? = some x)(hx:φ x=true)(hb:∀(j:Nat) (y:α),j<i→xs[j]? = some y→φ y=false):xs.findIdx φ=i:=by
 obtain⟨hlt,rfl⟩:=List.getElem?_eq_some_iff.1 h
 exact(List.findIdx_eq hlt).2 ⟨hx,fun j hj=>hb j _ hj (List.getElem?_eq_getElem _)⟩
theorem jK{α:Type}{φ:α→Bool}{xs:List α}(hb:∀(j:Nat) (y:α),xs[j]? = some y→φ y=false):xs.findIdx φ=xs.length:=by
 rw[List.findIdx_eq_length]
 intro x hx
 obtain⟨j,hj⟩:=List.getElem?_of_mem hx
 exact hb j x hj
end

section
def Pg:List UInt8:=[115,101,97,108]
def QD:List UInt8:=[98,105,110,100]
def HG(x:UInt32):List UInt8:=[x.toUInt8,(shr32 x 8).toUInt8,(shr32 x 16).toUInt8,(shr32 x 24).toUInt8]
def RS(T:List UInt32)(k:BD)(w:List UInt8):List UInt8:=Hq T k.secret (w++HG k.gen)
theorem Qk(T:List UInt32)(k:BD)(w:List UInt8):(RS T k w).length=32:=JW T _ _
theorem ZR{k:BD}(h:Dt [k]=true):k.secret.length=32:=by
 simp[Dt,M4,QO,List.range_succ]at h
 omega
def MD(s:List UInt8):List UInt8:=[KJ ((s.length:Int) / 256),KJ s.length]++s++List.replicate (198-s.length) 0
theorem Gz{s:List UInt8}(h:s.length≤198):(MD s).length=200:=by simp[MD];omega
def dy(b:List UInt8):Nat:=(b.getD 0 0).toNat*256+(b.getD 1 0).toNat
def Z5(b:List UInt8):Prop:=∀j,j<198-dy b→b.getD (2+dy b+j) 0=0
instance (b:List UInt8):Decidable (Z5 b):=by unfold Z5;infer_instance
def iC(b:List UInt8):List UInt8×Int:=
 if b.length≠200 then([],50)else if 198<dy b then([],50)else if Z5 b then((b.drop 2).take (dy b),0)else([],50)
theorem mA{s:List UInt8}(h:s.length≤198):iC (MD s)=(s,0):=by
 have hl:dy (MD s)=s.length:=by
  simp only[dy,MD,List.cons_append,List.nil_append,List.getD_cons_zero,List.getD_cons_succ,KJ,UInt8.toNat_ofNat']
  omega
 have hc:Z5 (MD s):=by
  intro j hj
  rw[hl]at hj ⊢
  have:2+s.length+j=(s.length+j)+1+1:=zO
  rw[this]
  simp only[MD,List.cons_append,List.nil_append,List.getD_cons_succ]
  rw[List.getD_eq_getElem?_getD,List.getElem?_append_right zO,List.getElem?_replicate]
  split<;>rfl
 unfold iC
 rw[if_neg (by simp[Gz h]),if_neg (by rw[hl];omega),if_pos hc,hl]
 simp only[MD,List.cons_append,List.nil_append,List.drop_succ_cons,List.drop_zero,List.take_left]
end

section
def Lp(s:List UInt8)(i:Nat):UInt32:=NX s i ||| shl32 (NX s (i+1)) 8 ||| shl32 (NX s (i+2)) 16 ||| shl32 (NX s (i+3)) 24
def Ch(s:List UInt8):List UInt32:=(List.range (s.length / 4)).map fun j=>Lp s (4*j)
theorem FD(s:List UInt8):(Ch s).length=s.length / 4:=by simp[Ch]
theorem iH(s:List UInt8)(k i:Nat):Lp (s.drop k) i=Lp s (k+i):=by
 have h:∀j,NX (s.drop k) j=NX s (k+j):=fun j=>by simp[NX,List.getD_eq_getElem?_getD]
 simp only[Lp,h,Nat.add_assoc]
def Lv:List UInt8:=[101,120,112,97,110,100,32,51,50,45,98,121,116,101,32,107]
def JA(key:List UInt8)(counter:UInt32)(nonce:List UInt8):List UInt32:=Ch Lv++Ch key++Ch (HG counter)++Ch nonce
theorem OL{key nonce:List UInt8}{counter:UInt32}(hk:key.length=32)(hn:nonce.length=12):(JA key counter nonce).length=16:=by
 simp[JA,FD,hk,hn,Lv,HG]
structure Q4 where
 a:UInt32
 b:UInt32
 c:UInt32
 d:UInt32
def Q4.list(q:Q4):List UInt32:=[q.a,q.b,q.c,q.d]
def rl(x:UInt32)(n:Nat):UInt32:=shl32 x n ||| shr32 x (32-n)
def Q4.step(q:Q4)(n m:Nat):Q4:=
 let a:=q.a+q.b
 let d:=rl (q.d ^^^ a) n
 let c:=q.c+d
 ⟨a,rl (q.b ^^^ c) m,c,d⟩
def hQ:Nat→Nat
 | 0=>16
 | _=>8
def hU:Nat→Nat
 | 0=>12
 | _=>7
def Q4.steps(q:Q4):Nat→Q4
 | 0=>q
 | i+1=>(q.steps i).step (hQ i) (hU i)
def Q4.quarter(q:Q4):Q4:=q.steps 2
def Ji(step i k:Nat):Nat:=4*k+(i+k*step)%4
def Wz(ws:List UInt32)(ix:Nat→Nat)(q:List UInt32):Nat→List UInt32
 | 0=>ws
 | k+1=>(Wz ws ix q k).set (ix k) (q.getD k 0)
def pE(ws:List UInt32)(ix:Nat→Nat):List UInt32:=
 Wz ws ix (Q4.quarter ⟨ws.getD (ix 0) 0,ws.getD (ix 1) 0,ws.getD (ix 2) 0,ws.getD (ix 3) 0⟩).list 4
theorem SP(ws:List UInt32)(ix:Nat→Nat)(q:List UInt32):∀k,(Wz ws ix q k).length=ws.length
 | 0=>rfl
 | k+1=>by simp[Wz,SP ws ix q k]
theorem jr(ws:List UInt32)(ix:Nat→Nat):(pE ws ix).length=ws.length:=SP ..
def ER(ws:List UInt32)(step:Nat):Nat→List UInt32
 | 0=>ws
 | i+1=>pE (ER ws step i) (Ji step i)
theorem MH(ws:List UInt32)(step:Nat):∀i,(ER ws step i).length=ws.length
 | 0=>rfl
 | i+1=>by rw[ER,jr,MH ws step i]
def X5(ws:List UInt32)(step:Nat):List UInt32:=ER ws step 4
def wX(ws:List UInt32):List UInt32:=X5 (X5 ws 0) 1
def VL(ws:List UInt32):Nat→List UInt32
 | 0=>ws
 | i+1=>wX (VL ws i)
theorem O5(ws:List UInt32):∀i,(VL ws i).length=ws.length
 | 0=>rfl
 | i+1=>by simp only[VL,wX,X5,MH,O5 ws i]
def nm(ws was:List UInt32):List UInt8:=(List.zipWith (·+·) ws was).flatMap HG
def LV(key:List UInt8)(counter:UInt32)(nonce:List UInt8):List UInt8:=nm (VL (JA key counter nonce) 10) (JA key counter nonce)
theorem UZ{key nonce:List UInt8}{counter:UInt32}(hk:key.length=32)(hn:nonce.length=12):(LV key counter nonce).length=64:=by
 have h:=OL (counter:=counter) hk hn
 have key2:∀l:List UInt32,(l.flatMap HG).length=4*l.length:=by
  intro l
  induction l with
  | nil=>rfl
  | cons x r ih=>rw[List.flatMap_cons,List.length_append,ih,List.length_cons];simp[HG];omega
 rw[LV,nm,key2]
 simp[O5,h]
def RR(key nonce:List UInt8)(i:Nat):UInt8:=(LV key (UInt32.ofNat (i / 64)) nonce).getD (i%64) 0
def KK(key nonce s:List UInt8):List UInt8:=(List.range s.length).map fun i=>s.getD i 0 ^^^ RR key nonce i
theorem G5(key nonce s:List UInt8):(KK key nonce s).length=s.length:=by simp[KK]
theorem mH(key nonce s:List UInt8):KK key nonce (KK key nonce s)=s:=by
 refine List.ext_getElem (by simp[G5]) fun i h1 h2=>?_
 have e:(KK key nonce s).getD i 0=s[i] ^^^ RR key nonce i:=by
  simp[KK,List.getD_eq_getElem?_getD,h2]
 have:(KK key nonce (KK key nonce s))[i]=(KK key nonce s).getD i 0 ^^^ RR key nonce i:=by simp[KK]
 rw[this,e,UInt8.xor_assoc,UInt8.xor_self,UInt8.xor_zero]
end

section
structure DX where
 page:UInt32
 gen:UInt32
 boot:UInt32
 seq:UInt64
deriving DecidableEq
def Lu(h:DX):List Value:=[AB h.page,AB h.gen,AB h.boot,Be h.seq]
def U0:DX:=⟨0,0,0,0⟩
def B0(n:UInt64)(w:Nat):List UInt8:=(List.range w).map fun i=>(shr64 n (8*i)).toUInt8
theorem BP(n:UInt64)(w:Nat):(B0 n w).length=w:=by simp[B0]
theorem Rl(n:UInt64)(w:Nat):B0 n (w+1)=B0 n w++[(shr64 n (8*w)).toUInt8]:=by simp[B0,List.range_succ]
def Mr(h:DX):List UInt8:=B0 h.boot.toUInt64 4++B0 h.seq 8
theorem MC(h:DX):(Mr h).length=12:=by simp[Mr,BP]
def RJ(h:DX):List UInt8:=B0 h.page.toUInt64 4++B0 h.gen.toUInt64 4++Mr h++[0,0,0,0]
theorem JX(h:DX):(RJ h).length=24:=by simp[RJ,BP,MC]
def TX(s:List UInt8):Nat→UInt64
 | 0=>0
 | k+1=>TX s k ||| shl64 (s.getD k 0).toUInt64 (8*k)
def eh:Nat→Nat
 | 3=>8
 | _=>4
def eD:Nat→Nat
 | 0=>0
 | i+1=>eD i+eh i
def Xe(s:List UInt8)(i:Nat):UInt64:=TX (s.drop (eD i)) (eh i)
def gM(s:List UInt8):DX:=⟨(Xe s 0).toUInt32,(Xe s 1).toUInt32,(Xe s 2).toUInt32,Xe s 3⟩
def bf(s:List UInt8):DX×Bool:=if s.length=24∧RJ (gM s)=s then(gM s,true)else(U0,false)
end

section
def RF(s:List UInt8):List UInt8×Int:=if 198<s.length then([],50)else(MD s,0)
def MP(T:List UInt32)(k:BD)(h:DX)(body:List UInt8):List UInt8:=RJ h++KK (RS T k Pg) (Mr h) body
def Jp(T:List UInt32)(k:BD)(h:DX)(s:List UInt8):List UInt8:=MP T k h (MD s)++T6 T (RS T k QD) (MP T k h (MD s))
def Ik(T:List UInt32)(l:List BD)(h:DX)(s:List UInt8):List UInt8×Int:=
 if(C6 l h.gen).2≠0 then([],(C6 l h.gen).2)
 else if 198<s.length then([],50)
 else(Jp T (C6 l h.gen).1 h s,0)
def Yd(T:List UInt32)(l:List BD)(b:List UInt8):DX×List UInt8×Int:=
 if Dt l=false then(U0,[],40)
 else if b.length≠256 then(U0,[],61)
 else if(bf (b.take 24)).2=false then(U0,[],61)
 else if(C6 l (bf (b.take 24)).1.gen).2≠0 then(U0,[],(C6 l (bf (b.take 24)).1.gen).2)
 else if T6 T (RS T (C6 l (bf (b.take 24)).1.gen).1 QD) (b.take 224)≠b.drop 224 then(U0,[],61)
 else
  let h:=(bf (b.take 24)).1
  let u:=iC (KK (RS T (C6 l h.gen).1 Pg) (Mr h) ((b.drop 24).take 200))
  if u.2≠0∨(Ik T l h u.1).2≠0∨(Ik T l h u.1).1≠b then(U0,[],61)
  else(h,u.1,0)
theorem gN{l:List BD}{i:Nat}{k:BD}(hi:l[i]? = some k)(h:QO l i=true):Dt [k]=true:=by
 have hk:l.getD i HU=k:=MB hi
 simp only[QO,hk,Bool.and_eq_true,decide_eq_true_eq]at h
 have h0:(0:UInt32)<k.gen:=by
  have h1:=h.1
  rw[UInt32.lt_iff_toNat_lt]at h1 ⊢
  have:(0:UInt32).toNat=0:=rfl
  omega
 simp[Dt,M4,QO,List.range_succ,MF,h0,h.2]
theorem Xf{l:List BD}{g:UInt32}(h:(C6 l g).2=0):Dt l=true∧(C6 l g).1∈l∧(C6 l g).1.gen=g∧Dt [(C6 l g).1]=true:=by
 unfold C6 at h ⊢
 split at h
 simp at h
 rename_i hr
 have hr':Dt l=true:=by simpa using hr
 rw[if_neg hr]
 refine⟨hr',?_⟩
 split at h
 rename_i k hk
 split at h
 rename_i hg
 simp only[hg,if_true]
 refine⟨List.mem_of_getElem? hk,trivial,?_⟩
 refine gN hk ?_
 simp only[Dt,Bool.and_eq_true,List.all_eq_true]at hr'
 obtain⟨hlt,_⟩:=List.getElem?_eq_some_iff.1 hk
 exact hr'.2 _ (List.mem_of_getElem? (Wj l _ hlt))
 simp at h
 simp at h
theorem IM(T:List UInt32)(k:BD)(h:DX){body:List UInt8}(hb:body.length=200):(MP T k h body).length=224:=by simp[MP,JX,G5,hb]
theorem OM(T:List UInt32)(k:BD)(h:DX){s:List UInt8}(hs:s.length≤198):(Jp T k h s).length=256:=by simp[Jp,IM T k h (Gz hs),JW]
end

section
theorem P8(n:UInt64)(w i:Nat)(h:i<w)(r:List UInt8):(B0 n w++r).getD i 0=(shr64 n (8*i)).toUInt8:=by
 rw[List.getD_eq_getElem?_getD,List.getElem?_append_left (by simp[BP,h])]
 simp[B0,h]
theorem N0(n:UInt64)(k:Nat)(h:k≤64):(shr64 n k).toNat=n.toNat / 2^k:=by
 have h1:=n.toNat_lt
 simp only[shr64,UInt64.toNat_ofNat',Nat.min_eq_left h]
 refine Nat.mod_eq_of_lt (Nat.lt_of_le_of_lt (Nat.div_le_self _ _) h1)
theorem j5(b:UInt8)(k:Nat)(h:k≤56):(shl64 b.toUInt64 k).toNat=b.toNat*2^k:=by
 have h1:=b.toNat_lt
 simp only[shl64,UInt64.toNat_ofNat',Nat.min_eq_left (show k≤64 by omega),UInt8.toNat_toUInt64]
 refine Nat.mod_eq_of_lt ?_
 calc b.toNat*2^k<2^8*2^k:=Nat.mul_lt_mul_of_pos_right h1 (Nat.two_pow_pos k)
  _=2^(8+k):=(Nat.pow_add 2 8 k).symm
  _≤2^64:=Nat.pow_le_pow_right zD zO
theorem Wn(n:UInt64)(w:Nat)(r:List UInt8)(hw:w≤8):∀k,k≤w→(TX (B0 n w++r) k).toNat=n.toNat%2^(8*k)
 | 0,_=>by simp[TX,Nat.mod_one]
 | k+1,hk=>by
  have ih:=Wn n w r hw k zO
  rw[TX,UInt64.toNat_or,ih,j5 _ _ zO,P8 n w k zO,UInt64.toNat_toUInt8,N0 _ _ zO]
  have hlt:n.toNat%2^(8*k)<2^(8*k):=Nat.mod_lt _ (Nat.two_pow_pos _)
  rw[Nat.or_comm,Nat.mul_comm _ (2^(8*k)),←Nat.two_pow_add_eq_or_of_lt hlt,show 8*(k+1)=8*k+8 by omega,Nat.pow_add,Nat.mod_mul,Nat.add_comm]
theorem Up(n:UInt64)(w:Nat)(r:List UInt8):(B0 n w++r).drop w=r:=by
 rw[List.drop_append_of_le_length (by simp[BP]),List.drop_of_length_le (by simp[BP]),List.nil_append]
theorem cK(h:DX):RJ h=B0 h.page.toUInt64 4++(B0 h.gen.toUInt64 4++(B0 h.boot.toUInt64 4++(B0 h.seq 8++[0,0,0,0]))):=by
 simp[RJ,Mr]
theorem cg(x:UInt32)(r:List UInt8):(TX (B0 x.toUInt64 4++r) 4).toUInt32=x:=by
 have h:=Wn x.toUInt64 4 r zD 4 zD
 apply UInt32.toNat_inj.1
 have hx:=x.toNat_lt
 rw[UInt64.toNat_toUInt32,h]
 simp only[UInt32.toNat_toUInt64]
 omega
theorem sX(x:UInt64)(r:List UInt8):TX (B0 x 8++r) 8=x:=by
 have h:=Wn x 8 r zD 8 zD
 apply UInt64.toNat_inj.1
 rw[h]
 exact Nat.mod_eq_of_lt x.toNat_lt
theorem jc(h:DX):gM (RJ h)=h:=by
 have e1:(RJ h).drop 4=B0 h.gen.toUInt64 4++(B0 h.boot.toUInt64 4++(B0 h.seq 8++[0,0,0,0])):=by rw[cK,Up]
 have e2:(RJ h).drop 8=B0 h.boot.toUInt64 4++(B0 h.seq 8++[0,0,0,0]):=by
  rw[show 8=4+4 from rfl,←List.drop_drop,e1,Up]
 have e3:(RJ h).drop 12=B0 h.seq 8++[0,0,0,0]:=by
  rw[show 12=8+4 from rfl,←List.drop_drop,e2,Up]
 unfold gM Xe
 have o0:eD 0=0:=rfl
 have o1:eD 1=4:=rfl
 have o2:eD 2=8:=rfl
 have o3:eD 3=12:=rfl
 have w0:eh 0=4:=rfl
 have w1:eh 1=4:=rfl
 have w2:eh 2=4:=rfl
 have w3:eh 3=8:=rfl
 rw[o0,o1,o2,o3,w0,w1,w2,w3,List.drop_zero,e1,e2,e3,cg,cg,sX,cK,cg]
theorem lB(h:DX):bf (RJ h)=(h,true):=by
 unfold bf
 rw[jc,if_pos ⟨JX h,rfl⟩]
theorem P9(l:List BD):Dt l=true↔l.length≤16∧∀i,i<l.length→MF l i<(l.getD i HU).gen∧(l.getD i HU).secret.length=32:=by
 simp only[Dt,M4,QO,Bool.and_eq_true,decide_eq_true_eq,List.all_eq_true,List.mem_map,List.mem_range]
 constructor
 rintro⟨h1,h2⟩
 refine⟨h1,fun i hi=>?_⟩
 have:=h2 _ ⟨i,hi,rfl⟩
 simp only[Bool.and_eq_true,decide_eq_true_eq]at this
 exact⟨this.1,by omega⟩
 rintro⟨h1,h2⟩
 refine⟨h1,?_⟩
 rintro _ ⟨i,hi,rfl⟩
 have:=h2 i hi
 simp only[Bool.and_eq_true,decide_eq_true_eq]
 exact⟨this.1,by omega⟩
theorem Rp{l:List BD}(h:Dt l=true):∀j i,i<j→j<l.length→(l.getD i HU).gen<(l.getD j HU).gen
 | 0,i,hi,_=>by omega
 | j+1,i,hi,hj=>by
  have h1:=((P9 l).1 h).2 (j+1) hj
  rcases Nat.lt_or_ge i j with hlt | hge
  exact UInt32.lt_trans (Rp h j i hlt zO) h1.1
  rw[show i=j by omega];exact h1.1
theorem lX{l:List BD}(h:Dt l=true):∀i,i<l.length→0<(l.getD i HU).gen:=by
 intro i hi
 have h0:=((P9 l).1 h).2 0 zO
 rcases Nat.eq_zero_or_pos i with rfl | hp
 exact h0.1
 exact UInt32.lt_trans h0.1 (Rp h i 0 hp hi)
theorem lW(l:List BD):Dt l=true↔l.length≤16∧l.Pairwise (fun a b=>a.gen<b.gen)∧∀k∈l,0<k.gen∧k.secret.length=32:=by
 constructor
 intro h
 have h1:=(P9 l).1 h
 refine⟨h1.1,?_,?_⟩
 rw[List.pairwise_iff_getElem]
 intro i j hi hj hij
 have:=Rp h j i hij hj
 rwa [MB (List.getElem?_eq_getElem hi),MB (List.getElem?_eq_getElem hj)]at this
 intro k hk
 obtain⟨i,hi,rfl⟩:=List.getElem_of_mem hk
 have h2:=lX h i hi
 have h3:=(h1.2 i hi).2
 rw[MB (List.getElem?_eq_getElem hi)]at h2 h3
 exact⟨h2,h3⟩
 rintro⟨h1,h2,h3⟩
 refine(P9 l).2 ⟨h1,fun i hi=>?_⟩
 have hm:=h3 _ (List.getElem_mem hi)
 rw[MB (List.getElem?_eq_getElem hi)]
 refine⟨?_,hm.2⟩
 match i,hi with
 | 0,hi=>exact hm.1
 | i+1,hi=>
  have:=(List.pairwise_iff_getElem.1 h2) i (i+1) zO hi zO
  rw[MF,MB (List.getElem?_eq_getElem zO)]
  exact this
theorem df{l:List BD}{g:UInt32}{k:BD}:C6 l g=(k,0)↔Dt l=true∧k∈l∧k.gen=g:=by
 constructor
 intro h
 have:=Xf (l:=l) (g:=g) (by rw[h])
 rw[h]at this
 exact⟨this.1,this.2.1,this.2.2.1⟩
 rintro⟨hr,hk,rfl⟩
 obtain⟨i,hi,rfl⟩:=List.getElem_of_mem hk
 have hp:Ln l[i].gen l=i:=by
  refine ZD (List.getElem?_eq_getElem hi) zS fun j y hj hy=>?_
  have:=Rp hr i j hj hi
  rw[MB hy,MB (List.getElem?_eq_getElem hi)]at this
  rw[decide_eq_false_iff_not,UInt32.not_le]
  exact this
 simp[C6,hr,hp,hi]
theorem sJ{T:List UInt32}{l:List BD}{h:DX}{s:List UInt8}(e:(Ik T l h s).2=0):(C6 l h.gen).2=0∧s.length≤198∧Ik T l h s=(Jp T (C6 l h.gen).1 h s,0):=by
 unfold Ik at e ⊢
 split at e
 rename_i h1;exact absurd e h1
 rename_i h1
 split at e
 simp at e
 rename_i h2
 exact⟨by simpa using h1,by omega,by rw[if_neg h1,if_neg h2]⟩
theorem fH{T:List UInt32}{k:BD}{h:DX}{s:List UInt8}(hs:s.length≤198):(Jp T k h s).take 224=MP T k h (MD s):=by
 rw[Jp,List.take_append_of_le_length (by simp[IM T k h (Gz hs)])]
 exact List.take_of_length_le (by simp[IM T k h (Gz hs)])
theorem fG{T:List UInt32}{k:BD}{h:DX}{s:List UInt8}(hs:s.length≤198):(Jp T k h s).drop 224=T6 T (RS T k QD) (MP T k h (MD s)):=by
 rw[Jp,List.drop_append_of_le_length (by simp[IM T k h (Gz hs)]),List.drop_of_length_le (by simp[IM T k h (Gz hs)]),List.nil_append]
theorem io{T:List UInt32}{k:BD}{h:DX}{s:List UInt8}:(Jp T k h s).take 24=RJ h:=by
 rw[Jp,MP,List.append_assoc,List.take_append_of_le_length (by simp[JX]),List.take_of_length_le (by simp[JX])]
theorem oP{T:List UInt32}{k:BD}{h:DX}{s:List UInt8}(hs:s.length≤198):((Jp T k h s).drop 24).take 200=KK (RS T k Pg) (Mr h) (MD s):=by
 rw[Jp,MP,List.append_assoc,List.drop_append_of_le_length (by simp[JX]),List.drop_of_length_le (by simp[JX]),List.nil_append,
  List.take_append_of_le_length (by simp[G5,Gz hs]),List.take_of_length_le (by simp[G5,Gz hs])]
theorem lH{T:List UInt32}{l:List BD}{h:DX}{s:List UInt8}(e:(Ik T l h s).2=0):Yd T l (Ik T l h s).1=(h,s,0):=by
 obtain⟨hf,hs,he⟩:=sJ e
 have hr:=(Xf hf).1
 rw[he]
 simp only
 unfold Yd
 rw[if_neg (by simp[hr]),if_neg (by simp[OM _ _ _ hs]),io,lB,if_neg zS,if_neg (by simp[hf]),fH hs,fG hs,if_neg zS,oP hs]
 simp only[mH,mA hs,he]
 simp
end

section
open Go Go.ChangeShapes Go.WideShapes Go.ChangeAt Go.RowKit Go.Deep
section
variable {G:Type}{enc:TypeId×Value→G}{P:Program}{W W':World}
theorem Bj.below{H':List AX}(h:Bj (· < W.heap.size) W H' W'):Below W.heap.size W W':=⟨h.os,h.tape,h.output,h.size,fun b hb=>h.keep b hb⟩
def gp(P:Program)(ts:List TypeId):Bool:=ts.all fun t=>P.readableRec t&&decide (t<P.types.size)
theorem VM(hl:laidOutB P=true)(hb:Below W.heap.size W W'):∀ {ts:List TypeId} {vs:List Value} {ds:List (DataW G)} {ps:List MemPlace},gp P ts=true→
  DataW.TrodAll enc P W 0 (fun _=>true) true ts vs ds ps→DataW.TrodAll enc P W' 0 (fun b=>decide (b<W.heap.size)) true ts vs ds ps
 | [],[],[],_,_,h=>h
 | t::ts,v::vs,d::ds,ps,hr,h=>by
  obtain⟨p,q,h1,h2,e⟩:=h
  simp only[gp,List.all_cons,Bool.and_eq_true,decide_eq_true_eq]at hr
  refine⟨p,q,Below.trod hl hr.1.1 hr.1.2 h1 hb ?_,VM hl hb (by simpa[gp]using hr.2) h2,e⟩
  obtain⟨n,hn⟩:=h1
  exact DataW.trod_lt n _ _ _ hn
 | [],_::_,_,_,_,h=>h.elim
 | [],[],_::_,_,_,h=>h.elim
 | _::_,[],_,_,_,h=>h.elim
 | _::_,_::_,[],_,_,h=>h.elim
theorem cJ{fn:Func}{s:ChangeSpec}{tb:TypeId}{args:Array Value}{ds gs:List (DataW G)}{before:List MemPlace}(hl:laidOutB P=true)(hr:gp P fn.params.toList=true)
(hv:s.vars=[])(hres:fn.resultTypes.toList=[tb])(htb:P.underlying tb=some .bool)(hW:DataW.Whole enc P fn.params.toList s.vars false W args.toList ds gs before)
(h1:(s.fn G (ds++gs)).results=[.lit (.bool true)])(h2:(s.fn G (ds++gs)).args=ds)(h3:(s.fn G (ds++gs)).vars=[])(hb:Below W.heap.size W W'):
  s.post enc P fn false true false false W args (.bool true) W':=by
 have hW':=hW
 obtain⟨p,q,hA,hV,e,_,_⟩:=hW
 have hsz:fn.resultTypes.size=1:=by rw[←Array.length_toList,hres];rfl
 refine⟨ds,gs,before,[],p,[],hW',?_,?_,?_,hb.frame _,fun h=>by cases h⟩
 rw[h1,hres,hsz]
 exact trodAll_cons_mk (shut_bool htb _) trodAll_mk0
 rw[h2]
 exact VM hl hb hr hA
 rw[hv,h3]
 rfl
end
theorem az{f:FuncId}{args:List Value}{W:World}{R:Value→World→Prop}{P:Program}{post:Value→List AX→Prop}(h:WN P (· < W.heap.size) W f args [] [] post)
(hp:∀v W',(∃M,post v M)→Below W.heap.size W W'→R v W'):Calls P f args.toArray W fun e W'=>∃v,e=.returned v∧R v W':=by
 refine(h W (kN W)).mono ?_
 rintro e W' ⟨v,M,rfl,hq,hw⟩
 exact⟨v,rfl,hp v W' ⟨M,hq⟩ hw.below⟩
section
variable {G:Type}{enc:TypeId×Value→G}{P:Program}{W:World}
end
end

section
variable {P:Program}{ro:Option Nat}{K:Nat→Prop}{w0:World}{N:Nat}{Q:Dg}{D:List Nat}{l l':Tm}{H H' Hs L:List AX}{ops:Array Oper}{items:I6}
variable {tk:Bool}{o:Oper}{t:Nat}{v:Value}{x y z:Operand}
def jM(P:Program)(f:Field):Option (Nat×TypeDesc):=
 if f.name = "_" then none
 else match P.underlying f.type with
  | some (.int k)=>some (f.offset,.int k)
  | some .string=>some (f.offset,.string)
  | some .bool=>some (f.offset,.bool)
  | _=>none
def dh(P:Program):List Field→Option (List (Nat×TypeDesc))
 | []=>some []
 | f::r=>match jM P f,dh P r with
  | some a,some b=>some (a::b)
  | _,_=>none
def jL(P:Program)(t:TypeId):Option (List (Nat×TypeDesc)):=
 match P.underlying t with
 | some (.struct fs)=>if P.stoodInHeld t||P.eqGuardType P.depth t then none else dh P fs.toList
 | _=>none
def Wf:TypeDesc→Value→Value→Option Bool
 | .int _,.int k a,.int k' b=>if k=k' then some (a==b)else none
 | .string,.string a,.string b=>some (a.toList==b.toList)
 | .bool,.bool a,.bool b=>some (a==b)
 | _,_,_=>none
def HX:List (Nat×TypeDesc)→Array Value→Array Value→Option Bool
 | [],_,_=>some true
 | (i,d)::r,xs,ys=>
  match xs[i]?,ys[i]? with
  | some a,some b=>match Wf d a b,HX r xs ys with
   | some p,some q=>some (p&&q)
   | _,_=>none
  | _,_=>none
theorem SM(d:Nat)(xs ys:Array Value)(w:World):∀(fs:List Field) (fl:List (Nat×TypeDesc)) (b:Bool),dh P fs=some fl→HX fl xs ys=some b→(Op.eqFields (d+1) xs ys fs).run P w=.ok b w
 | [],fl,b,h1,h2=>by
  simp only[dh,Option.some.injEq]at h1
  subst h1
  simp only[HX,Option.some.injEq]at h2
  subst h2
  simp[Op.eqFields]
 | f::r,fl,b,h1,h2=>by
  simp only[dh]at h1
  split at h1
  rename_i a rl hf hr
  simp only[Option.some.injEq]at h1
  subst h1
  obtain⟨i,ds⟩:=a
  simp only[HX]at h2
  split at h2
  rename_i va vb hva hvb
  split at h2
  rename_i p q hp hq
  simp only[Option.some.injEq]at h2
  subst h2
  have ih:=SM d xs ys w r rl q hr hq
  unfold jM at hf
  split at hf
  cases hf
  rename_i hname
  have key:∀(hof:f.offset=i) (hag:(isAgg f.type).run P w=.ok false w) (he:(Op.equalIn (d+1) f.type va vb).run P w=.ok p w),(Op.eqFields (d+1) xs ys (f::r)).run P w=.ok (p&&q) w:=by
   intro hof hag he
   simp only[Op.eqFields,ne_eq,hname,not_false_eq_true,if_true,Sem.run_bind]
   have h3:(part f.type xs f.offset).run P w=.ok va w:=by simp[part,hag,hof,hva]
   have h4:(part f.type ys f.offset).run P w=.ok vb w:=by simp[part,hag,hof,hvb]
   simp only[h3,h4,he,Result.andThen_ok]
   cases p with
   | true=>simpa using ih
   | false=>simp
  split at hf
  rename_i k hu
  simp only[Option.some.injEq,Prod.mk.injEq]at hf
  obtain⟨hof,rfl⟩:=hf
  refine key hof (by simp[isAgg,A2 hu]) ?_
  unfold Wf at hp
  split at hp
  rename_i a' b' c' d' e'
  split at hp
  rename_i hkk
  simp only[Option.some.injEq]at hp
  subst hp;subst hkk
  exact run_equalIn_int w d f.type _ k _ _ hu
  cases hp
  rename_i hh;cases hh
  rename_i hh;cases hh
  cases hp
  rename_i hu
  simp only[Option.some.injEq,Prod.mk.injEq]at hf
  obtain⟨hof,rfl⟩:=hf
  refine key hof (by simp[isAgg,A2 hu]) ?_
  unfold Wf at hp
  split at hp
  rename_i hh;cases hh
  simp only[Option.some.injEq]at hp
  subst hp
  exact run_equalIn_string w d f.type _ _ hu
  rename_i hh;cases hh
  cases hp
  rename_i hu
  simp only[Option.some.injEq,Prod.mk.injEq]at hf
  obtain⟨hof,rfl⟩:=hf
  refine key hof (by simp[isAgg,A2 hu]) ?_
  unfold Wf at hp
  split at hp
  rename_i hh;cases hh
  rename_i hh;cases hh
  simp only[Option.some.injEq]at hp
  subst hp
  exact run_equalIn_bool' w d f.type _ _ hu
  cases hp
  cases hf
  cases h2
  cases h2
  cases h1
theorem jN{ty:TypeId}{fl:List (Nat×TypeDesc)}{xs ys:Array Value}{b:Bool}(hf:jL P ty=some fl)(he:HX fl xs ys=some b)(w:World):
  (∀op x y,(eqGuard op ty x y (.agg xs) (.agg ys)).run P w=.ok () w)∧(Op.equalIn 10000 ty (.agg xs) (.agg ys)).run P w=.ok b w:=by
 unfold jL at hf
 split at hf
 rename_i fs hu
 split at hf
 cases hf
 rename_i hg
 simp only[Bool.not_eq_true,Bool.or_eq_false_iff]at hg
 have hfo:P.fieldsOf ty=fs:=by simp[Program.fieldsOf,hu]
 refine⟨fun op x y=>run_eqGuard_agg w op ty x y xs ys hg.2,?_⟩
 rw[run_equalIn_agg w 9999 ty xs ys (by rw[hfo];exact hu) hg.1,hfo]
 exact SM 9998 xs ys w fs.toList fl b hf he
 cases hf
theorem VX{ty uy:TypeId}{fl:List (Nat×TypeDesc)}{xs ys:Array Value}{b:Bool}(ho:At ops N l o t (.binOp .eql ty x y uy))(hf:jL P ty=some fl)(hx:Bo l x=some (.agg xs))(hy:Bo l y=some (.agg ys))(he:HX fl xs ys=some b)
(h:SL P ro K w0 N ops Hs items Q D ((t,.bool b)::l) H):SL P ro K w0 N ops Hs (.cons (tk,o) items) Q D l H:=
 SL.val ho rfl (fun a w ha _=>by
  obtain⟨h1,h2⟩:=jN hf he w
  simp[execOp,ho.op,ha.eval hx,ha.eval hy,h1,run_eql_struct,h2]) h
theorem dN{ty uy:TypeId}{fl:List (Nat×TypeDesc)}{xs ys:Array Value}{b:Bool}(ho:At ops N l o t (.binOp .neq ty x y uy))(hf:jL P ty=some fl)(hx:Bo l x=some (.agg xs))(hy:Bo l y=some (.agg ys))(he:HX fl xs ys=some b)
(h:SL P ro K w0 N ops Hs items Q D ((t,.bool (!b))::l) H):SL P ro K w0 N ops Hs (.cons (tk,o) items) Q D l H:=
 SL.val ho rfl (fun a w ha _=>by
  obtain⟨h1,h2⟩:=jN hf he w
  simp[execOp,ho.op,ha.eval hx,ha.eval hy,h1,run_neq_struct,h2]) h
end
end Go.Proofs.YtpaohlmgfifebaaGreatDoor
