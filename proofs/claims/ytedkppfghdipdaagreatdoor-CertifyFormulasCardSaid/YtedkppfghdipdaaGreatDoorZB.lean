/-
  Lemmas, in parts.
-/
import Derived.Test.YtedkppfghdipdaaGreatDoorZA
import Derived.ArgAppend
import Derived.Laws.CopyRow
import Derived.Laws.IdiomCopy
import Derived.Laws.StructEq
import Derived.Orders
import Derived.Deep.LoopGhost
import Derived.RangeFuncRecord
import Derived.OrdersIn
import Derived.TacticsIn
import Derived.RangeFuncCalls
namespace Go.Proofs.YtedkppfghdipdaaGreatDoor
set_option linter.unusedVariables false
set_option maxHeartbeats 16000000
variable {w:World} {I:Nat→Prop} {N T clock d i j aa:Nat} {k ty:TypeId} {b bb found:Bool} {ao:Array MapEntry} {x y:Operand} {α:Type} {xs:Array Operand} {c:Ctx} {J:JJ} {a:Act} {β:Nat→Option Nat} {dst:Option Nat} {pos:String} {after:Array Edge} {g:Option (Nat×Bool)} {P:Program} {K:Act→World→Prop} {op:Op} {Q:Exit→Act→World→Prop} {lo:Option Operand} {ops:Array Oper}
section
open Go.RowKit Go.Maps Go.MapKept Go.ChangeMaps
theorem Rd.ch {v:Value} {f:FV} (h:Rd w I v f) (hf:f.simple=true):v=f.val:=by
 have one:∀ {u:Value} {g:FV},Rd w I u g→g.aH=true→u=g.cq:=by
  intro u g hu hg;cases hu <;> first|rfl|(simp [FV.aH] at hg)
 cases h with
 | agg us fs hl hr=>
  show Value.agg us.toArray=Value.agg (fs.map FV.cq).toArray;congr 2;refine List.ext_getElem? fun j=>?_;rw [yK];rcases yJ j us.length with hj|hj
  ·have fx:j<fs.length:=by rw [← hl];exact hj
   have e1:us[j]? = some us[j]:=by simp [hj]
   have e2:fs[j]? = some fs[j]:=by simp [fx]
   rw [e1,e2,xU];congr 1;exact one (hr j _ _ e1 e2) (zV.1 hf _ (yR fx))
  ·have fx:fs.length≤j:=by rw [← hl];exact hj
   simp [hj,fx]
 | int k n => rfl
 | bool b => rfl
 | str s => rfl
 | _ => simp [FV.simple, FV.aH] at hf
theorem Uc {f g:FV} (hf:f.aH=true) (hg:g.aH=true) (h:f.cq=g.cq):f=g:=by
 cases f <;> simp [FV.aH] at hf <;> cases g <;> simp [FV.aH] at hg <;> simp [FV.cq] at h <;> first|(obtain ⟨rfl,rfl⟩:=h;rfl)|(subst h;rfl)
theorem Vu:∀ {fs gs:List FV},fs.all FV.aH=true→gs.all FV.aH=true→fs.map FV.cq=gs.map FV.cq→fs=gs
 | [], [], _, _, _ => rfl
 | [], _ :: _, _, _, h => by simp at h
 | _ :: _, [], _, _, h => by simp at h
 | f :: fs, g :: gs, hf, hg, h => by
  simp only [ZG,zU] at hf hg;simp only [zH,List.cons.injEq] at h;rw [Uc hf.1 hg.1 h.1,Vu hf.2 hg.2 h.2]
theorem F9 {f g:FV} (hf:f.simple=true) (hg:g.simple=true) (h:f.val=g.val):f=g:=by
 cases f with
 | agg cs=>
  cases g with
  | agg ds =>
   have:(cs.map FV.cq).toArray=(ds.map FV.cq).toArray:=by simpa [FV.val] using h
   rw [Vu hf hg (by simpa using congrArg Array.toList this)]
  | _ => first|(simp [FV.simple, FV.aH] at hg; done)|(simp [FV.val, FV.cq] at h)
 | int k n =>
  cases g <;> first|(simp [FV.simple,FV.aH] at hg;done)|(simp [FV.val,FV.cq] at h;done)|exact Uc hf hg h
 | bool b =>
  cases g <;> first|(simp [FV.simple,FV.aH] at hg;done)|(simp [FV.val,FV.cq] at h;done)|exact Uc hf hg h
 | str b =>
  cases g <;> first|(simp [FV.simple,FV.aH] at hg;done)|(simp [FV.val,FV.cq] at h;done)|exact Uc hf hg h
 | _ => simp [FV.simple, FV.aH] at hf
def XP (P:Program) (k:TypeId) (kf:FV):Prop:=kf.simple=true∧∃ l,keyOf P k kf.val=some l
def TS.kQ (ts:TS):FV:=
 match ts.k.aX with
 | some true => .agg ts.zero
 | _ => ts.zero.headD .undef
def kq (es:List (List FV)) (kf z:FV) (vf:FV) (b:Bool):Prop:=(b=true∧[kf,vf]∈es)∨(b=false∧vf=z∧∀ row∈es,row.head?≠some kf)
def pw (es:List (List FV)) (kf vf:FV) (aZ : List (List FV)):Prop:=
 (∃ (j:Nat) (v0:FV),es[j]? = some [kf,v0]∧aZ=es.set j [kf,vf])∨((∀ row∈es,row.head?≠some kf)∧aZ=es++[[kf,vf]])
structure Mp (w:World) (I:Nat→Prop) (b clock:Nat) (ao:Array MapEntry) (es:List (List FV)):Prop where
 hb:w.heap[b]? = some (.map ao clock)
 st:Stamped ao clock
 sz:ao.size=es.length
 ks:∀ (j:Nat) e row,ao[j]? = some e→es[j]? = some row→∃ kf vf,row=[kf,vf]∧kf.simple=true∧e.key=kf.val
 vs:∀ (j:Nat) e row f,ao[j]? = some e→es[j]? = some row→row[1]? = some f→Rd w I e.val f
section
variable {w:World} {I:Nat→Prop} {b clock:Nat} {ao:Array MapEntry} {es:List (List FV)} {P:Program}
theorem Mp.row (h:Mp w I b clock ao es) {e:MapEntry} (he:ao[j]? = some e):∃ kf vf,es[j]? = some [kf,vf]∧kf.simple=true∧e.key=kf.val∧Rd w I e.val vf:=by
 have hj:j<es.length:=by rw [← h.sz];exact (Zh.1 he).1
 have hr:es[j]? = some es[j]:=by simp [hj]
 obtain ⟨kf,vf,e1,e2,e3⟩:=h.ks j e _ he hr;refine ⟨kf,vf,by rw [hr,e1],e2,e3,h.vs j e _ vf he hr (by rw [e1];rfl)⟩
theorem Mp.tq (h:Mp w I b clock ao es) {row:List FV} (hr:es[j]? = some row):∃ e,ao[j]? = some e:=by
 have hj:j<ao.size:=by rw [h.sz];exact (yq.1 hr).1
 exact ⟨ao[j],by simp [hj]⟩
theorem Mp.keys (h:Mp w I b clock ao es) (hk:∀ row∈es,∀ kf,row.head? = some kf→XP P k kf):∀ e∈ao.toList,∃ l,keyOf P k e.key=some l:=fun e he=>by
 obtain ⟨j,hj⟩:=rS he;have ki : ao[j]? = some e:=by simpa using hj
 obtain ⟨kf,vf,e1,_,e3,_⟩:=h.row ki;obtain ⟨_,l,hl⟩:=hk _ (zZ e1) kf rfl;exact ⟨l,by rw [e3];exact hl⟩
theorem Mp.find (h:Mp w I b clock ao es) (K:Keyed P k) (hk:∀ row∈es,∀ kf,row.head? = some kf→XP P k kf) {kf:FV} (cA:XP P k kf) :
  ((Instr.findKey k kf.val ao.toList).run P w=.ok none w∧(∀ e∈ao.toList,e.key≠kf.val)∧∀ row∈es,row.head?≠some kf)∨
  ∃ (j:Nat) (e:MapEntry) (vf:FV),(Instr.findKey k kf.val ao.toList).run P w=.ok (some (j,e.val)) w∧ao[j]? = some e∧e.key=kf.val∧es[j]? = some [kf,vf]∧Rd w I e.val vf∧∀ i v,es[i]? = some [kf,v]→i=j:=by
 obtain ⟨hs,l,hl⟩:=cA;rcases K.find w hl ao.toList (h.keys hk) with ⟨h1,h2⟩|⟨j,e0,h1,h2,h3⟩
 ·refine .inl ⟨h1,h2,fun row hr hh=>?_⟩;obtain ⟨j,hj⟩:=rS hr;obtain ⟨e,he⟩:=h.tq hj;obtain ⟨pK,vf,e1,_,e3,_⟩:=h.row he;rw [hj] at e1;injection e1 with e1
  subst e1;injection hh with hh
  subst hh;exact h2 e (zZ (by simpa using he)) e3
 ·have dX : ao[j]? = some e0:=by simpa using h2
  obtain ⟨pK,vf,e1,e2,e3,e4⟩:=h.row dX;have:pK=kf:=F9 e2 hs (by rw [← e3,h3]);subst this;refine .inr ⟨j,e0,vf,h1,dX,h3,e1,e4,fun i v hi=>?_⟩;obtain ⟨e,he⟩:=h.tq hi;obtain ⟨Bk,rO,q1,_,q3,_⟩:=h.row he;rw [hi] at q1;injection q1 with q1
  injection q1 with q1 _
  subst q1;have hd:=((stamped_iff ao clock).1 h.st).2.2;have il:i<ao.toList.length:=by have:=(Zh.1 he).1;simpa using this
  have im:j<ao.toList.length:=by have:=(Zh.1 dX).1;simpa using this
  have ei:ao.toList[i].key=pK.val:=by have:=(Zh.1 he).2;simp only [Array.getElem_toList];rw [this,q3]
  have ej:ao.toList[j].key=pK.val:=by have:=(Zh.1 dX).2;simp only [Array.getElem_toList];rw [this,h3]
  rcases Nat.lt_trichotomy i j with az|heq|qR
  ·exact absurd (ei.trans ej.symm) (VP.1 hd i j il im az)
  ·exact heq
  ·exact absurd (ej.trans ei.symm) (VP.1 hd j i im il qR)
end
section
variable {c:Ctx} {w0 w:World} {J:JJ} {s:ae} {a:Act} {β:Nat→Option Nat} {dst:Option Nat} {ty:TypeId} {pos:String} {after:Array Edge} {g:Option (Nat×Bool)}
theorem EU {c:Ctx} (hk:(c.ty T).k.aX = some bb) (w:World) (I:Nat→Prop):∃ z,(zeroValue T).run c.P w=.ok z w∧Rd w I z (c.ty T).kQ:=by
 obtain ⟨d,i,z,h⟩:=c.get rfl (wH hk);refine ⟨z,by simp [zeroValue,typeInfo,h.info,h.zo],?_⟩;have hz:=aD.zeros (w:=w) (I:=I) h.zr;have nv:=h.zk;unfold sY at nv;unfold TS.kQ;rw [hk] at nv ⊢;cases bb with
 | true =>
  dsimp only at nv ⊢;cases z <;> simp at nv
  rename_i cs;have:=Rd.agg (w:=w) (I:=I) cs.toList (c.ty T).zero hz.1 hz.2;simpa using this
 | false=>
  dsimp only at nv ⊢;have hc:z.cells.toList=[z]:=by
   cases z <;> first|rfl|(simp at nv)
  rw [hc] at hz;cases rF:(c.ty T).zero with
  | nil => rw [rF] at hz; have := hz.1; simp at this
  | cons f fs => rw [rF] at hz; exact hz.2 0 z f rfl rfl
theorem u9 {k e:Nat} (hT:(c.ty T).k=.map k e) (he:(c.ty e).k.aX = some bb) (K:Keyed c.P k) {b:Nat} {es:List (List FV)} (h:Mp w I b clock ao es)
  (hk:∀ row∈es,∀ kf,row.head? = some kf→XP c.P k kf) {kf:FV} (cA:XP c.P k kf) (ok:Bool) {vf:FV} (hl:kq es kf (c.ty e).kQ vf found) :
  ∃ v,(Instr.lookup T (.map (some b)) kf.val ok).run c.P w=.ok v w∧Rd w I v (if ok then .bS [vf,.bool found] else vf):=by
 obtain ⟨d,ii,z,ht⟩:=c.get hT zg;have hd:=ht.k;rw [hT] at hd;obtain rfl:=sw hd;obtain ⟨l,iq⟩:=cA.2;obtain ⟨zv,hz,nw⟩:=EU he w I;rcases h.find K hk cA with ⟨h1,_,h2⟩|⟨j,e0,rO,h1,h2,h3,h4,h5,h6⟩
 ·have hv:vf=(c.ty e).kQ∧found=false:=by
   rcases hl with ⟨_,hm⟩|⟨hb,hv,_⟩
   ·exact absurd rfl (h2 _ hm)
   ·exact ⟨hv,hb⟩
  obtain ⟨rfl,rfl⟩:=hv;cases ok
  ·exact ⟨zv,by simp [Instr.lookup,run_underlying ht.u,xD h.hb,K.check w _ iq,h1,hz,Result.andThen],nw⟩
  ·refine ⟨.tuple #[zv,.bool false],by simp [Instr.lookup,run_underlying ht.u,xD h.hb,K.check w _ iq,h1,hz,Result.andThen],?_⟩;have:=aD.cons nw (aD.cons (Rd.bool (w:=w) (I:=I) false) aD.nil);exact .bS [zv,.bool false] _ this.1 this.2
 ·have hv:vf=rO∧found=true:=by
   rcases hl with ⟨hb,hm⟩|⟨_,_,hm⟩
   ·obtain ⟨i,hi⟩:=rS hm;have:=h6 i vf hi;subst this;rw [h4] at hi;simp at hi;exact ⟨hi.symm,hb⟩
   ·exact absurd rfl (hm _ (zZ h4))
  obtain ⟨rfl,rfl⟩:=hv;cases ok
  ·exact ⟨e0.val,by simp [Instr.lookup,run_underlying ht.u,xD h.hb,K.check w _ iq,h1,Result.andThen],h5⟩
  ·refine ⟨.tuple #[e0.val,.bool true],by simp [Instr.lookup,run_underlying ht.u,xD h.hb,K.check w _ iq,h1,Result.andThen],?_⟩;have:=aD.cons h5 (aD.cons (Rd.bool (w:=w) (I:=I) true) aD.nil);exact .bS [e0.val,.bool true] _ this.1 this.2
theorem FR.mp (h:FR c.N w0 J s a w β) {id:Nat} (ex:s.ev x=.omap id aa) (hl:s.live id aa) (hm:(s.ob id).ag≠.bu):∃ b clock ao,a.eval x=.map (some b)∧β id=some b∧Mp w (aG J w β s) b clock ao (s.ob id).es:=by
 obtain ⟨aw,b,hb,hv⟩:=h.fq ex hl.1 hl.2;obtain ⟨b',clock,ao,h1,h2,h3,h4,h5,h6,h7⟩:=((h.obj id hl.1).gw aw hm).ex;rw [hb] at h1;injection h1 with h1
 subst h1;exact ⟨b,clock,ao,hv,hb,h3,h4,h5,h6,h7⟩
theorem FR.Bv (h:FR c.N w0 J s a w β) {es:List (List FV)} (ex:s.ev x=.smap es):∃ b clock ao,a.eval x=.map (some b)∧Mp w (aG J w β s) b clock ao es:=by
 have hr:=h.bg ex rfl;generalize a.eval x=v at hr;cases hr with
 | smap b clock ao es hI hb bO hl hk hr => exact ⟨b, clock, ao, rfl, hb, bO, hl, hk, hr⟩
theorem DR (h:FR c.N w0 J s a w β) {k e:Nat} (hT:(c.ty T).k=.map k e) (he:(c.ty e).k.aX = some bb) (K:Keyed c.P k) (x y:Operand) (ok:Bool) {es:List (List FV)}
  (ex:(∃ id aa,s.ev x=.omap id aa∧(s.live id aa∧(s.ob id).ag≠.bu)∧(s.ob id).es=es)∨s.ev x=.smap es) {kf:FV} (ey:s.ev y=kf) (hk:∀ row∈es,∀ kf,row.head? = some kf→XP c.P k kf) (cA:XP c.P k kf)
  {vf:FV} (hl:kq es kf (c.ty e).kQ vf found) (hn:vf.hand=none) :
  xz c w0 J s a ⟨dst,.lookup T x y ok,ty,pos,after,g⟩ w (if ok then .bS [vf,.bool found] else vf) []:=by
 obtain ⟨b,clock,ao,hx,hm⟩:∃ b clock ao,a.eval x=.map (some b)∧Mp w (aG J w β s) b clock ao es:=by
  rcases ex with ⟨id,aa,e1,e2,rfl⟩|e1
  ·obtain ⟨b,clock,ao,h1,_,h2⟩:=h.mp e1 e2.1 e2.2;exact ⟨b,clock,ao,h1,h2⟩
  ·exact h.Bv e1
 have hy:a.eval y=kf.val:=(h.bg ey (by have:=cA.1;cases kf <;> first|rfl|(simp [FV.simple,FV.aH] at this))).ch cA.1;obtain ⟨v,h1,h2⟩:=u9 (w:=w) hT he K hm hk cA ok hl;refine .rd h (v:=v) (by simp [execOp,hx,hy,h1]) h2 ?_;cases ok
 ·exact hn
 ·rfl
theorem FR.mK (h:FR c.N w0 J s a w β) (d T:Nat):FR c.N w0 J (s.set d ⟨(s.ob d).aa+1,.bl,T,0,[]⟩) a (w.alloc (.map #[] 0)) (Vp β d (some w.heap.size)):=by
 have hb:=Cb w (.map #[] 0);have hI:∀ b,aG J w β s b→aG J (w.alloc (.map #[] 0)) (Vp β d (some w.heap.size)) (s.set d ⟨(s.ob d).aa+1,.bl,T,0,[]⟩) b∧(w.alloc (.map #[] 0)).heap[b]? = w.heap[b]?:=fun b aJ=>by
  refine ⟨⟨Zw aJ.1 hb.size,aJ.2.1,fun id hl=>?_⟩,hb.block b aJ.1⟩;rw [ae.aq] at hl;unfold Vp;split at hl
  ·rename_i hh;rw [if_pos hh.symm];intro e;injection e with e;have:=aJ.1;omega
  ·rename_i hh;rw [if_neg (fun e=>hh e.symm)];exact aJ.2.2 id hl
 refine h.step (C:=fun id=>id=d) h.size h.defers (h.bL.trans (hb.mono h.bL.size)) hI (fun k=>.inl ⟨rfl,rfl⟩) (fun id hC=>?_) (fun id hC=>?_) (fun id hC hl dS=>?_) (fun id hC hl _=>?_) ?_ ?_
 ·refine ⟨by rw [ae.aq,if_neg (fun e=>hC e.symm)],by unfold Vp;rw [if_neg hC],fun hl b aJ=>hb.block b ((h.obj id hl).lt aJ).2⟩
 ·subst hC;rw [ae.aq,if_pos rfl];exact Nat.le_succ _
 ·subst hC;rw [ae.aq,if_pos rfl] at dS;simp at dS
 ·subst hC;rw [ae.aq,if_pos rfl,Zg];exact .ofMap ⟨w.heap.size,0,#[],rfl,h.bL.size,heap_alloc_new w _,stamped_empty _,rfl,by simp,by simp⟩ rfl (fun e=>by cases e)
 ·intro id aM b hl ba e e';rw [ae.aq] at hl ba;unfold Vp at e e';by_cases h1:id=d
  ·by_cases h2:aM=d
   ·rw [h1,h2]
   ·rw [if_pos h1] at e;rw [if_neg h2] at e';rw [if_neg (fun e=>h2 e.symm)] at ba;injection e with e;have:=((h.obj aM ba).lt e').2;omega
  ·by_cases h2:aM=d
   ·rw [if_neg h1] at e;rw [if_pos h2] at e';rw [if_neg (fun e=>h1 e.symm)] at hl;injection e' with e';have:=((h.obj id hl).lt e).2;omega
   ·rw [if_neg h1] at e;rw [if_neg h2] at e';rw [if_neg (fun e=>h1 e.symm)] at hl;rw [if_neg (fun e=>h2 e.symm)] at ba;exact h.inj id aM b hl ba e e'
 ·intro b az hn;refine ⟨hb.block b az,fun id hl e=>?_⟩;rw [ae.aq] at hl;unfold Vp at e;by_cases h1:id=d
  ·rw [if_pos h1] at e;injection e with e;omega
  ·rw [if_neg h1] at e;rw [if_neg (fun e=>h1 e.symm)] at hl;exact hn id hl e
theorem Vt (h:FR c.N w0 J s a w β) (d T:Nat):xz c w0 J s a ⟨some d,.makeMap T none,ty,pos,after,g⟩ w (.omap d ((s.ob d).aa+1)) [(d,⟨(s.ob d).aa+1,.bl,T,0,[]⟩)]:=by
 have bw:(s.wr [(d,(⟨(s.ob d).aa+1,.bl,T,0,[]⟩:zL))]).ob d=⟨(s.ob d).aa+1,.bl,T,0,[]⟩:=(ae.aq s d _ d).trans (if_pos rfl);refine ⟨.map (some w.heap.size),w.alloc (.map #[] 0),Vp β d (some w.heap.size),?_,h.mK d T,fun _ _=>⟨by rw [bw];rfl,w.heap.size,Zg _ _ _,rfl⟩,fun id aa e=>?_⟩
 ·have:=run_makeMap (P:=c.P) T w;simp [execOp,this]
 ·simp only [FV.hands,yf,xb] at e;obtain ⟨e1,e2⟩:=e;replace e1:=e1.symm;replace e2:=e2.symm;subst e1;subst e2;rw [bw];exact zi _
theorem FR.bq (h:FR c.N w0 J s a w β) {id b dG : Nat} {dv : Array MapEntry} {aZ : List (List FV)} (hl:(s.ob id).ag=.bl) (hb:β id=some b) (l5:w.heap[b]? = some (.map ao clock)) (st:Stamped dv dG) (sz:dv.size=aZ.length)
  (ks:∀ (j:Nat) e row,dv[j]? = some e→aZ[j]? = some row→∃ kf vf,row=[kf,vf]∧kf.simple=true∧e.key=kf.val)
  (vs:∀ (j:Nat) e row f,dv[j]? = some e→aZ[j]? = some row→row[1]? = some f→Rd w (aG J w β s) e.val f) :
  FR c.N w0 J (s.set id { s.ob id with es:=aZ }) a (setBlock w b (.map dv dG)) β:=by
 have ah:(s.ob id).ag≠.dead:=by rw [hl];decide
 have az:=(h.obj id ah).lt hb;have hg:w.grownBy (setBlock w b (.map dv dG)) (some b):=⟨rfl,rfl,rfl,by simp [setBlock],fun i _ hi=>heap_setBlock_other l5 _ (fun e=>hi (by rw [e]))⟩
 have hI:∀ b',aG J w β s b'→aG J (setBlock w b (.map dv dG)) β (s.set id { s.ob id with es:=aZ }) b'∧(setBlock w b (.map dv dG)).heap[b']? = w.heap[b']?:=fun b' aJ=>by
  refine ⟨⟨Zw aJ.1 hg.size,aJ.2.1,fun aM ba=>?_⟩,hg.block b' aJ.1 (fun e=>aJ.2.2 id (by rw [hl];rfl) (by rw [hb];exact e.symm))⟩;rw [ae.aq] at ba;split at ba
  ·rename_i e;subst e;exact aJ.2.2 id (by rw [hl];rfl)
  ·exact aJ.2.2 aM ba
 refine h.step (C:=fun k=>k=id) h.size h.defers (h.bL.grown hg h.bL.size (fun k hk=>by injection hk with hk;subst hk;exact az.1)) hI (fun k=>.inl ⟨rfl,rfl⟩) (fun k hC=>?_) (fun k hC=>?_) (fun k hC br dS=>?_) (fun k hC br _=>?_) ?_ (fun b' jR hn=>⟨hg.block b' jR (fun e=>hn id ah (by rw [hb];exact e.symm)),fun k br=>hn k (by rw [ae.aq] at br;split at br;(· rename_i e;subst e;exact ah);(· exact br))⟩)
 ·refine ⟨by rw [ae.aq,if_neg (fun e=>hC e.symm)],rfl,fun br b' aJ=>hg.block b' ((h.obj k br).lt aJ).2 (fun e=>hC (h.inj k id b' br ah aJ (by rw [hb];exact e.symm)))⟩
 ·subst hC;rw [ae.aq,if_pos rfl];exact zi _
 ·subst hC;refine ⟨ah,rfl,by rw [ae.aq,if_pos rfl],by rw [ae.aq,if_pos rfl],fun v o n hv=>?_⟩;have:=hv.row;rw [hl] at this;cases this
 ·subst hC;rw [ae.aq,if_pos rfl];exact .ofMap ⟨b,dG,dv,hb,az.1,heap_setBlock_same l5 _,st,sz,ks,fun j e row f h1 h2 h3=>(vs j e row f h1 h2 h3).mono hI⟩ (by show (s.ob k).ag.bm=false;rw [hl];rfl) (by show (s.ob k).ag≠.bu;rw [hl];decide)
 ·intro k k' b' br cO e e';refine h.inj k k' b' ?_ ?_ e e'
  ·rw [ae.aq] at br;split at br
   ·rename_i e;subst e;exact ah
   ·exact br
  ·rw [ae.aq] at cO;split at cO
   ·rename_i e;subst e;exact ah
   ·exact cO
theorem Uy (h:FR c.N w0 J s a w β) {k e:Nat} (hT:(c.ty T).k=.map k e) (K:Keyed c.P k) (x y z:Operand) {id:Nat} (ex:s.ev x=.omap id aa) (bk:(s.ob id).ag=.bl) (aC:(s.ob id).aa=aa)
  {kf vf:FV} (ey:s.ev y=kf) (ez:s.ev z=vf) (hk:∀ row∈(s.ob id).es,∀ kf,row.head? = some kf→XP c.P k kf) (cA:XP c.P k kf) (hn:vf.hand=none) {aZ : List (List FV)} (hs:pw (s.ob id).es kf vf aZ) :
  ∃ w',(execOp a.eval ⟨dst,.mapUpdate T x y z,ty,pos,after,g⟩).run c.P w=.ok .skip w'∧FR c.N w0 J (s.wr [(id,{ s.ob id with es:=aZ })]) a w' β:=by
 have ah:s.live id aa:=⟨by rw [bk];decide,aC⟩
 obtain ⟨d,ii,zz,ht⟩:=c.get hT zg;have hd:=ht.k;rw [hT] at hd;obtain rfl:=sw hd;obtain ⟨l,iq⟩:=cA.2;obtain ⟨b,clock,ao,hx,hb,hm⟩:=h.mp ex ah (by rw [bk];decide);have hy:a.eval y=kf.val:=(h.bg ey (by have:=cA.1;cases kf <;> first|rfl|(simp [FV.simple,FV.aH] at this))).ch cA.1;have nw:=h.bg ez hn;generalize ui:a.eval z=u at nw;generalize nc:(s.ob id).es=es at hm hk hs;rcases hm.find K hk cA with ⟨h1,h2,h3⟩|⟨j,e0,rO,h1,h2,h3,h4,h5,h6⟩
 ·have iL : aZ=es++[[kf,vf]]:=by
   rcases hs with ⟨j,v0,hj,_⟩|⟨_,he⟩
   ·exact absurd rfl (h3 _ (zZ hj))
   ·exact he
  subst iL;refine ⟨setBlock w b (.map (ao.push ⟨kf.val,u,clock⟩) (clock+1)),?_,?_⟩
  ·have:(Instr.mapUpdate T (.map (some b)) kf.val u).run c.P w=.ok () (setBlock w b (.map (ao.push ⟨kf.val,u,clock⟩) (clock+1))):=by
    simp [Instr.mapUpdate,run_underlying ht.u,xD hm.hb,K.check w false iq,h1,Wx _ hm.hb,Result.andThen,setBlock]
   simp [execOp,hx,hy,ui,this]
  ·have eB:∀ (j:Nat) e row,(ao.push ⟨kf.val,u,clock⟩)[j]? = some e→(es++[[kf,vf]])[j]? = some row→(ao[j]? = some e∧es[j]? = some row)∨(e=⟨kf.val,u,clock⟩∧row=[kf,vf]):=by
    intro j e row he hr;rcases Nat.lt_trichotomy j ao.size with hj|hj|hj
    ·left;rw [sC,if_neg zc] at he;rw [ZH (by rw [← hm.sz];exact hj)] at hr;exact ⟨he,hr⟩
    ·right;subst hj;rw [sC,if_pos rfl] at he;rw [hm.sz,Yf (zi _),Nat.sub_self] at hr;injection he with he
     injection hr with hr
     exact ⟨he.symm,hr.symm⟩
    ·rw [sC,if_neg zc] at he;rw [Array.getElem?_eq_none zc] at he;cases he
   refine h.bq bk hb hm.hb (stamped_push hm.st h2) (by simp [hm.sz]) (fun j e row he hr=>?_) (fun j e row f he hr hf=>?_)
   ·rcases eB j e row he hr with ⟨q1,q2⟩|⟨rfl,rfl⟩
    ·exact hm.ks j e row q1 q2
    ·exact ⟨kf,vf,rfl,cA.1,rfl⟩
   ·rcases eB j e row he hr with ⟨q1,q2⟩|⟨rfl,rfl⟩
    ·exact hm.vs j e row f q1 q2 hf
    ·simp at hf;subst hf;exact nw
 ·have iL : aZ=es.set j [kf,vf]:=by
   rcases hs with ⟨i,v0,hi,he⟩|⟨dO,_⟩
   ·rw [h6 i v0 hi] at he;exact he
   ·exact absurd rfl (dO _ (zZ h4))
  subst iL;have jO:∀ e',ao[j]? = some e'→({ e' with key:=kf.val,val:=u }:MapEntry).key=e'.key:=fun e' iL=>by rw [h2] at iL;cases iL;exact h3.symm
  refine ⟨setBlock w b (.map (ao.modify j (fun e'=>{ e' with key:=kf.val,val:=u })) clock),?_,?_⟩
  ·have:(Instr.mapUpdate T (.map (some b)) kf.val u).run c.P w=.ok () (setBlock w b (.map (ao.modify j (fun e'=>{ e' with key:=kf.val,val:=u })) clock)):=by
    simp [Instr.mapUpdate,run_underlying ht.u,xD hm.hb,K.check w false iq,h1,h2,h3,K.stays w iq,Wx _ hm.hb,Result.andThen,setBlock]
   simp [execOp,hx,hy,ui,this]
  ·have eB:∀ (i:Nat) e row,(ao.modify j (fun e'=>{ e' with key:=kf.val,val:=u }))[i]? = some e→(es.set j [kf,vf])[i]? = some row→(ao[i]? = some e∧es[i]? = some row)∨(e.key=kf.val∧e.val=u∧row=[kf,vf]):=by
    intro i e row he hr;rw [sB] at he;rw [VL] at hr;by_cases jg:j=i
    ·subst jg;right;rw [if_pos rfl,h2] at he;rw [if_pos rfl,if_pos (yq.1 h4).1] at hr;simp only [xU,yh] at he hr;subst he;exact ⟨rfl,rfl,hr.symm⟩
    ·left;rw [if_neg jg] at he hr;exact ⟨he,hr⟩
   refine h.bq bk hb hm.hb (stamped_modify hm.st _ _ (fun _ _=>rfl) (fun e' _ iL=>jO e' iL)) (by simp [hm.sz]) (fun i e row he hr=>?_) (fun i e row f he hr hf=>?_)
   ·rcases eB i e row he hr with ⟨q1,q2⟩|⟨q1,q2,rfl⟩
    ·exact hm.ks i e row q1 q2
    ·exact ⟨kf,vf,rfl,cA.1,q1⟩
   ·rcases eB i e row he hr with ⟨q1,q2⟩|⟨q1,q2,rfl⟩
    ·exact hm.vs i e row f q1 q2 hf
    ·simp at hf;subst hf;rw [q2];exact nw
end
end
section
open Go.RowKit
theorem uD {X:List α} {p:Nat} (x:α) (h:p<X.length):ai X p [x]=X.set p x:=by
 unfold ai;rw [vC,if_pos h];simp
theorem DV {w' : World} (h:w.grownBy w' none) (r:Option Nat):w.grownBy w' r:={ h with block:=fun k hk _=>h.block k hk zg }
theorem Wo (P:Program) (w:World) (t ty e:TypeId) (i:TypeInfo) (ht:P.underlying t=some (.slice e)) (hi:P.info? e=some i) (g off iV mR:Nat) (cur:Array Value) (hg:w.heap[g]? = some (.cells cur e (0,0)))
  (a:Addr) (m c:Nat) (news:List Value) (hl:news.length=m * i.size) (oE:∀ (j:Nat) u,news[j]? = some u→w.cell? (a.add j)=some u) (h1:∀ u∈news,u.oneCell'=true) (dA:iV+m≤mR) (fw:off+iV * i.size+news.length≤cur.size) :
  (Builtin.append_ #[t,t] ty #[.slice (some ⟨g,off,none⟩) iV mR,.slice (some a) m c]).run P w=.ok (.slice (some ⟨g,off,none⟩) (iV+m) mR) (w.setRow g (ai cur.toList (off+iV * i.size) news).toArray):=by
 have hf:=run_firstCells_some (P:=P) w i.size m a m c news hl oE;have bO:=run_storeCells_at P g (off+iV * i.size) e news 0 cur w hg (by simpa using fw) h1;simp only [Zv] at bO;simp [Builtin.append_,run_underlying ht,sizeOf,typeInfo,hi,Builtin.lenOf,dA,hf,Addr.add_lit,bO,ai]
section
variable {c:Ctx} {w0 w:World} {J:JJ} {s:ae} {a:Act} {β:Nat→Option Nat} {dst:Option Nat} {ty:TypeId} {pos:String} {after:Array Edge} {g:Option (Nat×Bool)}
theorem p8 (s:ae) (id d:Nat) (b1 b2:zL) (k:Nat):(s.wr [(id,b1),(d,b2)]).ob k=if d=k then b2 else if id=k then b1 else s.ob k:=by
 show (ae.set (ae.set s id b1) d b2).ob k=_;rw [ae.aq,ae.aq]
theorem Src.lz (h:FR c.N w0 J s a w β) {f2:FV} {sz:Nat} {aB:List (List FV)} (ey:s.ev y=f2) (h2:Src s f2 sz aB) (h1:aB.length=1) :
  (∀ e∈aB,e.length=sz)∧(∀ f∈aB.flatten,f.one=true)∧∃ ad cc us,a.eval y=.slice (some ad) 1 cc∧us.length=1 * sz∧aD w (aG J w β s) us aB.flatten∧(∀ (j:Nat) u,us[j]? = some u→w.cell? (ad.add j)=some u)∧∀ u∈us,u.oneCell'=true:=by
 obtain ⟨hw,ho,A,cc,us,hy,hc,hr,hA,aW⟩:=h.src ey h2;refine ⟨hw,ho,?_⟩;cases A with
 | none => have := (hA rfl).2; rw [this] at h1; simp at h1
 | some ad =>
  refine ⟨ad,cc,us,by rw [hy,h1],by rw [hr.1,xk hw,h1],hr,aW ad rfl,fun u hu=>?_⟩;obtain ⟨j,hj,rfl⟩:=yS hu;have fx:j<aB.flatten.length:=by rw [← hr.1];exact hj
  exact (hr.2 j _ aB.flatten[j] (by simp [hj]) zg).ep (ho _ (yR fx))
theorem BK (h:FR c.N w0 J s a w β) (d:Nat) {e:Nat} (hT:(c.ty T).k=.slice e) (he:(c.ty e).k≠.other) (bC:0<(c.ty e).size) (x y:Operand) {id o n:Nat} (ex:s.ev x=.own id aa o n) (bk:(s.ob id).ag=.roomy) (aC:(s.ob id).aa=aa)
  (hE:(s.ob id).E=e) (aK:(s.ob id).sz=(c.ty e).size) (fO:o+n=(s.ob id).es.length) {f2:FV} {aB:List (List FV)} (ey:s.ev y=f2) (h2:Src s f2 (c.ty e).size aB) (h1:aB.length=1) :
  xz c w0 J s a ⟨some d,.call { callee:=.builtin .append,args:=#[x,y],argTypes:=#[T,T] },ty,pos,after,g⟩ w (.own d ((s.ob d).aa+1) o (n+1)) [(id,{ s.ob id with ag:=.dead }),(d,⟨(s.ob d).aa+1,.own,e,(c.ty e).size,(s.ob id).es++aB⟩)]:=by
 obtain ⟨dd,ii,z,ht⟩:=c.get hT zg;have hd:=ht.k;rw [hT] at hd;obtain rfl:=yH hd;obtain ⟨d',i',z',cn⟩:=c.get rfl he;obtain ⟨j3,kG,ad,c2,cX,hy,br,iv,cM,jX⟩:=Src.lz h ey h2 h1;have ah:(s.ob id).ag≠.dead:=by rw [bk];decide
 have bo:(s.ob id).ag.row=true:=by rw [bk];rfl
 have hO:=h.obj id ah;have dA:=hO.fc bo;unfold Wc at dA;rw [bk] at dA;obtain ⟨b,cur,hb,a9,fw⟩:=dA;obtain ⟨v1,fS,r1,r2,r3⟩:=(hO.bA bo).row;have ji:=(hO.bA bo).wide;have nt:=(hO.bA bo).one;have az:=hO.lt hb;obtain ⟨A,cc,e1,e2,e3,e4,e5⟩:=(h.bE ex ah aC).ex;obtain ⟨o',rfl,k2,k3⟩:=e5 b hb;have kC:=k3 cur a9;rw [hE,aK] at r1;rw [hE] at a9;rw [aK] at k2 kC ji fw;generalize nc:(s.ob id).es=es at fO r1 r3 ji nt fw;generalize my:(c.ty e).size=sz at bC ji fw r1 j3 br kC k2;rcases r1.2 with ⟨rfl,_⟩|⟨g',cap,eT,rfl,_,eb,hn,pA,bj,nu⟩
 ·rw [← r2] at hb;simp [Value.ownBlock] at hb
 have jL:g'=b:=by rw [← r2] at hb;simpa [Value.ownBlock] using hb
 subst jL;rw [a9] at eb;injection eb with eb
 injection eb with eb _ _
 subst eb;have AM:o+cc=cap:=WA bC (by rw [← kC,bj]);have df:es.length+1≤cap:=Nat.le_of_mul_le_mul_right (by rw [← bj];exact fw) bC;have eG : o'=o * sz:=k2 (.inl zc);subst eG;have hlen:o * sz+n * sz=es.length * sz:=by rw [← fO,zQ]
 have qY:es.length * sz+sz≤cur.size:=by rw [zQ] at fw;omega
 have bx:=Wo c.P w T ty e i' ht.u cn.info g' (o * sz) n cc cur a9 ad 1 c2 cX (by rw [cn.size,my];exact br) cM jX zc (by rw [cn.size,my,hlen];omega);rw [cn.size,my,hlen] at bx;have bh:cur.toList.length=cur.size:=by simp
 have kJ:fS.length=es.length * sz:=r1.1;obtain ⟨W,hW⟩:∃ W,W=w.setRow g' (ai cur.toList (es.length * sz) cX).toArray:=⟨_,rfl⟩
 rw [← hW] at bx;have ie:W.heap[g']? = some (.cells (ai cur.toList (es.length * sz) cX).toArray e (0,0)):=by rw [hW];exact xc w g' _ cur _ a9
 have tE:(ai cur.toList (es.length * sz) cX).toArray.size=cur.size:=by
  rw [WJ,xx (by rw [bh];omega),bh]
 have oo:w.grownBy W (some g'):=by
  subst hW;exact ⟨rfl,rfl,rfl,by simp [World.setRow],fun k hk bQ=>xG w g' k _ (fun e=>bQ (by rw [e]))⟩
 have fy:(es++aB).length=es.length+1:=by rw [yL,h1]
 have ct : W.ownsRow w0.heap.size e sz (.slice (some ⟨g',0,none⟩) (es.length+1) cap) (es++aB).length (fS++cX):=by
  rw [fy];refine ⟨by rw [yL,kJ,br,zQ],.inr ⟨g',cap,_,rfl,az.1,ie,df,pA,by rw [tE,bj],?_⟩⟩;show (ai cur.toList (es.length * sz) cX).take ((es.length+1) * sz)=fS++cX;unfold ai;rw [← nu,ye,Xc,Zu,Yr (by rw [zQ];omega),yE,xE zc,show (es.length+1) * sz - es.length * sz=sz by rw [zQ];omega,
   Ww zc,ym (by omega:cX.length≤sz)]
 have gf:(execOp a.eval ⟨some d,.call { callee:=.builtin .append,args:=#[x,y],argTypes:=#[T,T] },ty,pos,after,g⟩).run c.P w=.ok (.value (.slice (some ⟨g',o * sz,none⟩) (n+1) cc)) W:=by
  simp [execOp,resolve,invoke,builtin,e1,hy,bx]
 have nW:=h.make (some id) d (E:=e) (sz:=sz) (es:=es++aB) (v:=.slice (some ⟨g',0,none⟩) (es.length+1) cap) (xs:=fS++cX) (fun k hk=>by injection hk with hk;subst hk;rw [bk];rfl) (by rw [Xe,hb];exact oo)
  (fun q hq=>by
   rcases yT.1 hq with h'|h'
   ·exact ji q h'
   ·exact j3 q h')
  (fun f hf=>by
   rw [Ye] at hf;rcases yT.1 hf with h'|h'
   ·exact nt f h'
   ·exact kG f h') ct (by rw [Ye];exact r3.append iv) (.inl (by rw [Xe,hb];rfl)) (s':=s.wr [(id,{ s.ob id with ag:=.dead }),(d,⟨(s.ob d).aa+1,.own,e,sz,es++aB⟩)]) (fun k=>by
    rw [p8];split
    ·rfl
    ·by_cases jM:id=k
     ·subst jM;simp
     ·rw [if_neg jM,if_neg (by simpa using jM)]) (fun k=>ae.cG _ _ _)
 have cZ:(s.wr [(id,{ s.ob id with ag:=.dead }),(d,(⟨(s.ob d).aa+1,.own,e,sz,es++aB⟩:zL))]).ob d=⟨(s.ob d).aa+1,.own,e,sz,es++aB⟩:=by rw [p8,if_pos rfl]
 refine ⟨_,W,_,gf,nW,fun _ _=>?_,fun aM bI e=>?_⟩
 ·rw [cZ,Zg];refine ⟨rfl,some ⟨g',o * sz,none⟩,cc,rfl,by omega,by show o+(n+1)≤(es++aB).length;omega,(fun hb=>by simp [Value.ownBlock] at hb),fun b' bB=>?_⟩;obtain rfl:g'=b':=by simpa [Value.ownBlock] using bB
  refine ⟨o * sz,rfl,fun _=>rfl,fun eT ea=>?_⟩;rw [ie] at ea;injection ea with ea
  injection ea with ea _ _
  rw [← ea,tE,kC]
 ·simp only [FV.hands,yf,xb] at e;obtain ⟨e1,e2⟩:=e;replace e1:=e1.symm;replace e2:=e2.symm;subst e1;subst e2;rw [cZ];exact zi _
theorem BJ (h:FR c.N w0 J s a w β) (d:Nat) {e:Nat} (hT:(c.ty T).k=.slice e) (he:(c.ty e).k≠.other) (bC:0<(c.ty e).size) (x y:Operand) {id o n:Nat} (ex:s.ev x=.own id aa o n) (bk:(s.ob id).ag=.full) (aC:(s.ob id).aa=aa)
  (hE:(s.ob id).E=e) (aK:(s.ob id).sz=(c.ty e).size) (fO:o+n=(s.ob id).es.length) {f2:FV} {aB:List (List FV)} (ey:s.ev y=f2) (h2:Src s f2 (c.ty e).size aB) (h1:aB.length=1)
  (hb:(n+1) * (c.ty e).bytes≤140737488355328) (hm:n+1≤140737488355328) :
  xz c w0 J s a ⟨some d,.call { callee:=.builtin .append,args:=#[x,y],argTypes:=#[T,T] },ty,pos,after,g⟩ w (.own d ((s.ob d).aa+1) 0 (n+1)) [(id,{ s.ob id with ag:=.dead }),(d,⟨(s.ob d).aa+1,.own,e,(c.ty e).size,(s.ob id).es.drop o++aB⟩)]:=by
 obtain ⟨dd,ii,z,ht⟩:=c.get hT zg;have hd:=ht.k;rw [hT] at hd;obtain rfl:=yH hd;obtain ⟨d',i',z',cn⟩:=c.get rfl he;have pI:z'.cells.size=(c.ty e).size:=by
  have:=(aD.zeros (w:=w) (I:=aG J w β s) cn.zr).1;rw [cn.zl] at this;simpa using this
 obtain ⟨j3,kG,ad,c2,cX,hy,br,iv,cM,jX⟩:=Src.lz h ey h2 h1;have ah:(s.ob id).ag≠.dead:=by rw [bk];decide
 have bo:(s.ob id).ag.row=true:=by rw [bk];rfl
 have hO:=h.obj id ah;have dA:=hO.fc bo;unfold Wc at dA;rw [bk] at dA;obtain ⟨v1,fS,r1,r2,r3⟩:=(hO.bA bo).row;have ji:=(hO.bA bo).wide;have nt:=(hO.bA bo).one;obtain ⟨A,cc,e1,e2,e3,e4,e5⟩:=(h.bE ex ah aC).ex;rw [hE,aK] at r1;rw [aK] at ji;have fy:((s.ob id).es.drop o++aB).length=n+1:=by rw [yL,Xz,h1];omega
 have iR:∀ q∈(s.ob id).es.drop o++aB,q.length=(c.ty e).size:=fun q hq=>by
  rcases yT.1 hq with h'|h'
  ·exact ji q (xq h')
  ·exact j3 q h'
 have bY:((s.ob id).es.drop o).flatten=(s.ob id).es.flatten.drop (o * (c.ty e).size):=Zj _ ji o;have c0:∀ f∈((s.ob id).es.drop o++aB).flatten,f.one=true:=fun f hf=>by
  rw [Ye] at hf;rcases yT.1 hf with h'|h'
  ·rw [bY] at h';exact nt f (xq h')
  ·exact kG f h'
 have iQ:aD w (aG J w β s) (fS.drop (o * (c.ty e).size)++cX) ((s.ob id).es.drop o++aB).flatten:=by
  rw [Ye,bY];exact (r3.drop _).append iv
 obtain ⟨v',w',bx,ct,oo,a9⟩:∃ v' w',(Builtin.append_ #[T,T] ty #[a.eval x,a.eval y]).run c.P w=.ok v' w'∧w'.ownsRow w0.heap.size e (c.ty e).size v' (n+1) (fS.drop (o * (c.ty e).size)++cX)∧w.grownBy w' none∧
   (v'.ownBlock=none∨∃ b,v'.ownBlock=some b∧w.heap.size≤b):=by
  rw [e1,hy];cases ig:β id with
  | none=>
   obtain ⟨rfl,rfl⟩:=e4 ig;obtain rfl:n=0:=by omega
   rcases r1.2 with ⟨rfl,Bf⟩|⟨g',cap,eT,rfl,_⟩
   ·have A6:fS=[]:=Yc (by rw [r1.1,Bf,ZS]);subst A6;obtain ⟨v',w',q1,q2,q3,_,q5⟩:=run_append_own_at (P:=c.P) w w0.heap.size T ty e i' z' (c.ty e).size (c.ty e).bytes ht.u cn.info cn.zo cn.size cn.bytes pI bC (.slice none 0 0) 0 [] (WH _ _ _ _) ad 1 c2 cX br cM jX zb (by simpa using hb) h.bL.size;refine ⟨v',w',q1,by simpa using q2,q3,?_⟩;rcases q5 with e|e
    ·exact .inl e
    ·exact .inr ⟨_,e,zi _⟩
   ·rw [ig] at r2;simp [Value.ownBlock] at r2
  | some b=>
   obtain ⟨o',rfl,k2,k3⟩:=e5 b ig;rcases r1.2 with ⟨rfl,_⟩|⟨g',cap,cur,rfl,_,eb,hn,pA,bj,nu⟩
   ·rw [ig] at r2;simp [Value.ownBlock] at r2
   have jL:g'=b:=by rw [ig] at r2;simpa [Value.ownBlock] using r2
   subst jL;have gb:=dA g' cur ig (by rw [hE];exact eb);have iK:=k3 cur (by rw [hE];exact eb);rw [aK] at gb iK k2;have AM:o+cc=(s.ob id).es.length:=WA bC (by rw [← iK,gb]);obtain rfl:cc=n:=by omega
   have bh:fS.length=(s.ob id).es.length * (c.ty e).size:=r1.1;obtain ⟨v',w',q1,q2,q3⟩:=run_append_arg_grows (P:=c.P) w T ty e i' z' (c.ty e).size (c.ty e).bytes ht.u cn.info cn.zo cn.size cn.bytes pI bC ⟨g',o',none⟩ cc cc (fS.drop (o * (c.ty e).size)) (by rw [Xz,bh,← fO,zQ];omega)
    (fun j u hu=>by
     rw [xY] at hu;have hj:=(yq.1 hu).1;have qL:cc≠0:=by rintro rfl;rw [bh,← fO,Zv] at hj;omega
     have:=k2 (.inl qL);subst this;have aW:=r1.cells (g:=g') rfl _ u hu;rw [xn] at aW ⊢;rwa [yr] at aW) ad 1 c2 cX br cM zc (by unfold maxLen;omega) hb
   refine ⟨v',w',q1,vR q2 h.bL.size,q3,?_⟩;cases mB:v'.ownBlock with
   | none => exact .inl rfl
   | some b2 => exact .inr ⟨b2, rfl, (q2.lt b2 mB).1⟩
 have gf:(execOp a.eval ⟨some d,.call { callee:=.builtin .append,args:=#[x,y],argTypes:=#[T,T] },ty,pos,after,g⟩).run c.P w=.ok (.value v') w':=by
  simp [execOp,resolve,invoke,builtin,bx]
 rw [← fy] at ct;have nW:=h.make (some id) d (E:=e) (sz:=(c.ty e).size) (es:=(s.ob id).es.drop o++aB) (v:=v') (xs:=fS.drop (o * (c.ty e).size)++cX) (fun k hk=>by injection hk with hk;subst hk;rw [bk];rfl) (DV oo _) iR c0 ct iQ (.inr a9)
  (s' :=s.wr [(id,{ s.ob id with ag:=.dead }),(d,⟨(s.ob d).aa+1,.own,e,(c.ty e).size,(s.ob id).es.drop o++aB⟩)]) (fun k=>by
      rw [p8];split
      ·rfl
      ·by_cases jM:id=k
       ·subst jM;simp
       ·rw [if_neg jM,if_neg (by simpa using jM)]) (fun k=>ae.cG _ _ _)
 have cZ:(s.wr [(id,{ s.ob id with ag:=.dead }),(d,(⟨(s.ob d).aa+1,.own,e,(c.ty e).size,(s.ob id).es.drop o++aB⟩:zL))]).ob d=⟨(s.ob d).aa+1,.own,e,(c.ty e).size,(s.ob id).es.drop o++aB⟩:=by rw [p8,if_pos rfl]
 refine ⟨v',w',_,gf,nW,fun _ _=>?_,fun aM bI e=>?_⟩
 ·rw [cZ,Zg];rw [← fy];exact Vc.fH ct rfl rfl rfl rfl
 ·simp only [FV.hands,yf,xb] at e;obtain ⟨e1,e2⟩:=e;replace e1:=e1.symm;replace e2:=e2.symm;subst e1;subst e2;rw [cZ];exact zi _
theorem FR.fj (h:FR c.N w0 J s a w β) {id:Nat} (bk:(s.ob id).ag=.aw) {b:Nat} (hb:β id=some b) :
  ∃ cur cap,w.heap[b]? = some (.cells cur (s.ob id).E (0,0))∧(s.ob id).es.length≤cap∧cap≤maxLen∧cur.size=cap * (s.ob id).sz∧(cur.toList.take ((s.ob id).es.length * (s.ob id).sz)).length=(s.ob id).es.flatten.length∧
   ∀ (j:Nat) u f,(cur.toList.take ((s.ob id).es.length * (s.ob id).sz))[j]? = some u→(s.ob id).es.flatten[j]? = some f→VR w (aG J w β s) β s u f:=by
 have ah:(s.ob id).ag≠.dead:=by rw [bk];decide
 obtain ⟨v,us,r1,r2,r3,r4⟩:=((h.obj id ah).dU (by rw [bk];rfl) (by rw [bk];rfl)).row;rcases r1.2 with ⟨rfl,_⟩|⟨g',cap,cur,rfl,_,eb,hn,hm,bj,nu⟩
 ·rw [← r2] at hb;simp [Value.ownBlock] at hb
 ·have jL:g'=b:=by rw [← r2] at hb;simpa [Value.ownBlock] using hb
  subst jL;subst nu;exact ⟨cur,cap,eb,hn,hm,bj,r3,r4⟩
theorem uS {α:Type}:∀ (es:List (List α)),(∀ e∈es,e.length=1)→∀ (j:Nat) f,es[j]? = some [f]→es.flatten[j]? = some f
 | [], _, j, f, h => by simp at h
 | e :: es, he, 0, f, h => by simp at h; subst h; simp
 | e :: es, he, j+1, f, h => by
  have h1:=he e zg;obtain ⟨x,rfl⟩:=XA.1 h1;simp at h;simpa using uS es (fun q hq=>he q (by simp [hq])) j f h
theorem uT {α:Type}:∀ (es:List (List α)),(∀ e∈es,e.length=1)→∀ (j:Nat) f,(es.set j [f]).flatten=es.flatten.set j f
 | [], _, j, f => by simp
 | e :: es, he, 0, f => by
  obtain ⟨x,rfl⟩:=XA.1 (he e zg);simp
 | e :: es, he, j+1, f => by
  obtain ⟨x,rfl⟩:=XA.1 (he e zg);simpa using uT es (fun q hq=>he q (by simp [hq])) j f
theorem Dy (h:FR c.N w0 J s a w β) (hk:(c.ty T).k.aX = some false) (hz:(c.ty T).size=1) (x:Operand) {id:Nat} (ex:s.ev x=.ptr id aa j 0) (bk:(s.ob id).ag=.aw) (aC:(s.ob id).aa=aa) (aK:(s.ob id).sz=1) {f:FV} (hj:(s.ob id).es[j]? = some [f]) :
  xz c w0 J s a ⟨dst,.load T x,ty,pos,after,g⟩ w f []:=by
 have ah:(s.ob id).ag≠.dead:=by rw [bk];decide
 obtain ⟨_,b,hb,hv⟩:=h.bV ex ah aC;obtain ⟨cur,cap,a9,hn,hm,bj,hl,hr⟩:=h.fj bk hb;have hH:=(h.obj id ah).dU (by rw [bk];rfl) (by rw [bk];rfl);have hw:=hH.wide;rw [aK] at hv bj hl hr hw;have im:=(yq.1 hj).1;have mh:=uS _ hw j f hj;have ni:j<cur.size:=by omega
 have hu:(cur.toList.take ((s.ob id).es.length * 1))[j]? = some cur[j]:=by
  rw [xg,if_pos zc];simp [ni]
 have aW:w.cell? ⟨b,j,none⟩=some cur[j]:=by
  have:=cell_of_row w b j cur (s.ob id).E (0,0) a9;rw [this];simp [ni]
 refine .pure h (v:=cur[j]) ?_ (hr j _ f hu mh) (fun aM bI e=>hH.bP f (zZ mh) aM bI e);have:(loadVar T ⟨b,j,none⟩).run c.P w=.ok cur[j] w:=by simp [loadVar,Xt hk,load,Sem.run,aW]
 simp [execOp,Instr.loadAt,hv,Instr.sureAddr,this]
def mT (s:ae) (f:FV):Prop:=f.one=true∨(∃ id aa o n,f=.own id aa o n∧s.live id aa)∨(∃ id aa j o,f=.ptr id aa j o∧s.live id aa)∨(∃ k fs,f=.wrap (.fn k) fs)∨∃ id aa,f=.omap id aa∧s.live id aa
theorem mT.val (h:FR c.N w0 J s a w β) {f:FV} (ey:s.ev y=f) (hf:mT s f):(a.eval y).cells=#[a.eval y]∧(a.eval y).oneCell'=true:=by
 rcases hf with h1|⟨id,aa,o,n,rfl,hl⟩|⟨id,aa,j,o,rfl,hl⟩|⟨k,fs,rfl⟩|⟨id,aa,rfl,hl⟩
 ·have hn:f.hand=none:=by cases f <;> first|rfl|(simp [FV.one] at h1)
  have hr:=h.bg ey hn;generalize a.eval y=v at hr;cases hr <;> first|exact ⟨rfl,rfl⟩|(simp [FV.one] at h1)
 ·obtain ⟨A,cc,e,_⟩:=(h.bE ey hl.1 hl.2).ex;rw [e];exact ⟨rfl,rfl⟩
 ·obtain ⟨_,b,_,e⟩:=h.bV ey hl.1 hl.2;rw [e];exact ⟨rfl,rfl⟩
 ·have hv:=h.ev y;rw [ey] at hv;obtain ⟨us,e,_⟩:=hv;rw [e];exact ⟨rfl,rfl⟩
 ·obtain ⟨_,b,_,e⟩:=h.fq ey hl.1 hl.2;rw [e];exact ⟨rfl,rfl⟩
theorem Cs (h:FR c.N w0 J s a w β) (hk:(c.ty T).k≠.other) (hz:(c.ty T).size=1) (x y:Operand) {id:Nat} (ex:s.ev x=.ptr id aa j 0) (bk:(s.ob id).ag=.aw) (aC:(s.ob id).aa=aa) (aK:(s.ob id).sz=1) {f:FV} (ey:s.ev y=f)
  (hf:mT s f) (hj:j<(s.ob id).es.length) :
  ∃ w',(execOp a.eval ⟨dst,.store T x y,ty,pos,after,g⟩).run c.P w=.ok .skip w'∧FR c.N w0 J (s.wr [(id,{ s.ob id with es:=(s.ob id).es.set j [f] })]) a w' β:=by
 have ah:(s.ob id).ag≠.dead:=by rw [bk];decide
 obtain ⟨_,b,hb,lv⟩:=h.bV ex ah aC;obtain ⟨cur,cap,a9,hn,hm,bj,hl,hr⟩:=h.fj bk hb;have hH:=(h.obj id ah).dU (by rw [bk];rfl) (by rw [bk];rfl);have hw:=hH.wide;obtain ⟨gb,iK⟩:=mT.val h ey hf;have fQ:=h.ev y;have dS:∀ aM bI,(aM,bI)∈f.hands→bI≤(s.ob aM).aa:=fun aM bI e=>h.cr y (by rw [ey];exact e);rw [ey] at fQ;generalize hy:a.eval y=v at gb iK fQ;rw [aK] at lv bj hl hr hw;have bO:=run_storeCells_at c.P b j (s.ob id).E [v] 0 cur w a9 zF (by simpa using iK);simp only [Zv] at bO;have ni:j<cur.toList.length:=by simp;omega
 obtain ⟨W,hW⟩:∃ W,W=w.setRow b (ai cur.toList j [v]).toArray:=⟨_,rfl⟩
 have ie:W.heap[b]? = some (.cells (cur.toList.set j v).toArray (s.ob id).E (0,0)):=by rw [hW,uD v ni];exact xc w b _ cur _ a9
 have hg:w.grownBy W (some b):=by
  subst hW;exact ⟨rfl,rfl,rfl,by simp [World.setRow],fun k hk bQ=>xG w b k _ (fun e=>bQ (by rw [e]))⟩
 have az:=(h.obj id ah).lt hb;refine ⟨W,?_,?_⟩
 ·have hs:=xe (c:=c) hk w;have j0 : (storeCells ⟨b,j,none⟩ [v]).run c.P w=.ok () W:=by rw [hW];exact bO
  simp [execOp,Instr.storeAt,storeVar,lv,hy,Instr.sureAddr,hs,hz,gb,j0]
 ·have bw:∀ k,(s.wr [(id,{ s.ob id with es:=(s.ob id).es.set j [f] })]).ob k=if id=k then { s.ob id with es:=(s.ob id).es.set j [f] } else s.ob k:=fun k=>ae.aq s id _ k
  have hI:∀ b',aG J w β s b'→aG J W β (s.wr [(id,{ s.ob id with es:=(s.ob id).es.set j [f] })]) b'∧W.heap[b']? = w.heap[b']?:=fun b' aJ=>by
   refine ⟨⟨Zw aJ.1 hg.size,aJ.2.1,fun aM ba=>?_⟩,hg.block b' aJ.1 (fun e=>aJ.2.2 id (by rw [bk];rfl) (by rw [hb];exact e.symm))⟩;rw [bw] at ba;split at ba
   ·rename_i e;subst e;exact aJ.2.2 id (by rw [bk];rfl)
   ·exact aJ.2.2 aM ba
  refine h.step (C:=fun k=>k=id) h.size h.defers (h.bL.grown hg h.bL.size (fun k hk=>by injection hk with hk;subst hk;exact az.1)) hI (fun k=>.inl ⟨rfl,rfl⟩) (fun k hC=>?_) (fun k hC=>?_) (fun k hC br rC=>?_) (fun k hC br T'=>?_) ?_ (fun b' jR hn=>⟨hg.block b' jR (fun e=>hn id ah (by rw [hb];exact e.symm)),fun k br=>hn k (by rw [bw] at br;split at br;(· rename_i e;subst e;exact ah);(· exact br))⟩)
  ·refine ⟨by rw [bw,if_neg (fun e=>hC e.symm)],rfl,fun br b' aJ=>hg.block b' ((h.obj k br).lt aJ).2 (fun e=>hC (h.inj k id b' br ah aJ (by rw [hb];exact e.symm)))⟩
  ·subst hC;rw [bw,if_pos rfl];exact zi _
  ·subst hC;refine ⟨ah,rfl,by rw [bw,if_pos rfl],by rw [bw,if_pos rfl],fun v2 o n j2=>?_⟩;rw [bw,if_pos rfl];obtain ⟨A,cc,q1,q2,q3,q4,q5⟩:=j2.ex;refine ⟨j2.row,A,cc,q1,q2,by simpa using q3,q4,fun b2 aJ=>?_⟩;obtain ⟨o',k1,k2,k3⟩:=q5 b2 aJ;refine ⟨o',k1,k2,fun eT ea=>?_⟩;rw [hb] at aJ;injection aJ with aJ
   subst aJ;dsimp only at ea;rw [ie] at ea;injection ea with ea
   injection ea with ea _ _
   rw [← ea];have:=k3 cur a9;simpa using this
  ·subst hC;rw [bw,if_pos rfl];have eJ:∀ aM,(s.ob aM).aa≤((s.wr [(k,{ s.ob k with es:=(s.ob k).es.set j [f] })]).ob aM).aa:=fun aM=>by
    rw [bw];split
    ·rename_i e;subst e;exact zi _
    ·exact zi _
   have bY:=uT _ hw j f;have ma:(s.ob k).es.flatten.length=(s.ob k).es.length:=by have:=xk hw;omega
   refine .mM ⟨fun e he=>?_,fun f' bH aM bI e=>?_,.slice (some ⟨b,0,none⟩) (s.ob k).es.length cap,(cur.toList.take ((s.ob k).es.length * 1)).set j v,?_,by rw [hb];rfl,?_,fun i u f' hu bH=>?_⟩ bk
   ·rw [aK];rcases XD he with h'|h'
    ·exact hw e h'
    ·subst h';rfl
   ·dsimp only at bH;rw [bY] at bH;refine zR ?_ (eJ aM);rcases XD bH with h'|h'
    ·exact hH.bP f' h' aM bI e
    ·subst h';exact dS aM bI e
   ·rw [aK];simp only [xh];refine ⟨by rw [xh,hl,ma,xR],.inr ⟨b,cap,_,rfl,az.1,ie,hn,hm,by simpa using bj,?_⟩⟩;simp only [List.take_set]
   ·dsimp only;rw [xh,hl,bY,xh]
   ·dsimp only at bH;rw [bY] at bH;rw [VL] at hu bH;by_cases jg:j=i
    ·subst jg;rw [if_pos rfl] at hu bH;split at hu
     ·split at bH
      ·injection hu with hu
       injection bH with bH
       subst hu;subst bH;exact T' _ _ fQ dS
      ·cases bH
     ·cases hu
    ·rw [if_neg jg] at hu bH;exact T' _ _ (hr i u f' hu bH) (hH.bP f' (zZ bH))
  ·intro k k' b' br cO e e';refine h.inj k k' b' ?_ ?_ e e'
   ·rw [bw] at br;split at br
    ·rename_i e;subst e;exact ah
    ·exact br
   ·rw [bw] at cO;split at cO
    ·rename_i e;subst e;exact ah
    ·exact cO
end
end
section
open Go.RowKit Go.Maps
section
variable {c:Ctx} {w0 w:World} {J:JJ} {s:ae} {a:Act} {β:Nat→Option Nat} {dst:Option Nat} {ty:TypeId} {pos:String} {after:Array Edge} {g:Option (Nat×Bool)}
theorem FR.qx {s' : ae} (h:FR N w0 J s a w β) (hg:∀ k,s'.get k=s.get k) (ho:∀ k,s'.ob k=s.ob k):FR N w0 J s' a w β:=by
 refine h.step (C:=fun _=>False) h.size h.defers h.bL (fun b hb=>⟨⟨hb.1,hb.2.1,fun id hl=>hb.2.2 id (by rw [← ho];exact hl)⟩,rfl⟩) (fun k=>.inl ⟨rfl,hg k⟩) (fun id _=>⟨ho id,rfl,fun _ _ _=>rfl⟩) (fun _ h=>h.elim) (fun _ h=>h.elim) (fun _ h=>h.elim) ?_ (fun b _ hn=>⟨rfl,fun id hl=>hn id (by rw [← ho];exact hl)⟩);intro id aM b hl ba;rw [ho] at hl ba;exact h.inj id aM b hl ba
theorem Dc (L:List α) (o:Nat):ai L o []=L:=by
 unfold ai;simp
theorem Wj {α:Type}:∀ {es:List (List α)},(∀ e∈es,e.length=1)→es.flatten.length=es.length
 | [], _ => rfl
 | e :: es, h => by
  rw [yz,yL,Wj (fun q hq=>h q (by simp [hq])),h e zg];simp;omega
theorem BH {es ds:List (List α)} (he:∀ e∈es,e.length=1) (hd:∀ e∈ds,e.length=1) (o:Nat):(ai es o ds).flatten=ai es.flatten o ds.flatten:=by
 unfold ai;rw [Ye,Ye,ZV es he,Zj es he,Wj hd,xR,xR]
theorem DO (h:FR c.N w0 J s a w β) {T2 e:Nat} (hT:(c.ty T).k=.slice e) (he:(c.ty e).k≠.other) (hz:(c.ty e).size=1) (x y:Operand) {id o m:Nat} (ex:s.ev x=.own id aa o m) (hl:(s.ob id).ag=.own) (hv:(s.ob id).aa=aa) (aK:(s.ob id).sz=1)
  {f2:FV} {aB:List (List FV)} (ey:s.ev y=f2) (h2:Src s f2 1 aB) :
  xz c w0 J s a ⟨dst,.call { callee:=.builtin .copy,args:=#[x,y],argTypes:=#[T,T2] },ty,pos,after,g⟩ w (.int .i64 ((aB.take m).length:Nat)) [(id,{ s.ob id with es:=ai (s.ob id).es o (aB.take m) })]:=by
 have ah:(s.ob id).ag≠.dead:=by rw [hl];decide
 have bo:(s.ob id).ag.row=true:=by rw [hl];rfl
 obtain ⟨dd,ii,z,ht⟩:=c.get hT zg;have hd:=ht.k;rw [hT] at hd;obtain rfl:=yH hd;obtain ⟨d',i',z',cn⟩:=c.get rfl he;have ue:(c.P.info? e).map (·.size)=some 1:=by rw [cn.info,← hz,← cn.size];rfl
 obtain ⟨j3,kG,A2,c2,cX,hy,iK,iv,lT,cM⟩:=h.src ey h2;obtain ⟨A,cc,e1,e2,e3,e4,e5⟩:=(h.bE ex ah hv).ex;have jQ:cX.length=aB.length:=by rw [iv.1,Wj j3]
 have jS:(aB.take m).length=Nat.min aB.length m:=by rw [yE,Nat.min_comm]
 by_cases h0:aB.take m=[]
 ·have hn:Nat.min aB.length m=0:=by rw [← jS,h0];rfl
  have bx:=run_copy_none (P:=c.P) w T T2 ty e A A2 m cc aB.length c2 ht.u ue hn;refine ⟨goInt 0,w,β,?_,?_,?_,fun _ _ hm=>(FV.aT rfl hm).elim⟩
  ·simp [execOp,resolve,invoke,builtin,e1,hy,bx]
  ·refine h.qx (fun k=>ae.cG _ _ _) (fun k=>?_);rw [h0,Dc];show (ae.set s id _).ob k=_;rw [ae.aq];split
   ·rename_i e;subst e;rfl
   ·rfl
  ·rw [h0];exact Rd.int _ _
 ·have nn:0<(aB.take m).length:=by
   rcases WD (aB.take m).length with h'|h'
   ·exact absurd (Yc h') h0
   ·exact h'
  have GD:0<m:=by rw [yE] at nn;omega
  obtain ⟨b,hb⟩:∃ b,β id=some b:=by
   cases aJ:β id with
   | none => obtain ⟨q1, q2⟩ := e4 aJ; omega
   | some b => exact ⟨b, rfl⟩
  obtain ⟨o',rfl,k2,k3⟩:=e5 b hb;have:=k2 (.inl zc);subst this;obtain ⟨ad,rfl⟩:∃ ad,A2=some ad:=by
   cases hA:A2 with
   | none => obtain ⟨_, q⟩ := lT hA; subst q; simp at nn
   | some ad => exact ⟨ad, rfl⟩
  obtain ⟨cur,cap,a9,hn,hm,bj,hr,aw⟩:=h.block ah bo hb;have hw:=((h.obj id ah).bA bo).wide;have bf:=((h.obj id ah).bA bo).one;rw [aK] at hw bj hr aw e1;simp only [xR] at bj hr aw e1;generalize nc:(s.ob id).es=es at hn hr aw hw bf e3;have nb:∀ q∈aB.take m,q.length=1:=fun q hq=>j3 q (xj hq);have l8:(cX.take m).length=(aB.take m).length:=by rw [yE,yE,jQ]
  have bY:(aB.take m).flatten=aB.flatten.take m:=by rw [ZV aB j3,xR]
  have ru:aD w (aG J w β s) (cX.take m) (aB.take m).flatten:=by rw [bY];exact iv.take m
  have cw:∀ f∈(aB.take m).flatten,f∈aB.flatten:=fun f hf=>by rw [bY] at hf;exact xj hf
  have qz:∀ u∈cX.take m,u.oneCell'=true:=fun u hu=>by
   obtain ⟨j,hj,rfl⟩:=yS hu;have fx:j<(aB.take m).flatten.length:=by rw [← ru.1];exact hj
   exact (ru.2 j _ (aB.take m).flatten[j] (by simp only [xZ hj]) (by simp only [xZ fx])).ep (kG _ (cw _ (yR fx)))
  have hle:(aB.take m).length≤m:=by rw [yE];omega
  have fw:o+(cX.take m).length≤cur.size:=by rw [l8,bj];omega
  have bx:=run_copy_row (P:=c.P) w T T2 ty e b o m cc ad aB.length c2 cur (s.ob id).E (cX.take m) ht.u ue a9 (by rw [l8,jS]) (fun j u hu=>cM ad rfl j u (by rw [xg] at hu;split at hu;exact hu;cases hu)) fw qz;obtain ⟨W,hW⟩:∃ W,W=w.setRow b (ai cur.toList o (cX.take m)).toArray:=⟨_,rfl⟩
  have ie:W.heap[b]? = some (.cells (ai cur.toList o (cX.take m)).toArray (s.ob id).E (0,0)):=by rw [hW];exact xc w b _ cur _ a9
  have gR:w.grownBy W (β id):=by
   subst hW;refine ⟨rfl,rfl,rfl,by simp [World.setRow],fun k hk bQ=>xG w b k _ (fun e=>bQ (by rw [e,hb]))⟩
  have bh:cur.toList.length=cap:=by simpa using bj
  have mz:(cur.toList.take es.length).length=es.length:=by rw [yE,bh];omega
  have lp:(ai es o (aB.take m)).length=es.length:=xx zc;have ct : W.ownsRow w0.heap.size (s.ob id).E 1 (.slice (some ⟨b,0,none⟩) es.length cap) (ai es o (aB.take m)).length (ai (cur.toList.take es.length) o (cX.take m)):=by
   rw [lp];refine ⟨?_,.inr ⟨b,cap,_,rfl,((h.obj id ah).lt hb).1,ie,hn,hm,?_,?_⟩⟩
   ·rw [xx zc,mz,xR]
   ·simp only [WJ];rw [xx zc,bh,xR]
   ·rw [xR];have key:∀ (L p:Nat) (cs ds:List Value),p+ds.length≤L→L≤cs.length→(ai cs p ds).take L=ai (cs.take L) p ds:=by
     intro L p cs ds h1 h2;unfold ai;rw [ye,ye,Xc,yE,xE zc,Xc,Zu,Zu,Yr zc,xE zc,ym (by omega:ds.length≤L - p),List.drop_take];congr 3;omega
    exact key _ _ _ _ zc zc
  refine ⟨goInt (cX.take m).length,W,β,?_,?_,?_,fun _ _ hm=>(FV.aT rfl hm).elim⟩
  ·have lj : (Builtin.copy_ #[T,T2] ty #[.slice (some ⟨b,o,none⟩) m cc,.slice (some ad) aB.length c2]).run c.P w=.ok (goInt (cX.take m).length) W:=by rw [hW];exact bx
   obtain ⟨V,hV⟩:∃ V,V=goInt ((cX.take m).length:Nat):=⟨_,rfl⟩
   rw [← hV] at lj ⊢;simp [execOp,resolve,invoke,builtin,e1,hy,lj]
  ·refine h.write id (es:=ai es o (aB.take m)) (v:=.slice (some ⟨b,0,none⟩) es.length cap) (xs:=ai (cur.toList.take es.length) o (cX.take m)) hl gR ?_ ?_ ?_ hb.symm ?_ ?_ ?_ (fun k=>?_) (fun k=>ae.cG _ _ _)
   ·rw [aK];intro q hq;rcases Vj hq with hq|hq
    ·exact hw q hq
    ·exact nb q hq
   ·intro f hf;obtain ⟨q,hq,oh⟩:=xi.1 hf;rcases Vj hq with hq|hq
    ·exact bf f (xi.2 ⟨q,hq,oh⟩)
    ·exact kG f (xi.2 ⟨q,xj hq,oh⟩)
   ·rw [aK];exact ct
   ·rw [BH hw nb];exact hr.ai ru _
   ·rw [nc,lp]
   ·intro b' qu qv bB h1 h2;rw [hb] at bB;injection bB with bB
    subst bB;rw [a9] at h1;injection h1 with h1
    injection h1 with h1 _ _
    subst h1;rw [ie] at h2;injection h2 with h2
    injection h2 with h2 _ _
    rw [← h2];simp only [WJ];rw [xx zc,bh,bj]
   ·rw [← nc];exact ae.aq s id _ k
  ·rw [← l8];exact Rd.int _ _
def YN (P:Program) (T:Nat):Bool:=
 match P.underlying T with
 | some (.interface _) => true
 | _ => false
theorem UR (hk:(c.ty T).k≠.other) (dN:YN c.P T=false) (x:Operand):(execOp a.eval ⟨dst,.makeInterface T x,ty,pos,after,g⟩).run c.P w=.ok (.value (.iface T (a.eval x))) w:=by
 obtain ⟨d,i,z,ht⟩:=c.get rfl hk;unfold YN at dN;rw [ht.u] at dN;cases d <;> first|(cases dN;done)|(simp [execOp,Instr.makeInterface,run_underlying ht.u];done)
theorem Ck (h:FR c.N w0 J s a w β) (hk:(c.ty T).k≠.other) (dN:YN c.P T=false) (x:Operand) {f:FV} (ex:s.ev x=f) (hn:f.hand=none) :
  xz c w0 J s a ⟨dst,.makeInterface T x,ty,pos,after,g⟩ w (.iface T f) []:=
 .rd h (v:=.iface T (a.eval x)) (UR hk dN x) (.iface T _ _ (h.bg ex hn)) rfl
def FV.cp:FV→Bool
 | .wrap _ _ => false
 | _ => true
theorem FV.g4 {f:FV} (h:f.cp=true):∀ k fs,f≠.wrap k fs:=by rintro k fs rfl;cases h
theorem DC {k:Wk} {fs:List FV} {id:Nat} (h:(id,aa)∈(FV.wrap k fs).hands):∃ f∈fs,f.hand=some (id,aa):=yZ.1 h
theorem Uz (h:FR c.N w0 J s a w β) {k:Wk} {xs:List Operand} {fs:List FV} (hx:xs.map s.ev=fs) (hn:fs.all FV.cp=true) {o:Oper} (hr:(execOp a.eval o).run c.P w=.ok (.value (k.mk (xs.map a.eval))) w):xz c w0 J s a o w (.wrap k fs) []:=by
 subst hx;refine .pure h hr ⟨xs.map a.eval,rfl,by simp,fun j u f hu hf=>?_⟩ fun id aa hm=>?_
 ·rw [yK] at hu hf;cases hj:xs[j]? with
  | none => rw [hj] at hu; cases hu
  | some x =>
   rw [hj] at hu hf;injection hu with hu;injection hf with hf
   subst hu;subst hf;have hm:s.ev x∈xs.map s.ev:=zM.2 ⟨x,zZ hj,rfl⟩;exact (h.ev x).mS (FV.g4 (zV.1 hn _ hm))
 ·obtain ⟨f,hf,e⟩:=DC hm;obtain ⟨x,GH,rfl⟩:=zM.1 hf;refine h.cr x ?_;have hw:=zV.1 hn _ hf;generalize s.ev x=q at e hw;cases q with
  | own|ptr|omap => injection e with e; rw [← e]; exact yf.2 rfl
  | wrap => cases hw
  | _ => cases e
theorem BW (h:FR c.N w0 J s a w β) (hk:(c.ty T).k≠.other) (dN:YN c.P T=false) (x:Operand) {f:FV} (ex:s.ev x=f) (hn:f.cp=true) :
  xz c w0 J s a ⟨dst,.makeInterface T x,ty,pos,after,g⟩ w (.wrap (.pJ T) [f]) []:=
 Uz h (k:=.pJ T) (xs:=[x]) (by simp [ex]) (by simpa using hn) (UR hk dN x)
theorem Cj (h:FR c.N w0 J s a w β) {f:Nat} {aF:List FV} (hx:xs.toList.map s.ev=aF) (hn:aF.all FV.cp=true) :
  xz c w0 J s a ⟨dst,.makeFunc (.func f) #[] xs,ty,pos,after,g⟩ w (.wrap (.fn f) aF) []:=by
 refine Uz h (k:=.fn f) (xs:=xs.toList) hx hn ?_;have:(xs.toList.map a.eval).toArray=xs.map a.eval:=by apply ZP;simp
 simp [execOp,Instr.makeFunc,Wk.mk,this]
theorem Du (h:FR c.N w0 J s a w β) {f:Nat} {aF:List FV} (hx:xs.toList.map s.ev=aF) (hn:aF.all FV.cp=true) :
  xz c w0 J s a ⟨dst,.makeFunc (.func f) xs #[],ty,pos,after,g⟩ w (.wrap (.bound f) aF) []:=by
 refine Uz h (k:=.bound f) (xs:=xs.toList) hx hn ?_;have:(xs.toList.map a.eval).toArray=xs.map a.eval:=by apply ZP;simp
 simp [execOp,Instr.makeFunc,Wk.mk,this]
theorem Cm (h:FR c.N w0 J s a w β) {T2:Nat} (hk:(c.ty T).k≠.other) (dN:YN c.P T=false) (x:Operand) {f:FV} (ex:s.ev x=.iface T f) (hn:f.hand=none) :
  xz c w0 J s a ⟨dst,.typeAssert x T2 T false,ty,pos,after,g⟩ w f []:=by
 have hr:=h.bg ex rfl;generalize hx:a.eval x=v at hr;cases hr with
 | iface t v f hr =>
  refine .rd h (v:=v) ?_ hr hn;obtain ⟨d,i,z,ht⟩:=c.get rfl hk;unfold YN at dN;rw [ht.u] at dN;cases d <;> first|(cases dN;done)|(simp [execOp,Instr.typeAssert,run_underlying ht.u,hx];done)
inductive mU (s:ae):FV→Bool→Prop where
 | nil:mU s .nil true
 | own (id aa o n:Nat) (hl:s.live id aa) (hn:0<n):mU s (.own id aa o n) false
 | list (sz:Nat) (es:List (List FV)) (hn:es ≠ []):mU s (.list sz es) false
theorem FR.oV (h:FR c.N w0 J s a w β) {f:FV} (ex:s.ev x=f) (hb:mU s f b):∃ A n cc,a.eval x=.slice A n cc∧A.isNone=b:=by
 cases hb with
 | nil => exact ⟨none, 0, 0, h.cK ex, rfl⟩
 | own id aa o n hl hn =>
  obtain ⟨A,cc,e1,e2,e3,e4,e5⟩:=(h.bE ex hl.1 hl.2).ex;refine ⟨A,n,cc,e1,?_⟩;cases hb:β id with
  | none => obtain ⟨_, q⟩ := e4 hb; omega
  | some b => obtain ⟨o', rfl, _⟩ := e5 b hb; rfl
 | list sz es hn=>
  have hr:=h.bg ex rfl;generalize hx:a.eval x=v at hr;cases hr with
  | list A m cc sz es us hm hc hw ho hA hl km =>
   refine ⟨A,m,cc,rfl,?_⟩;obtain ⟨b,off,rfl,_⟩:=hA (fun e=>hn (Yc zc));rfl
theorem Dx (h:FR c.N w0 J s a w β) (op:BinOp) {T2 e:Nat} (hT:(c.ty T).k=.slice e) (x y:Operand) {f:FV} (ex:s.ev x=f) (hb:mU s f b) (ey:s.ev y=.nil) (bM:op=.eql∨op=.neq) :
  xz c w0 J s a ⟨dst,.binOp op T x y T2,ty,pos,after,g⟩ w (.bool (if op=.eql then b else !b)) []:=by
 obtain ⟨dd,ii,z,ht⟩:=c.get hT zg;have hd:=ht.k;rw [hT] at hd;obtain rfl:=yH hd;obtain ⟨A,n,cc,e1,rfl⟩:=h.oV ex hb;have e2:=h.cK ey;have heq:(Op.equalIn Op.maxDepth T (.slice A n cc) (.slice none 0 0)).run c.P w=.ok A.isNone w:=by
  show (Op.equalIn (9999+1) T (.slice A n cc) (.slice none 0 0)).run c.P w=_;unfold Op.equalIn;cases A <;> simp [run_underlying ht.u]
 refine .rd h (v:=.bool (if op=.eql then A.isNone else !A.isNone)) ?_ (.bool _) rfl;rcases bM with rfl|rfl
 ·simp [execOp,e1,e2,eqGuard,binOp,Op.equal,heq]
 ·simp [execOp,e1,e2,eqGuard,binOp,Op.equal,heq]
end
def wZ (P:Program) (T:Nat) (X Y:List FV) (b:Bool):Prop:=P.eqGuardType P.depth T=false∧∀ w:World,(Op.equalIn 10000 T (.agg (X.map FV.cq).toArray) (.agg (Y.map FV.cq).toArray)).run P w=.ok b w
theorem Dw {w0:World} {s:ae} (h:FR c.N w0 J s a w β) (op:BinOp) {T T2:TypeId} (x y:Operand) {X Y:List FV} (ex:s.ev x=.agg X) (hX:X.all FV.aH=true) (ey:s.ev y=.agg Y) (hY:Y.all FV.aH=true) (hl:wZ c.P T X Y b) (bM:op=.eql∨op=.neq) :
  xz c w0 J s a ⟨dst,.binOp op T x y T2,ty,pos,after,g⟩ w (.bool (if op=.eql then b else !b)) []:=by
 have e1:a.eval x=.agg (X.map FV.cq).toArray:=(h.bg ex rfl).ch hX;have e2:a.eval y=.agg (Y.map FV.cq).toArray:=(h.bg ey rfl).ch hY;obtain ⟨h1,h2⟩:=hl;have h3:=fun op=>run_eqGuard_agg (P:=c.P) (w:=w) op T x y (X.map FV.cq).toArray (Y.map FV.cq).toArray h1;rcases bM with rfl|rfl
 ·refine .rd h (v:=.bool b) ?_ (.bool _) rfl;simp only [execOp,e1,e2,Zx,h3,Yu,run_eql_struct,h2,Zy]
 ·refine .rd h (v:=.bool (!b)) ?_ (.bool _) rfl;simp only [execOp,e1,e2,Zx,h3,Yu,run_neq_struct,h2,Zy]
def nK (P:Program) (f:Nat):Bool:=
 match P.funcs[f]? with
 | some fn => fn.body.isSome && fn.name != "runtime.NumGoroutine"
 | none => false
inductive eW where
 | fr|sh|ow (E sz:Nat)
 deriving DecidableEq,Inhabited
def qi (w w' : World) (I:Nat→Prop):eW→Value→FV→Prop
 | .fr, v, f => Rd w' (fun b => w.heap.size ≤ b ∧ b<w'.heap.size) v f
 | .sh, v, f => Rd w' (fun b => I b ∨ (w.heap.size ≤ b ∧ b<w'.heap.size)) v f
 | .ow E sz, v, f => ∃ es us, f=.list sz es ∧ (∀ e ∈ es, e.length=sz) ∧ (∀ f ∈ es.flatten, f.one=true) ∧ w'.ownsRow w.heap.size E sz v es.length us ∧ aD w' (fun b => w.heap.size ≤ b ∧ b<w'.heap.size ∧ v.ownBlock ≠ some b) us es.flatten
structure zP (P:Program) (f:Nat) (args:List FV) (m:eW) (res:FV):Prop where
 go:nK P f=true
 hand:res.hand=none
 calls:∀ (w:World) (I:Nat→Prop) (vs:List Value),(∀ b,I b→b<w.heap.size)→aD w I vs args→Calls P f vs.toArray w fun e w'=>∃ v,e=.returned v∧Below w.heap.size w w'∧qi w w' I m v res
inductive FV.le:FV→FV→Prop where
 | refl (f:FV):FV.le f f
 | undef (f:FV):FV.le f .undef
 | nil (sz:Nat):FV.le .nil (.list sz [])
 | nO {fs gs:List FV} (hl:fs.length=gs.length) (h:∀ (j:Nat) f g, fs[j]? = some f → gs[j]? = some g → FV.le f g):FV.le (.agg fs) (.agg gs)
 | o4 {fs gs:List FV} (hl:fs.length=gs.length) (h:∀ (j:Nat) f g, fs[j]? = some f → gs[j]? = some g → FV.le f g):FV.le (.bS fs) (.bS gs)
inductive iC:List FV→List FV→Prop where
 | nil:iC [] []
 | cons {f g:FV} {fs gs:List FV} (h:FV.le f g) (hs:iC fs gs):iC (f :: fs) (g :: gs)
theorem iC.get {fs gs:List FV} (h:iC fs gs):fs.length=gs.length∧∀ (j:Nat) f g,fs[j]? = some f→gs[j]? = some g→FV.le f g:=by
 induction h with
 | nil => exact ⟨rfl, by simp⟩
 | cons h hs ih =>
  refine ⟨by simp [ih.1],fun j f g hf hg=>?_⟩;cases j with
  | zero => simp at hf hg; subst hf; subst hg; exact h
  | succ j => exact ih.2 j f g (by simpa using hf) (by simpa using hg)
theorem FV.le.agg {fs gs:List FV} (h:iC fs gs):FV.le (.agg fs) (.agg gs):=.nO h.get.1 h.get.2
theorem FV.le.bS {fs gs:List FV} (h:iC fs gs):FV.le (.bS fs) (.bS gs):=.o4 h.get.1 h.get.2
theorem Rd.le {f g:FV} (h:FV.le f g):∀ {v:Value},Rd w I v f→Rd w I v g:=by
 induction h with
 | refl f => exact id
 | undef f => exact fun _ => .undef _
 | nil sz => intro v h; cases h; exact .list none 0 0 sz [] [] rfl (zi _) zg zg zg zg zg
 | @nO fs gs hl h ih=>
  intro v hv;cases hv with
  | agg us fs ba hr =>
   refine .agg us gs (ba.trans hl) fun j u g hu hg=>?_;have hj:j<fs.length:=by rw [hl];exact (yq.1 hg).1
   exact ih j fs[j] g (by simp [hj]) hg (hr j u _ hu (by simp [hj]))
 | @o4 fs gs hl h ih=>
  intro v hv;cases hv with
  | bS us fs ba hr =>
   refine .bS us gs (ba.trans hl) fun j u g hu hg=>?_;have hj:j<fs.length:=by rw [hl];exact (yq.1 hg).1
   exact ih j fs[j] g (by simp [hj]) hg (hr j u _ hu (by simp [hj]))
theorem zP.weaken {f:Nat} {args:List FV} {m:eW} {res mQ : FV} (h:zP P f args m res) (hm:m=.fr∨m=.sh) (hle:FV.le res mQ) (hh:mQ.hand=none):zP P f args m mQ where
 go:=h.go
 hand:=hh
 calls w I vs hI hv:=(h.calls w I vs hI hv).mono fun e w' ⟨v,h1,h2,h3⟩=>⟨v,h1,h2,by rcases hm with rfl|rfl <;> exact Rd.le hle h3⟩
inductive Vx (s:ae) (m:eW):FV→FV→Prop where
 | plain (f:FV) (hn:f.hand=none):Vx s m f f
 | nil (sz:Nat):Vx s m .nil (.list sz [])
 | sub (f g:FV) (hn:f.hand=none) (hle:FV.le f g):Vx s m f g
 | own (id aa o n:Nat) (hl:s.live id aa) (bo:(s.ob id).ag.row=true) (hm:m=.sh → (s.ob id).ag=.shut):Vx s m (.own id aa o n) (.list (s.ob id).sz (((s.ob id).es.drop o).take n))
inductive Yo (s:ae) (m:eW):List Operand→List FV→Prop where
 | nil:Yo s m [] []
 | cons {x:Operand} {xs:List Operand} {g:FV} {gs:List FV} (h:Vx s m (s.ev x) g) (hs:Yo s m xs gs):Yo s m (x :: xs) (g :: gs)
section
variable {c:Ctx} {w0 w:World} {J:JJ} {s:ae} {a:Act} {β:Nat→Option Nat}
def fU (J:JJ) (w:World) (β:Nat→Option Nat) (s:ae) (m:eW) (b:Nat):Prop:=if m=.sh then aG J w β s b else b<w.heap.size
theorem FR.arg (h:FR c.N w0 J s a w β) {m:eW} {g:FV} (hx:Vx s m (s.ev x) g):Rd w (fU J w β s m) (a.eval x) g:=by
 have mf:∀ b,aG J w β s b→fU J w β s m b∧w.heap[b]? = w.heap[b]?:=fun b hb=>by
  unfold fU;split
  ·exact ⟨hb,rfl⟩
  ·exact ⟨hb.1,rfl⟩
 generalize hf:s.ev x=f at hx;cases hx with
 | plain f hn => exact (h.bg hf hn).mono mf
 | sub f g hn hle => exact ((h.bg hf hn).mono mf).le hle
 | nil sz =>
  rw [h.cK hf];exact .list none 0 0 sz [] [] rfl (zi _) zg zg zg zg zg
 | own id aa o n hl bo hm=>
  obtain ⟨A,cc,e1,e2,e3,e4,e5⟩:=(h.bE hf hl.1 hl.2).ex;obtain ⟨hw,bf,A',Gr,us,m4,Gw,hr,Gy,aW⟩:=h.src hf (Src.own id aa o n hl bo);rw [e1] at m4 ⊢;injection m4 with k1 k2 k3
  subst k1;refine .list A n cc _ _ us k2.symm e2 hw bf (fun h0=>?_) hr.1 (hr.mono mf).2;cases hb:β id with
  | none => have := (e4 hb).2; omega
  | some b=>
   obtain ⟨o',rfl,_⟩:=e5 b hb;refine ⟨b,o',rfl,?_,fun j u hu=>by have:=aW _ rfl j u hu;rwa [xn] at this⟩;have az:=((h.obj id hl.1).lt hb).2;unfold fU;split
   ·rename_i AY;have oK:=hm AY;refine ⟨az,h.fresh b ((h.obj id hl.1).lt hb).1 (.inr ⟨id,hl.1,hb⟩),fun aM ba e=>?_⟩;have:=h.inj id aM b hl.1 (xC.aU ba) hb e;subst this;rw [oK] at ba;cases ba
   ·exact az
theorem FR.args (h:FR c.N w0 J s a w β) {m:eW}:∀ {xs:List Operand} {gs:List FV},Yo s m xs gs→aD w (fU J w β s m) (xs.map a.eval) gs
 | _, _, .nil => aD.nil
 | _, _, .cons hx hs => aD.cons (h.arg hx) (h.args hs)
theorem Yl {f:Nat} (hg:nK P f=true) (args:Array Value) (w:World):(callFunc f args).run P w=.ok (.enter f args) w:=by
 unfold nK at hg;cases hf:P.funcs[f]? with
 | none => rw [hf] at hg; cases hg
 | some fn =>
  rw [hf] at hg;simp only [zU,bne_iff_ne,ne_eq] at hg;have hb:fn.body≠none:=fun e=>by rw [e] at hg;cases hg.1
  have hp:(program:Sem Program).run P w=.ok P w:=rfl;simp [callFunc,hp,hf,hg.2,hb]
theorem wm (h:FR c.N w0 J s a w β) {f:Nat} {ts:Array TypeId} {m:eW} {gs:List FV} {res:FV} (hs:zP c.P f gs m res) (hx:Yo s m xs.toList gs) {ty:TypeId} {pos:String} {after:Array Edge} {g:Option (Nat×Bool)}
{Q : Exit→Act→World→Prop} (hK:∀ v w',Below w.heap.size w w'→qi w w' (fU J w β s m) m v res→K (a.put dst v) w') :
   (⟨dst,.call { callee:=.value (.func f),args:=xs,argTypes:=ts },ty,pos,after,g⟩:Oper).wp c.P a w K Q:=by
 have ou:∀ b,fU J w β s m b→b<w.heap.size:=fun b hb=>by
  unfold fU at hb;split at hb
  ·exact hb.1
  ·exact hb
 have hc:=hs.calls w (fU J w β s m) (xs.toList.map a.eval) ou (h.args hx);have bu:(xs.toList.map a.eval).toArray=xs.map a.eval:=by
  apply ZP;simp
 rw [bu] at hc;unfold Oper.wp;have bx:(execOp a.eval ⟨dst,.call { callee:=.value (.func f),args:=xs,argTypes:=ts },ty,pos,after,g⟩).run c.P w=.ok (.enter f (xs.map a.eval)) w:=by
  have:=Yl (P:=c.P) hs.go (xs.map a.eval) w;simp [execOp,resolve,Act.eval,Deferred.ofValue,invoke,this]
 rw [bx,WF];refine hc.mono ?_;rintro e w' ⟨v,rfl,hb,hr⟩;exact hK v w' hb hr
end
section
variable {c:Ctx} {w0 w:World} {J:JJ} {s:ae} {a:Act} {β:Nat→Option Nat}
theorem Eu (h:FR c.N w0 J s a w β) {f:Nat} {ts:Array TypeId} {m:eW} {gs aF:List FV} {res:FV} (ex:s.ev x=.fn f aF) (hs:zP c.P f (gs++aF) m res) (hx:Yo s m xs.toList gs) {ty:TypeId} {pos:String} {after:Array Edge} {g:Option (Nat×Bool)}
{Q : Exit→Act→World→Prop} (hK:∀ v w',Below w.heap.size w w'→qi w w' (fU J w β s m) m v res→K (a.put dst v) w') :
   (⟨dst,.call { callee:=.value x,args:=xs,argTypes:=ts },ty,pos,after,g⟩:Oper).wp c.P a w K Q:=by
 have rE:=h.args hx;have hl:∀ b,fU J w β s m b→b<w.heap.size:=fun b hb=>by
  unfold fU at hb;split at hb
  ·exact hb.1
  ·exact hb
 have mf:∀ b,aG J w β s b→fU J w β s m b:=fun b hb=>by
  unfold fU;split
  ·exact hb
  ·exact hb.1
 have hv:=VR.rd (by have:=h.ev x;rwa [ex] at this) rfl;generalize pH:a.eval x=v at hv;cases hv with
 | fn f us fs kJ A7=>
  have df:aD w (fU J w β s m) us aF:=⟨kJ,fun j u q hu hq=>Rd.mono (fun b hb=>⟨mf b hb,rfl⟩) (A7 j u q hu hq)⟩
  have hc:=hs.calls w (fU J w β s m) (xs.toList.map a.eval++us) hl (rE.append df);have bu:(xs.toList.map a.eval++us).toArray=xs.map a.eval++us.toArray:=by
   apply ZP;simp
  rw [bu] at hc;unfold Oper.wp;have bx:(execOp a.eval ⟨dst,.call { callee:=.value x,args:=xs,argTypes:=ts },ty,pos,after,g⟩).run c.P w=.ok (.enter f (xs.map a.eval++us.toArray)) w:=by
   have:=Yl (P:=c.P) hs.go (xs.map a.eval++us.toArray) w;simp [execOp,resolve,pH,Deferred.ofValue,invoke,this]
  rw [bx,WF];refine hc.mono ?_;rintro e w' ⟨v,rfl,hb,hr⟩;exact hK v w' hb hr
theorem Cg (hF:FR c.N w0 J s a w β) {f:Nat} {aF:List FV} (hx:xs.toList.map s.ev=aF) (hc:∀ g∈aF,g.hand=none) :
  xz c w0 J s a ⟨dst,.makeFunc (.func f) #[] xs,ty,pos,after,g⟩ w (.fn f aF) []:=by
 have hl:aD w (aG J w β s) (xs.toList.map a.eval) aF:=by
  subst hx;refine ⟨by simp,fun j u q hu hq=>?_⟩;rw [yK] at hu hq;cases kK:xs.toList[j]? with
  | none => rw [kK] at hu; cases hu
  | some y =>
   rw [kK] at hu hq;simp only [xU,yh] at hu hq;subst hu;subst hq;exact VR.rd (hF.ev y) (hc _ (zM.2 ⟨y,zZ kK,rfl⟩))
 have hv:(xs.toList.map a.eval).toArray=xs.map a.eval:=by apply ZP;simp
 exact .rd hF (v:=.func (.func f) #[] (xs.map a.eval)) (by simp [execOp,Instr.makeFunc]) (by rw [← hv];exact .fn f _ _ hl.1 hl.2) rfl
end
def kr (op:Op):Prop:=(∃ T x y,op=.store T x y)∨∃ T x y z,op=.mapUpdate T x y z
def Vn:Op→Bool
 | .move _ => true
 | .assign _ => true
 | _ => false
def Xa (s:ae) (d:Nat) (op:Op):List Nat:=d::bif Vn op then [] else op.operands.toList.filterMap fun x=>(s.ev x).hand.map (·.1)
theorem Ey (s:ae) (d:Nat) (op:Op):d∈Xa s d op:=XC
theorem WN {s:ae} (bO:Vn op=false) (hx:x∈op.operands.toList) {id:Nat} (h:(s.ev x).hand=some (id,aa)):id∈Xa s d op:=by
 unfold Xa;rw [bO];exact Yg _ (yZ.2 ⟨x,hx,by rw [h];rfl⟩)
inductive ax (c:Ctx) (s:ae) (d:Nat):Op→FV→List (Nat×zL)→Prop where
 | move (x:Operand):ax c s d (.move x) (s.ev x) []
 | assign (x:Operand):ax c s d (.assign x) (s.ev x) []
 | pick (fY x y:Operand) {b:Bool} (hb:s.ev fY=.bool b):ax c s d (.pick fY x y) (if b then s.ev x else s.ev y) []
 | cF (op:BinOp) (T T2:TypeId) (x y:Operand) {k:IntKind} {m n:Int} {f:FV} (ex:s.ev x=.int k m) (ey:s.ev y=.int k n) (hf:cF op k m n=some f):ax c s d (.binOp op T x y T2) f []
 | j4 (op:BinOp) (T T2:TypeId) (x y:Operand) {k:IntKind} {m n:Int} (ex:s.ev x=.int k m) (ey:s.ev y=.int k n) (hn:n ≠ 0) (bM:op=.quo ∨ op=.rem):ax c s d (.binOp op T x y T2) (.int k (if op=.quo then k.wrap (m.tdiv n) else m.tmod n)) []
 | kz (op:BinOp) {T T2:TypeId} (x y:Operand) {m n:Bool} (hT:(c.ty T).k=.bool) (ex:s.ev x=.bool m) (ey:s.ev y=.bool n) (bM:op=.eql ∨ op=.neq):ax c s d (.binOp op T x y T2) (.bool (if op=.eql then m == n else m != n)) []
 | not (T:TypeId) (x:Operand) {b:Bool} (ex:s.ev x=.bool b):ax c s d (.unOp .not T x) (.bool (!b)) []
 | shift (op:BinOp) (T T2:TypeId) (x y:Operand) {k yk:IntKind} {m n:Int} (ex:s.ev x=.int k m) (ey:s.ev y=.int yk n) (hn:0 ≤ n) (bM:op=.shl ∨ op=.shr):ax c s d (.binOp op T x y T2) (.int k (if op=.shl then k.wrap (m * 2 ^ (min n.toNat k.bits)) else m.fdiv (2 ^ (min n.toNat k.bits)))) []
 | conv {T T2:TypeId} {k2:IntKind} (hT:(c.ty T).k ≠ .other) (lU:(c.ty T2).k=.int k2) (x:Operand) {k:IntKind} {n:Int} (ex:s.ev x=.int k n):ax c s d (.convert T T2 x) (.int k2 (k2.wrap n)) []
 | neg (T:TypeId) (x:Operand) {k:IntKind} {n:Int} (ex:s.ev x=.int k n):ax c s d (.unOp .neg T x) (.int k (k.wrap (-n))) []
 | min2 (bi:Builtin) (T T2:TypeId) (x y:Operand) {k:IntKind} {m n:Int} (ex:s.ev x=.int k m) (ey:s.ev y=.int k n) (dQ:bi=.min∨bi=.max) :
   ax c s d (.call { callee:=.builtin bi,args:=#[x,y],argTypes:=#[T,T2] }) (.int k (if bi=.min then (if n<m then n else m) else (if m<n then n else m))) []
 | fB {T e:TypeId} (hT:(c.ty T).k=.slice e) (x:Operand) {id aa o n:Nat} (ex:s.ev x=.own id aa o n) (hl:s.live id aa):ax c s d (.call { callee := .builtin .len, args := #[x], argTypes := #[T] }) (.int .i64 n) []
 | ef {T e:TypeId} (hT:(c.ty T).k=.slice e) (x:Operand) {sz:Nat} {es:List (List FV)} (ex:s.ev x=.list sz es):ax c s d (.call { callee := .builtin .len, args := #[x], argTypes := #[T] }) (.int .i64 es.length) []
 | fA {T e:TypeId} (hT:(c.ty T).k=.slice e) (x:Operand) (ex:s.ev x=.nil):ax c s d (.call { callee := .builtin .len, args := #[x], argTypes := #[T] }) (.int .i64 0) []
 | dw {T ft i off:Nat} {fs:List (Nat×Nat)} (hT:(c.ty T).k=.av fs) (hf:fs[i]? = some (off,ft)) (dR:(c.ty ft).k≠.other) (aK:(c.ty ft).size≠0) (x:Operand) {id aa j o:Nat} (ex:s.ev x=.ptr id aa j o) (hl:s.live id aa) :
   ax c s d (.fieldAddr T x i) (.ptr id aa j (o+off)) []
 | cR {T ft i off:Nat} {fs:List (Nat×Nat)} (hT:(c.ty T).k=.av fs) (hf:fs[i]? = some (off,ft)) (dR:(c.ty ft).k≠.other) (aK:(c.ty ft).size≠0) (x:Operand) {sz j o:Nat} {es:List (List FV)} (ex:s.ev x=.ay sz es j o) :
   ax c s d (.fieldAddr T x i) (.ay sz es j (o+off)) []
 | cT {T e:Nat} (hT:(c.ty T).k=.slice e) (he:(c.ty e).k≠.other) (x y:Operand) {sz:Nat} {es:List (List FV)} {k:IntKind} {n:Nat} (ex:s.ev x=.list sz es) (aK:(c.ty e).size=sz) (ey:s.ev y=.int k n) (h1:n<es.length) :
   ax c s d (.indexAddr T x y) (.ay sz es n 0) []
 | dB {T e:Nat} (hT:(c.ty T).k=.slice e) (he:(c.ty e).k≠.other) (x y:Operand) {id aa o m:Nat} {k:IntKind} {n:Nat} (ex:s.ev x=.own id aa o m) (hl:s.live id aa) (aK:(c.ty e).size=(s.ob id).sz) (ey:s.ev y=.int k n) (h1:n<m) :
   ax c s d (.indexAddr T x y) (.ptr id aa (o+n) 0) []
 | dK {T m e:Nat} (hT:(c.ty T).k=.arr m e) (he:(c.ty e).k≠.other) (x y:Operand) {id aa j o:Nat} {k:IntKind} {n:Nat} (ex:s.ev x=.ptr id aa j o) (hl:s.live id aa) (ey:s.ev y=.int k n) (h1:n<m) :
   ax c s d (.indexAddr T x y) (.ptr id aa j (o+n * (c.ty e).size)) []
 | di {T m e:Nat} (hT:(c.ty T).k=.arr m e) (he:(c.ty e).k≠.other) (x y:Operand) {sz j o:Nat} {es:List (List FV)} {k:IntKind} {n:Nat} (ex:s.ev x=.ay sz es j o) (ey:s.ev y=.int k n) (h1:n<m) :
   ax c s d (.indexAddr T x y) (.ay sz es j (o+n * (c.ty e).size)) []
 | cx {T:Nat} {bb:Bool} (hk:(c.ty T).k.aX = some bb) (x:Operand) {sz j o:Nat} {es:List (List FV)} (ex:s.ev x=.ay sz es j o) (hj:j<es.length) (ho:o+(c.ty T).size ≤ sz) (eG : o<sz):ax c s d (.load T x) (Zl (c.ty T) ((es.getD j []).drop o)) []
 | cU {T:Nat} {bb:Bool} (hk:(c.ty T).k.aX = some bb) (x:Operand) {id aa j o:Nat} (ex:s.ev x=.ptr id aa j o) (hl:s.live id aa) (bo:(s.ob id).ag.row=true) (hj:j<(s.ob id).es.length) (ho:o+(c.ty T).size≤(s.ob id).sz) (eG : o<(s.ob id).sz) :
   ax c s d (.load T x) (Zl (c.ty T) (((s.ob id).es.getD j []).drop o)) []
 | store {T:Nat} (hk:(c.ty T).k≠.other) (x y:Operand) {id aa j o:Nat} (ex:s.ev x=.ptr id aa j o) (hl:(s.ob id).ag=.own) (hv:(s.ob id).aa=aa) {f:FV} (ey:s.ev y=f) (hf:f.cells.all FV.one=true) (bY:f.cells.length=(c.ty T).size)
   (hj:j<(s.ob id).es.length) (ho:o+(c.ty T).size≤(s.ob id).sz):ax c s d (.store T x y) .undef [(id,{ s.ob id with es:=(s.ob id).es.set j (ai ((s.ob id).es.getD j []) o f.cells) })]
 | alloc {T:Nat} (hk:(c.ty T).k ≠ .other) (hz:(c.ty T).zero.all FV.one=true):ax c s d (.alloc T) (.ptr d ((s.ob d).aa+1) 0 0) [(d, ⟨(s.ob d).aa+1, .own, T, (c.ty T).zero.length, [(c.ty T).zero]⟩)]
 | box {T:Nat} (x:Operand) {f:FV} (ex:s.ev x=f) (hf:f.cells.all FV.one=true):ax c s d (.box T x) (.ptr d ((s.ob d).aa+1) 0 0) [(d, ⟨(s.ob d).aa+1, .own, T, f.cells.length, [f.cells]⟩)]
 | build {T:Nat} {fs:List (Nat×Nat)} (hT:(c.ty T).k=.av fs) (jf:∀ p∈fs,(c.ty p.2).k≠.other) (ps:Array (Nat×Operand)) {cs:List FV} (hf:ZZ (fun i=>(fs[i]?).map fun p=>(p.1,(c.ty p.2).size)) (c.ty T).zero (s.parts ps)=some cs) :
   ax c s d (.build T ps) (.agg cs) []
 | gL {T n e:Nat} (hT:(c.ty T).k=.arr n e) (he:(c.ty e).k ≠ .other) (ps:Array (Nat × Operand)) {cs:List FV} (hf:ZZ (fun i => some (i * (c.ty e).size, (c.ty e).size)) (c.ty T).zero (s.parts ps)=some cs):ax c s d (.build T ps) (.agg cs) []
 | buildSlice {T e n:Nat} (hT:(c.ty T).k=.slice e) (he:(c.ty e).k≠.other) (ps:Array (Nat×Operand)) (es:List (List FV)) (hn:es.length=n) (hw:∀ x∈es,x.length=(c.ty e).size) (ho:∀ f∈es.flatten,f.one=true) (df:n * (c.ty e).size≤16777216) (gl:n≤16777216)
   (hf:ZZ (fun i=>some (i * (c.ty e).size,(c.ty e).size)) (List.replicate (n * (c.ty e).size) .undef) (s.parts ps)=some es.flatten):ax c s d (.buildSlice T n ps) (.own d ((s.ob d).aa+1) 0 n) [(d,⟨(s.ob d).aa+1,.own,e,(c.ty e).size,es⟩)]
 | bT {T e n:Nat} (hT:(c.ty T).k=.slice e) (he:(c.ty e).k≠.other) (ps:Array (Nat×Operand)) (es:List (List FV)) (hn:es.length=n) (hw:∀ x∈es,x.length=(c.ty e).size) (ho:∀ f∈es.flatten,f.one=true) (df:n * (c.ty e).size≤16777216) (gl:n≤16777216)
   (hf:ZZ (fun i=>some (i * (c.ty e).size,(c.ty e).size)) (List.replicate (n * (c.ty e).size) .undef) (s.parts ps)=some es.flatten):ax c s d (.buildSlice T n ps) (.list (c.ty e).size es) []
 | makeSlice {T e n:Nat} (hT:(c.ty T).k=.slice e) (he:(c.ty e).k≠.other) (x y:Operand) {k1 k2:IntKind} (ex:s.ev x=.int k1 n) (ey:s.ev y=.int k2 n) (ho:(c.ty e).zero.all FV.one=true) (hb:(c.ty e).bytes * n≤281474976710656) (hn:n≤281474976710656) :
   ax c s d (.makeSlice T x y) (.own d ((s.ob d).aa+1) 0 n) [(d,⟨(s.ob d).aa+1,.own,e,(c.ty e).size,List.replicate n (c.ty e).zero⟩)]
 | eQ {T e:Nat} (hT:(c.ty T).k=.slice e) (he:(c.ty e).k≠.other) (x:Operand) (lo hi:Option Operand) {id aa o m l u:Nat} (ex:s.ev x=.own id aa o m) (hl:s.live id aa) (aK:(c.ty e).size=(s.ob id).sz) (c6:s.lo lo l) (cI:s.hi hi m u) (h1:l≤u) (h2:u≤m) :
   ax c s d (.slice T x lo hi none) (.own id aa (o+l) (u - l)) []
 | cW {T e:Nat} (hT:(c.ty T).k=.slice e) (he:(c.ty e).k≠.other) (x:Operand) (lo hi:Option Operand) {sz l u:Nat} {es:List (List FV)} (ex:s.ev x=.list sz es) (aK:(c.ty e).size=sz) (c6:s.lo lo l) (cI:s.hi hi es.length u) (h1:l≤u) (h2:u≤es.length) :
   ax c s d (.slice T x lo hi none) (.list sz ((es.drop l).take (u - l))) []
 | eP {T e:Nat} (hT:(c.ty T).k=.slice e) (he:(c.ty e).k ≠ .other) (x:Operand) (lo hi:Option Operand) (ex:s.ev x=.nil) (c6:s.lo lo 0) (cI:s.hi hi 0 0):ax c s d (.slice T x lo hi none) .nil []
 | extract (x:Operand) {i:Nat} {fs:List FV} {f:FV} (ex:s.ev x=.bS fs) (hf:fs[i]? = some f) (hn:f.hand=none):ax c s d (.extract x i) f []
 | nilPtr (x:Operand) {id aa i o:Nat} (ex:s.ev x=.ptr id aa i o) (hl:s.live id aa):ax c s d (.nilCheck x) (.ptr id aa i o) []
 | fE (x:Operand) {sz i o:Nat} {es:List (List FV)} (ex:s.ev x=.ay sz es i o):ax c s d (.nilCheck x) (.ay sz es i o) []
 | append {T e:Nat} (hT:(c.ty T).k=.slice e) (he:(c.ty e).k≠.other) (bC:0<(c.ty e).size) (x y:Operand) {f1 f2:FV} {bN aB:List (List FV)} {i:Option Nat} (ex:s.ev x=f1) (ey:s.ev y=f2) (h1:jq s f1 (c.ty e).size bN i) (hE:∀ k,i=some k→(s.ob k).E=e)
   (h2:Src s f2 (c.ty e).size aB) (hb:(bN.length+aB.length) * (c.ty e).bytes≤140737488355328) (hm:bN.length+aB.length≤140737488355328) :
   ax c s d (.call { callee:=.builtin .append,args:=#[x,y],argTypes:=#[T,T] }) (.own d ((s.ob d).aa+1) 0 (bN++aB).length) (YE s d e (c.ty e).size (bN++aB) i)
 | fh {T e:Nat} (hT:(c.ty T).k=.slice e) (he:(c.ty e).k≠.other) (bC:0<(c.ty e).size) (x y:Operand) {f1 f2:FV} {bN aB:List (List FV)} {i:Option Nat} (ex:s.ev x=f1) (ey:s.ev y=f2) (h1:jq s f1 (c.ty e).size bN i) (hE:∀ k,i=some k→(s.ob k).E=e)
   (h2:Src s f2 (c.ty e).size aB) (hb:(bN.length+aB.length) * (c.ty e).bytes≤140737488355328) (hm:bN.length+aB.length≤140737488355328) :
   ax c s d (.call { callee:=.builtin .append,args:=#[x,y],argTypes:=#[T,T] }) (.list (c.ty e).size (bN++aB)) (YE s d e (c.ty e).size (bN++aB) i++[(d,⟨(s.ob d).aa+1,.dead,e,(c.ty e).size,bN++aB⟩)])
 | call {f:Nat} {xs:Array Operand} {ts:Array TypeId} {m:eW} {gs:List FV} {res:FV} (hs:zP c.P f gs m res) (hm:m=.fr ∨ m=.sh) (hx:Yo s m xs.toList gs):ax c s d (.call { callee := .value (.func f), args := xs, argTypes := ts }) res []
 | et {f:Nat} {x:Operand} {xs:Array Operand} {ts:Array TypeId} {m:eW} {gs aF:List FV} {res:FV} (ex:s.ev x=.fn f aF) (hs:zP c.P f (gs ++ aF) m res) (hm:m=.fr ∨ m=.sh) (hx:Yo s m xs.toList gs):ax c s d (.call { callee := .value x, args := xs, argTypes := ts }) res []
 | eK {f:Nat} {xs:Array Operand} {aF:List FV} (hx:xs.toList.map s.ev=aF) (hc:∀ g ∈ aF, g.hand=none):ax c s d (.makeFunc (.func f) #[] xs) (.fn f aF) []
 | fo {f:Nat} {xs:Array Operand} {ts:Array TypeId} {E sz:Nat} {gs:List FV} {es:List (List FV)} (hs:zP c.P f gs (.ow E sz) (.list sz es)) (hx:Yo s (.ow E sz) xs.toList gs) :
   ax c s d (.call { callee:=.value (.func f),args:=xs,argTypes:=ts }) (.own d ((s.ob d).aa+1) 0 es.length) [(d,⟨(s.ob d).aa+1,.own,E,sz,es⟩)]
 | fg {T e:Nat} (hT:(c.ty T).k=.slice e) (he:(c.ty e).k≠.other) (bC:0<(c.ty e).size) (x y:Operand) {id aa o n:Nat} (ex:s.ev x=.own id aa o n) (bk:(s.ob id).ag=.roomy) (aC:(s.ob id).aa=aa)
   (hE:(s.ob id).E=e) (aK:(s.ob id).sz=(c.ty e).size) (fO:o+n=(s.ob id).es.length) {f2:FV} {aB:List (List FV)} (ey:s.ev y=f2) (h2:Src s f2 (c.ty e).size aB) (h1:aB.length=1) :
   ax c s d (.call { callee:=.builtin .append,args:=#[x,y],argTypes:=#[T,T] }) (.own d ((s.ob d).aa+1) o (n+1)) [(id,{ s.ob id with ag:=.dead }),(d,⟨(s.ob d).aa+1,.own,e,(c.ty e).size,(s.ob id).es++aB⟩)]
 | ff {T e:Nat} (hT:(c.ty T).k=.slice e) (he:(c.ty e).k≠.other) (bC:0<(c.ty e).size) (x y:Operand) {id aa o n:Nat} (ex:s.ev x=.own id aa o n) (bk:(s.ob id).ag=.full) (aC:(s.ob id).aa=aa)
   (hE:(s.ob id).E=e) (aK:(s.ob id).sz=(c.ty e).size) (fO:o+n=(s.ob id).es.length) {f2:FV} {aB:List (List FV)} (ey:s.ev y=f2) (h2:Src s f2 (c.ty e).size aB) (h1:aB.length=1)
   (hb:(n+1) * (c.ty e).bytes≤140737488355328) (hm:n+1≤140737488355328) :
   ax c s d (.call { callee:=.builtin .append,args:=#[x,y],argTypes:=#[T,T] }) (.own d ((s.ob d).aa+1) 0 (n+1)) [(id,{ s.ob id with ag:=.dead }),(d,⟨(s.ob d).aa+1,.own,e,(c.ty e).size,(s.ob id).es.drop o++aB⟩)]
 | j5 {T:Nat} (hk:(c.ty T).k.aX = some false) (hz:(c.ty T).size=1) (x:Operand) {id aa j:Nat} (ex:s.ev x=.ptr id aa j 0) (bk:(s.ob id).ag=.aw) (aC:(s.ob id).aa=aa) (aK:(s.ob id).sz=1) {f:FV} (hj:(s.ob id).es[j]? = some [f]):ax c s d (.load T x) f []
 | fI {T:Nat} (hk:(c.ty T).k≠.other) (hz:(c.ty T).size=1) (x y:Operand) {id aa j:Nat} (ex:s.ev x=.ptr id aa j 0) (bk:(s.ob id).ag=.aw) (aC:(s.ob id).aa=aa) (aK:(s.ob id).sz=1) {f:FV} (ey:s.ev y=f)
   (hf:mT s f) (hj:j<(s.ob id).es.length):ax c s d (.store T x y) .undef [(id,{ s.ob id with es:=(s.ob id).es.set j [f] })]
 | copy {T T2 e:Nat} (hT:(c.ty T).k=.slice e) (he:(c.ty e).k≠.other) (hz:(c.ty e).size=1) (x y:Operand) {id aa o m:Nat} (ex:s.ev x=.own id aa o m) (bk:(s.ob id).ag=.own) (aC:(s.ob id).aa=aa) (aK:(s.ob id).sz=1) {f2:FV} {aB:List (List FV)} (ey:s.ev y=f2) (h2:Src s f2 1 aB) :
   ax c s d (.call { callee:=.builtin .copy,args:=#[x,y],argTypes:=#[T,T2] }) (.int .i64 ((aB.take m).length:Nat)) [(id,{ s.ob id with es:=ai (s.ob id).es o (aB.take m) })]
 | fD {T:Nat} (hk:(c.ty T).k ≠ .other) (dN:YN c.P T=false) (x:Operand) {f:FV} (ex:s.ev x=f) (hn:f.hand=none):ax c s d (.makeInterface T x) (.iface T f) []
 | eL {T:Nat} (hk:(c.ty T).k ≠ .other) (dN:YN c.P T=false) (x:Operand) {f:FV} (ex:s.ev x=f) (hn:f.cp=true):ax c s d (.makeInterface T x) (.wrap (.pJ T) [f]) []
 | fJ {T T2:Nat} (hk:(c.ty T).k ≠ .other) (dN:YN c.P T=false) (x:Operand) {f:FV} (ex:s.ev x=.iface T f) (hn:f.hand=none):ax c s d (.typeAssert x T2 T false) f []
 | fC {f:Nat} {xs:Array Operand} {aF:List FV} (hx:xs.toList.map s.ev=aF) (hn:aF.all FV.cp=true):ax c s d (.makeFunc (.func f) #[] xs) (.wrap (.fn f) aF) []
 | bound {f:Nat} {xs:Array Operand} {aF:List FV} (hx:xs.toList.map s.ev=aF) (hn:aF.all FV.cp=true):ax c s d (.makeFunc (.func f) xs #[]) (.wrap (.bound f) aF) []
 | jw (op:BinOp) {T T2:Nat} (x y:Operand) {X Y:List FV} {b:Bool} (ex:s.ev x=.agg X) (hX:X.all FV.aH=true) (ey:s.ev y=.agg Y) (hY:Y.all FV.aH=true) (hl:wZ c.P T X Y b) (bM:op=.eql ∨ op=.neq):ax c s d (.binOp op T x y T2) (.bool (if op=.eql then b else !b)) []
 | eA (op:BinOp) {T T2 e:Nat} (hT:(c.ty T).k=.slice e) (x y:Operand) {f:FV} {b:Bool} (ex:s.ev x=f) (hb:mU s f b) (ey:s.ev y=.nil) (bM:op=.eql ∨ op=.neq):ax c s d (.binOp op T x y T2) (.bool (if op=.eql then b else !b)) []
 | makeMap (T:Nat):ax c s d (.makeMap T none) (.omap d ((s.ob d).aa+1)) [(d, ⟨(s.ob d).aa+1, .bl, T, 0, []⟩)]
 | look {T k e:Nat} (hT:(c.ty T).k=.map k e) {bb:Bool} (he:(c.ty e).k.aX = some bb) (K:Keyed c.P k) (x y:Operand) (ok:Bool) {es:List (List FV)} (ex:(∃ id aa,s.ev x=.omap id aa∧(s.live id aa∧(s.ob id).ag≠.bu)∧(s.ob id).es=es)∨s.ev x=.smap es)
   {kf:FV} (ey:s.ev y=kf) (hk:∀ row∈es,∀ kf,row.head? = some kf→XP c.P k kf) (cA:XP c.P k kf) {vf:FV} {found:Bool} (hl:kq es kf (c.ty e).kQ vf found) (hn:vf.hand=none):ax c s d (.lookup T x y ok) (if ok then .bS [vf,.bool found] else vf) []
 | update {T k e:Nat} (hT:(c.ty T).k=.map k e) (K:Keyed c.P k) (x y z:Operand) {id aa:Nat} (ex:s.ev x=.omap id aa) (bk:(s.ob id).ag=.bl) (aC:(s.ob id).aa=aa)
   {kf vf:FV} (ey:s.ev y=kf) (ez:s.ev z=vf) (hk:∀ row∈(s.ob id).es,∀ kf,row.head? = some kf→XP c.P k kf) (cA:XP c.P k kf) (hn:vf.hand=none) {aZ : List (List FV)} (hs:pw (s.ob id).es kf vf aZ) :
   ax c s d (.mapUpdate T x y z) .undef [(id,{ s.ob id with es:=aZ })]
 | iF {op:Op} {wr:List (Nat×zL)} (bO:Vn op=false) (dO:kr op) (hg:∀ s' : ae,(∀ x∈op.operands.toList,s'.ev x=s.ev x)→(∀ id∈Xa s d op,s'.ob id=s.ob id)→
   ∀ (w0:World) (J:JJ) (a:Act) (w:World) (β:Nat→Option Nat) (dst:Option Nat) (ty:TypeId) (pos:String) (after:Array Edge) (g:Option (Nat×Bool)),FR c.N w0 J s' a w β→
    ∃ w',(execOp a.eval ⟨dst,op,ty,pos,after,g⟩).run c.P w=.ok .skip w'∧FR c.N w0 J (s'.wr wr) a w' β):ax c s d op .undef wr
 | ext {op:Op} {f:FV} {wr:List (Nat×zL)} (bO:Vn op=false) (dO:¬ kr op) (hg:∀ s' : ae,(∀ x∈op.operands.toList,s'.ev x=s.ev x)→(∀ id∈Xa s d op,s'.ob id=s.ob id)→
   ∀ (w0:World) (J:JJ) (a:Act) (w:World) (β:Nat→Option Nat) (ty:TypeId) (pos:String) (after:Array Edge) (g:Option (Nat×Bool)),d<c.N→FR c.N w0 J s' a w β→
    ∀ (K:Act→World→Prop) (Q:Exit→Act→World→Prop),(∀ a' w' aE,FR c.N w0 J ((s'.wr wr).put d f) a' w' aE→K a' w')→(⟨some d,op,ty,pos,after,g⟩:Oper).wp c.P a w K Q):ax c s d op f wr
def ae.g5 (s:ae):Option Nat→FV→ae
 | some d, f => s.put d f
 | none, _ => s
def ae.app (s:ae) (dst:Option Nat) (f:FV) (wr:List (Nat×zL)):ae:=(s.wr wr).g5 dst f
section
variable {c:Ctx} {w0 w:World} {J:JJ} {s:ae} {a:Act} {β:Nat→Option Nat}
theorem xz.wp {o:Oper} {f:FV} {wr:List (Nat×zL)} (h:xz c w0 J s a o w f wr) (hd:∀ d,o.dst=some d→d<c.N) (hK:∀ a' w' aE,FR c.N w0 J (s.app o.dst f wr) a' w' aE→K a' w'):o.wp c.P a w K Q:=by
 obtain ⟨v,w',aE,hr,hF,hV,aC⟩:=h;unfold Oper.wp;rw [hr,Oper.upon_value];unfold ae.app at hK;cases hdd:o.dst with
 | none => rw [hdd] at hK; exact hK _ _ _ hF
 | some d => rw [hdd] at hK; exact hK _ _ _ (hF.put (hd d hdd) hV aC)
theorem ax.sound {f:FV} {wr:List (Nat×zL)} (h:ax c s d op f wr) (hF:FR c.N w0 J s a w β) (o:Oper) (ho:o.op=op) (hd:o.dst=some d∨(o.dst=none∧kr op)) (bn:∀ d,o.dst=some d→d<c.N)
(hK : ∀ a' w' aE,FR c.N w0 J (s.app o.dst f wr) a' w' aE→K a' w'):o.wp c.P a w K Q:=by
 obtain ⟨dst,pM,ty,pos,after,g⟩:=o;dsimp only at ho hd bn hK;subst ho;by_cases bO:kr pM
 ·rcases bO with ⟨T,x,y,rfl⟩|⟨T,x,y,z,rfl⟩
  ·cases h with
   | ext bO dO hg => exact absurd (.inl ⟨_, _, _, rfl⟩) dO
   | iF bO dO hg =>
    obtain ⟨w',h1,h2⟩:=hg s (fun _ _=>rfl) (fun _ _=>rfl) w0 J a w β dst ty pos after g hF;unfold Oper.wp;rw [h1,Yt];unfold ae.app at hK;cases dst with
    | none => exact hK _ _ _ h2
    | some d => exact hK _ _ _ (h2.put (bn d rfl) (VR.bt (.undef _) rfl) (fun id aa e => by cases e))
   | store hk x y ex hl hv ey hf bY hj ho =>
    obtain ⟨w',h1,h2⟩:=DA (dst:=dst) (ty:=ty) (pos:=pos) (after:=after) (g:=g) hF hk x y ex hl hv ey hf bY hj ho;unfold Oper.wp;rw [h1,Yt];unfold ae.app at hK;cases dst with
    | none => exact hK _ _ _ h2
    | some d => exact hK _ _ _ (h2.put (bn d rfl) (VR.bt (.undef _) rfl) (fun id aa e => by cases e))
   | fI hk hz x y ex bk aC aK ey hf hj =>
    obtain ⟨w',h1,h2⟩:=Cs (dst:=dst) (ty:=ty) (pos:=pos) (after:=after) (g:=g) hF hk hz x y ex bk aC aK ey hf hj;unfold Oper.wp;rw [h1,Yt];unfold ae.app at hK;cases dst with
    | none => exact hK _ _ _ h2
    | some d => exact hK _ _ _ (h2.put (bn d rfl) (VR.bt (.undef _) rfl) (fun id aa e => by cases e))
  ·cases h with
   | ext bO dO hg => exact absurd (.inr ⟨_, _, _, _, rfl⟩) dO
   | iF bO dO hg =>
    obtain ⟨w',h1,h2⟩:=hg s (fun _ _=>rfl) (fun _ _=>rfl) w0 J a w β dst ty pos after g hF;unfold Oper.wp;rw [h1,Yt];unfold ae.app at hK;cases dst with
    | none => exact hK _ _ _ h2
    | some d => exact hK _ _ _ (h2.put (bn d rfl) (VR.bt (.undef _) rfl) (fun id aa e => by cases e))
   | update hT K x y z ex bk aC ey ez hk cA hn hs =>
    obtain ⟨w',h1,h2⟩:=Uy (dst:=dst) (ty:=ty) (pos:=pos) (after:=after) (g:=g) hF hT K x y z ex bk aC ey ez hk cA hn hs;unfold Oper.wp;rw [h1,Yt];unfold ae.app at hK;cases dst with
    | none => exact hK _ _ _ h2
    | some d => exact hK _ _ _ (h2.put (bn d rfl) (VR.bt (.undef _) rfl) (fun id aa e => by cases e))
 ·obtain rfl:dst=some d:=by
   rcases hd with h'|⟨_,h'⟩
   ·exact h'
   ·exact absurd h' bO
  cases h with
  | iF AZ dO hg => exact absurd dO bO
  | ext bO dO hg => exact hg s (fun _ _ => rfl) (fun _ _ => rfl) w0 J a w β ty pos after g (bn d rfl) hF K Q hK
  | move x => exact (DT hF x).wp bn hK
  | assign x => exact (Cd hF x).wp bn hK
  | pick fY x y hb => exact (DU hF fY x y hb).wp bn hK
  | cF op T T2 x y ex ey hf => exact (DP hF op T T2 x y ex ey hf).wp bn hK
  | j4 op T T2 x y ex ey hn bM => exact (DQ hF op T T2 x y ex ey hn bM).wp bn hK
  | kz op x y hT ex ey bM => exact (DM hF op x y hT ex ey bM).wp bn hK
  | not T x ex => exact (EC hF T x ex).wp bn hK
  | shift op T T2 x y ex ey hn bM => exact (Dz hF op T T2 x y ex ey hn bM).wp bn hK
  | conv hT lU x ex => exact (DN hF hT lU x ex).wp bn hK
  | neg T x ex => exact (EB hF T x ex).wp bn hK
  | min2 bi T T2 x y ex ey dQ => exact (DS hF bi T T2 x y ex ey dQ).wp bn hK
  | fB hT x ex hl => exact (BO hF hT x ex hl).wp bn hK
  | ef hT x ex => exact (BV hF hT x ex).wp bn hK
  | fA hT x ex => exact (BN hF hT x ex).wp bn hK
  | dw hT hf dR aK x ex hl => exact (Bx hF hT hf dR aK x ex hl).wp bn hK
  | cR hT hf dR aK x ex => exact (Ut hF hT hf dR aK x ex).wp bn hK
  | cT hT he x y ex aK ey h1 => exact (Uv hF hT he x y ex aK ey h1).wp bn hK
  | dB hT he x y ex hl aK ey h1 => exact (By hF hT he x y ex hl aK ey h1).wp bn hK
  | dK hT he x y ex hl ey h1 => exact (Uu hF hT he x y ex hl ey h1).wp bn hK
  | di hT he x y ex ey h1 => exact (VA hF hT he x y ex ey h1).wp bn hK
  | cx hk x ex hj ho eG => exact (Bz hF hk x ex hj ho eG).wp bn hK
  | cU hk x ex hl bo hj ho eG => exact (WO hF hk x ex hl bo hj ho eG).wp bn hK
  | store hk x y ex hl hv ey hf bY hj ho => exact absurd (.inl ⟨_, _, _, rfl⟩) bO
  | fI hk hz x y ex bk aC aK ey hf hj => exact absurd (.inl ⟨_, _, _, rfl⟩) bO
  | j5 hk hz x ex bk aC aK hj => exact (Dy hF hk hz x ex bk aC aK hj).wp bn hK
  | fg hT he bC x y ex bk aC hE aK fO ey h2 h1 => exact (BK hF d hT he bC x y ex bk aC hE aK fO ey h2 h1).wp bn hK
  | ff hT he bC x y ex bk aC hE aK fO ey h2 h1 hb hm => exact (BJ hF d hT he bC x y ex bk aC hE aK fO ey h2 h1 hb hm).wp bn hK
  | update hT K x y z ex bk aC ey ez hk cA hn hs => exact absurd (.inr ⟨_, _, _, _, rfl⟩) bO
  | makeMap T => exact (Vt hF d T).wp bn hK
  | look hT he K x y ok ex ey hk cA hl hn => exact (DR hF hT he K x y ok ex ey hk cA hl hn).wp bn hK
  | alloc hk hz => exact (Dt hF d hk hz).wp bn hK
  | box x ex hf => exact (EA hF d x ex hf).wp bn hK
  | build hT jf ps hf => exact (Dv hF hT jf ps hf).wp bn hK
  | gL hT he ps hf => exact (Ce hF hT he ps hf).wp bn hK
  | buildSlice hT he ps es hn hw ho df gl hf => exact (Us hF d hT he ps es hn hw ho df gl hf).wp bn hK
  | bT hT he ps es hn hw ho df gl hf => exact (Vz hF d hT he ps es hn hw ho df gl hf).wp bn hK
  | makeSlice hT he x y ex ey ho hb hn => exact (BA hF d hT he x y ex ey ho hb hn).wp bn hK
  | eQ hT he x lo hi ex hl aK c6 cI h1 h2 => exact (BD hF hT he x lo hi ex hl aK c6 cI h1 h2).wp bn hK
  | cW hT he x lo hi ex aK c6 cI h1 h2 => exact (Ux hF hT he x lo hi ex aK c6 cI h1 h2).wp bn hK
  | eP hT he x lo hi ex c6 cI => exact (BC hF hT he x lo hi ex c6 cI).wp bn hK
  | extract x ex hf hn => exact (BM hF x ex hf hn).wp bn hK
  | nilPtr x ex hl => exact (Vi hF x ex hl).wp bn hK
  | fE x ex => exact (WQ hF x ex).wp bn hK
  | append hT he bC x y ex ey h1 hE h2 hb hm => exact (Ur hF d hT he bC x y ex ey h1 hE h2 hb hm).wp bn hK
  | fh hT he bC x y ex ey h1 hE h2 hb hm => exact (BL hF d hT he bC x y ex ey h1 hE h2 hb hm).wp bn hK
  | call hs hm hx=>
   rename_i fi xs ts m gs;refine wm hF hs hx (fun v w' hb hr=>?_);have hG:=hF.grow hb;have gV:∀ b,w.heap.size≤b∧b<w'.heap.size→aG J w' β s b∧w'.heap[b]? = w'.heap[b]?:=fun b bB=>⟨⟨bB.2,hF.fresh b (zR hF.bL.size bB.1) (.inl bB.1),fun id hl e=>by
    have:=((hF.obj id (xC.aU hl)).lt e).2;omega⟩,rfl⟩
   have iQ:Rd w' (aG J w' β s) v f:=by
    rcases hm with rfl|rfl
    ·exact Rd.mono gV hr
    ·refine Rd.mono (fun b bB=>?_) hr;rcases bB with h1|h1
     ·exact ⟨(aG.grow (by simpa [fU] using h1) hb).1,rfl⟩
     ·exact gV b h1
   exact hK _ _ _ (hG.put (bn d rfl) (VR.bt iQ hs.hand) (fun id aa e=>(FV.aT hs.hand e).elim))
  | et ex hs hm hx=>
   refine Eu hF ex hs hx (fun v w' hb hr=>?_);have hG:=hF.grow hb;have gV:∀ b,w.heap.size≤b∧b<w'.heap.size→aG J w' β s b∧w'.heap[b]? = w'.heap[b]?:=fun b bB=>⟨⟨bB.2,hF.fresh b (zR hF.bL.size bB.1) (.inl bB.1),fun id hl e=>by
    have:=((hF.obj id (xC.aU hl)).lt e).2;omega⟩,rfl⟩
   have iQ:Rd w' (aG J w' β s) v f:=by
    rcases hm with rfl|rfl
    ·exact Rd.mono gV hr
    ·refine Rd.mono (fun b bB=>?_) hr;rcases bB with h1|h1
     ·exact ⟨(aG.grow (by simpa [fU] using h1) hb).1,rfl⟩
     ·exact gV b h1
   exact hK _ _ _ (hG.put (bn d rfl) (VR.bt iQ hs.hand) (fun id aa e=>(FV.aT hs.hand e).elim))
  | eK hx hc => exact (Cg hF hx hc).wp bn hK
  | copy hT hk hz x y ex bk aC aK ey h2 => exact (DO hF hT hk hz x y ex bk aC aK ey h2).wp bn hK
  | fD hk dN x ex hn => exact (Ck hF hk dN x ex hn).wp bn hK
  | eL hk dN x ex hn => exact (BW hF hk dN x ex hn).wp bn hK
  | fJ hk dN x ex hn => exact (Cm hF hk dN x ex hn).wp bn hK
  | fC hx hn => exact (Cj hF hx hn).wp bn hK
  | bound hx hn => exact (Du hF hx hn).wp bn hK
  | jw op x y ex hX ey hY hl bM => exact (Dw hF op x y ex hX ey hY hl bM).wp bn hK
  | eA op hT x y ex hb ey bM => exact (Dx hF op hT x y ex hb ey bM).wp bn hK
  | fo hs hx=>
   rename_i fi xs ts E sz gs es;refine wm hF hs hx (fun v w' hb hr=>?_);obtain ⟨aZ,us,e,hw,ho,aw,bo⟩:=hr;injection e with _ e
   subst e;have hG:=hF.grow hb;have iO:=aw.lt;have Af:∀ b,(w.heap.size≤b∧b<w'.heap.size∧v.ownBlock≠some b)→aG J w' (Vp β d v.ownBlock) (s.set d ⟨(s.ob d).aa+1,.own,E,sz,es⟩) b:=fun b bB=>⟨bB.2.1,hF.fresh b (zR hF.bL.size bB.1) (.inl bB.1),fun id hl e=>by
    rw [ae.aq] at hl;unfold Vp at e;split at hl
    ·rename_i hh;rw [if_pos hh.symm] at e;exact bB.2.2 e
    ·rename_i hh;rw [if_neg (fun e=>hh e.symm)] at e;have:=((hF.obj id (xC.aU hl)).lt e).2;omega⟩
   have hM:FR c.N w0 J (s.set d ⟨(s.ob d).aa+1,.own,E,sz,es⟩) a w' (Vp β d v.ownBlock):=by
    have hI:∀ b,aG J w β s b→aG J w' (Vp β d v.ownBlock) (s.set d ⟨(s.ob d).aa+1,.own,E,sz,es⟩) b∧w'.heap[b]? = w.heap[b]?:=fun b aJ=>by
     refine ⟨⟨Zw aJ.1 hb.size,aJ.2.1,fun id hl=>?_⟩,hb.block b aJ.1⟩;rw [ae.aq] at hl;unfold Vp;split at hl
     ·rename_i hh;rw [if_pos hh.symm];intro e;have:=(iO b e).1;have:=aJ.1;omega
     ·rename_i hh;rw [if_neg (fun e=>hh e.symm)];exact aJ.2.2 id hl
    refine hF.step (C:=fun id=>id=d) hF.size hF.defers (hF.bL.trans (hb.mono hF.bL.size)) hI (fun k=>.inl ⟨rfl,rfl⟩) (fun id hC=>?_) (fun id hC=>?_) (fun id hC hl dS=>?_) (fun id hC hl _=>?_) ?_ ?_
    ·refine ⟨by rw [ae.aq,if_neg (fun e=>hC e.symm)],by unfold Vp;rw [if_neg hC],fun hl b aJ=>hb.block b ((hF.obj id hl).lt aJ).2⟩
    ·subst hC;rw [ae.aq,if_pos rfl];exact Nat.le_succ _
    ·subst hC;rw [ae.aq,if_pos rfl] at dS;simp at dS
    ·subst hC;rw [ae.aq,if_pos rfl];rw [Zg];exact .ofRow ⟨hw,ho,v,us,vR aw hF.bL.size,rfl,bo.mono (fun b bB=>⟨Af b bB,rfl⟩)⟩ (.own rfl) rfl
    ·intro id aM b hl ba e e';rw [ae.aq] at hl ba;unfold Vp at e e';by_cases h1:id=d
     ·by_cases h2:aM=d
      ·rw [h1,h2]
      ·rw [if_pos h1] at e;rw [if_neg h2] at e';rw [if_neg (fun e=>h2 e.symm)] at ba;have:=(iO b e).1;have:=((hF.obj aM ba).lt e').2;omega
     ·by_cases h2:aM=d
      ·rw [if_neg h1] at e;rw [if_pos h2] at e';rw [if_neg (fun e=>h1 e.symm)] at hl;have:=(iO b e').1;have:=((hF.obj id hl).lt e).2;omega
      ·rw [if_neg h1] at e;rw [if_neg h2] at e';rw [if_neg (fun e=>h1 e.symm)] at hl;rw [if_neg (fun e=>h2 e.symm)] at ba;exact hF.inj id aM b hl ba e e'
    ·intro b az hn;refine ⟨hb.block b az,fun id hl e=>?_⟩;rw [ae.aq] at hl;unfold Vp at e;by_cases h1:id=d
     ·rw [if_pos h1] at e;have:=(iO b e).1;omega
     ·rw [if_neg h1] at e;rw [if_neg (fun e=>h1 e.symm)] at hl;exact hn id hl e
   refine hK _ _ _ (hM.put (bn d rfl) (fun _ _=>?_) (fun id aa e=>?_))
   ·rw [ae.aq,if_pos rfl,Zg];exact Vc.fH aw rfl rfl rfl rfl
   ·simp only [FV.hands,yf,xb] at e;obtain ⟨e1,e2⟩:=e;replace e1:=e1.symm;replace e2:=e2.symm;subst e1;subst e2;rw [ae.aq,if_pos rfl];exact zi _
end
end
section
open Go.RowKit
section
variable {c:Ctx} {s s' : ae}
theorem Src.loc {f:FV} {sz:Nat} {es:List (List FV)} (h:Src s f sz es) (ho:∀ id aa,f.hand=some (id,aa)→s'.ob id=s.ob id):Src s' f sz es:=by
 cases h with
 | nil sz => exact .nil _
 | list sz es => exact .list _ _
 | own id aa o n hl bo =>
  have e:=ho id aa rfl;rw [← e];exact .own id aa o n (by unfold ae.live at *;rw [e];exact hl) (by rw [e];exact bo)
theorem jq.loc {f:FV} {sz:Nat} {es:List (List FV)} {i:Option Nat} (h:jq s f sz es i) (ho:∀ id aa,f.hand=some (id,aa)→s'.ob id=s.ob id):jq s' f sz es i:=by
 cases h with
 | nil sz => exact .nil _
 | own id aa hl hv n hn =>
  have e:=ho id aa rfl;rw [← e];exact .own id aa (by rw [e];exact hl) (by rw [e];exact hv) n (by rw [e];exact hn)
theorem Vx.loc {m:eW} {f g:FV} (h:Vx s m f g) (ho:∀ id aa,f.hand=some (id,aa)→s'.ob id=s.ob id):Vx s' m f g:=by
 cases h with
 | plain f hn => exact .plain _ hn
 | sub f g hn hle => exact .sub _ _ hn hle
 | nil sz => exact .nil _
 | own id aa o n hl bo hm =>
  have e:=ho id aa rfl;rw [← e];exact .own id aa o n (by unfold ae.live at *;rw [e];exact hl) (by rw [e];exact bo) (by rw [e];exact hm)
theorem Yo.loc {m:eW}:∀ {xs:List Operand} {gs:List FV},Yo s m xs gs→(∀ x∈xs,s'.ev x=s.ev x)→(∀ x∈xs,∀ id aa,(s.ev x).hand=some (id,aa)→s'.ob id=s.ob id)→Yo s' m xs gs
 | _, _, .nil, _, _ => .nil
 | _, _, .cons h hs, he, ho => .cons (by rw [he _ zg]; exact h.loc (ho _ zg)) (hs.loc (fun x hx => he x (by simp [hx])) (fun x hx => ho x (by simp [hx])))
theorem sN {l:Nat} (h:s.lo lo l) (he:∀ x∈lo.toList,s'.ev x=s.ev x):s'.lo lo l:=by
 cases lo with
 | none => exact h
 | some y => obtain ⟨k, hk⟩ := h; exact ⟨k, by rw [he y zg]; exact hk⟩
theorem sM {l m:Nat} (h:s.hi lo m l) (he:∀ x∈lo.toList,s'.ev x=s.ev x):s'.hi lo m l:=by
 cases lo with
 | none => exact h
 | some y => obtain ⟨k, hk⟩ := h; exact ⟨k, by rw [he y zg]; exact hk⟩
theorem WT {ps:Array (Nat×Operand)} (he:∀ x∈(ps.toList.map (·.2)),s'.ev x=s.ev x):s'.parts ps=s.parts ps:=by
 unfold ae.parts;refine XB fun p hp=>?_;rw [he p.2 (zM.2 ⟨p,hp,rfl⟩)]
theorem ZU {α γ:Type} {f g:α→Option γ}:∀ {l:List α},(∀ x∈l,f x=g x)→l.filterMap f=l.filterMap g
 | [], _ => rfl
 | x :: l, h => by rw [Xy, Xy, h x zg, ZU fun y hy => h y (by simp [hy])]
theorem ax.loc {f:FV} {wr:List (Nat×zL)} (h:ax c s d op f wr) (he:∀ x∈op.operands.toList,s'.ev x=s.ev x) (bw:∀ id∈Xa s d op,s'.ob id=s.ob id):ax c s' d op f wr:=by
 have hd:=bw d (Ey s d op);cases bO:Vn op with
 | true =>
  cases h <;> first|(cases bO;done)|(rename_i h0 _ _;rw [bO] at h0;cases h0;done)|(rename_i x;rw [← he x zp];first|exact .move x|exact .assign x)
 | false =>
 have hh:∀ x∈op.operands.toList,∀ id aa,(s.ev x).hand=some (id,aa)→s'.ob id=s.ob id:=fun x hx id aa hv=>bw id (WN bO hx hv);have ah:∀ id aa,s'.ob id=s.ob id→s.live id aa→s'.live id aa:=fun id aa e hl=>by unfold ae.live at *;rw [e];exact hl
 cases h with
 | move x => rw [← he x zp]; exact .move x
 | assign x => rw [← he x zp]; exact .assign x
 | pick fY x y hb => rw [← he x zp, ← he y zp]; exact .pick fY x y (by rw [he fY zp]; exact hb)
 | cF op T T2 x y ex ey hf => exact .cF op T T2 x y (by rw [he x zp]; exact ex) (by rw [he y zp]; exact ey) hf
 | j4 op T T2 x y ex ey hn bM => exact .j4 op T T2 x y (by rw [he x zp]; exact ex) (by rw [he y zp]; exact ey) hn bM
 | kz op x y hT ex ey bM => exact .kz op x y hT (by rw [he x zp]; exact ex) (by rw [he y zp]; exact ey) bM
 | not T x ex => exact .not T x (by rw [he x zp]; exact ex)
 | shift op T T2 x y ex ey hn bM => exact .shift op T T2 x y (by rw [he x zp]; exact ex) (by rw [he y zp]; exact ey) hn bM
 | conv hT lU x ex => exact .conv hT lU x (by rw [he x zp]; exact ex)
 | neg T x ex => exact .neg T x (by rw [he x zp]; exact ex)
 | min2 bi T T2 x y ex ey dQ => exact .min2 bi T T2 x y (by rw [he x yg]; exact ex) (by rw [he y yg]; exact ey) dQ
 | fB hT x ex hl => exact .fB hT x (by rw [he x yg]; exact ex) (ah _ _ (hh x yg _ _ (by rw [ex]; rfl)) hl)
 | ef hT x ex => exact .ef hT x (by rw [he x yg]; exact ex)
 | fA hT x ex => exact .fA hT x (by rw [he x yg]; exact ex)
 | dw hT hf dR aK x ex hl => exact .dw hT hf dR aK x (by rw [he x zp]; exact ex) (ah _ _ (hh x zp _ _ (by rw [ex]; rfl)) hl)
 | cR hT hf dR aK x ex => exact .cR hT hf dR aK x (by rw [he x zp]; exact ex)
 | cT hT hk x y ex aK ey h1 => exact .cT hT hk x y (by rw [he x zp]; exact ex) aK (by rw [he y zp]; exact ey) h1
 | dB hT hk x y ex hl aK ey h1 =>
  have e:=hh x zp _ _ (by rw [ex];rfl);exact .dB hT hk x y (by rw [he x zp];exact ex) (ah _ _ e hl) (by rw [e];exact aK) (by rw [he y zp];exact ey) h1
 | dK hT hk x y ex hl ey h1 => exact .dK hT hk x y (by rw [he x zp]; exact ex) (ah _ _ (hh x zp _ _ (by rw [ex]; rfl)) hl) (by rw [he y zp]; exact ey) h1
 | di hT hk x y ex ey h1 => exact .di hT hk x y (by rw [he x zp]; exact ex) (by rw [he y zp]; exact ey) h1
 | cx hk x ex hj ho eG => exact .cx hk x (by rw [he x zp]; exact ex) hj ho eG
 | cU hk x ex hl bo hj ho eG =>
  have e:=hh x zp _ _ (by rw [ex];rfl);rw [← e];exact .cU hk x (by rw [he x zp];exact ex) (ah _ _ e hl) (by rw [e];exact bo) (by rw [e];exact hj) (by rw [e];exact ho) (by rw [e];exact eG)
 | store hk x y ex hl hv ey hf bY hj ho =>
  have e:=hh x zp _ _ (by rw [ex];rfl);rw [← e];exact .store hk x y (by rw [he x zp];exact ex) (by rw [e];exact hl) (by rw [e];exact hv) (by rw [he y zp];exact ey) hf bY (by rw [e];exact hj) (by rw [e];exact ho)
 | alloc hk hz => rw [← hd]; exact .alloc hk hz
 | box x ex hf => rw [← hd]; exact .box x (by rw [he x zp]; exact ex) hf
 | build hT jf ps hf => exact .build hT jf ps (by rw [WT (fun x hx => he x (by simpa [Op.operands] using hx))]; exact hf)
 | gL hT hk ps hf => exact .gL hT hk ps (by rw [WT (fun x hx => he x (by simpa [Op.operands] using hx))]; exact hf)
 | buildSlice hT hk ps es hn hw ho df gl hf => rw [← hd]; exact .buildSlice hT hk ps es hn hw ho df gl (by rw [WT (fun x hx => he x (by simpa [Op.operands] using hx))]; exact hf)
 | bT hT hk ps es hn hw ho df gl hf => exact .bT hT hk ps es hn hw ho df gl (by rw [WT (fun x hx => he x (by simpa [Op.operands] using hx))]; exact hf)
 | makeSlice hT hk x y ex ey ho hb hn => rw [← hd]; exact .makeSlice hT hk x y (by rw [he x zp]; exact ex) (by rw [he y zp]; exact ey) ho hb hn
 | eQ hT hk x lo hi ex hl aK c6 cI h1 h2 =>
  have e:=hh x zp _ _ (by rw [ex];rfl);exact .eQ hT hk x lo hi (by rw [he x zp];exact ex) (ah _ _ e hl) (by rw [e];exact aK) (sN c6 (fun y hy=>he y (by cases lo <;> simp_all [Op.operands]))) (sM cI (fun y hy=>he y (by cases hi <;> simp_all [Op.operands]))) h1 h2
 | cW hT hk x lo hi ex aK c6 cI h1 h2 =>
  exact .cW hT hk x lo hi (by rw [he x zp];exact ex) aK (sN c6 (fun y hy=>he y (by cases lo <;> simp_all [Op.operands]))) (sM cI (fun y hy=>he y (by cases hi <;> simp_all [Op.operands]))) h1 h2
 | eP hT hk x lo hi ex c6 cI =>
  exact .eP hT hk x lo hi (by rw [he x zp];exact ex) (sN c6 (fun y hy=>he y (by cases lo <;> simp_all [Op.operands]))) (sM cI (fun y hy=>he y (by cases hi <;> simp_all [Op.operands])))
 | extract x ex hf hn => exact .extract x (by rw [he x zp]; exact ex) hf hn
 | nilPtr x ex hl => exact .nilPtr x (by rw [he x zp]; exact ex) (ah _ _ (hh x zp _ _ (by rw [ex]; rfl)) hl)
 | fE x ex => exact .fE x (by rw [he x zp]; exact ex)
 | append hT hk bC x y ex ey h1 hE h2 hb hm=>
  rename_i T e f1 f2 bN aB i;have e1:∀ id aa,f1.hand=some (id,aa)→s'.ob id=s.ob id:=fun id aa hv=>hh x yg id aa (by rw [ex];exact hv);have e2:∀ id aa,f2.hand=some (id,aa)→s'.ob id=s.ob id:=fun id aa hv=>hh y yg id aa (by rw [ey];exact hv);have kd:=h1.loc e1;have hi:∀ k,i=some k→s'.ob k=s.ob k:=fun k hk=>by
   generalize (c.ty e).size=sz at h1;cases h1 with
   | nil => cases hk
   | own id aa hl hv n hn => injection hk with hk; subst hk; exact e1 id aa rfl
  have hw:YE s d e (c.ty e).size (bN++aB) i=YE s' d e (c.ty e).size (bN++aB) i:=by
   cases i with
   | none => simp only [YE, hd]
   | some k => simp only [YE, hd, hi k rfl]
  rw [← hd,hw];exact .append hT hk bC x y (by rw [he x yg];exact ex) (by rw [he y yg];exact ey) kd (fun k hk=>by rw [hi k hk];exact hE k hk) (h2.loc e2) hb hm
 | fh hT hk bC x y ex ey h1 hE h2 hb hm=>
  rename_i T e f1 f2 bN aB i;have e1:∀ id aa,f1.hand=some (id,aa)→s'.ob id=s.ob id:=fun id aa hv=>hh x yg id aa (by rw [ex];exact hv);have e2:∀ id aa,f2.hand=some (id,aa)→s'.ob id=s.ob id:=fun id aa hv=>hh y yg id aa (by rw [ey];exact hv);have kd:=h1.loc e1;have hi:∀ k,i=some k→s'.ob k=s.ob k:=fun k hk=>by
   generalize (c.ty e).size=sz at h1;cases h1 with
   | nil => cases hk
   | own id aa hl hv n hn => injection hk with hk; subst hk; exact e1 id aa rfl
  have hw:YE s d e (c.ty e).size (bN++aB) i=YE s' d e (c.ty e).size (bN++aB) i:=by
   cases i with
   | none => simp only [YE, hd]
   | some k => simp only [YE, hd, hi k rfl]
  rw [← hd,hw];exact .fh hT hk bC x y (by rw [he x yg];exact ex) (by rw [he y yg];exact ey) kd (fun k hk=>by rw [hi k hk];exact hE k hk) (h2.loc e2) hb hm
 | fg hT hk bC x y ex bk aC hE aK fO ey h2 h1=>
  have e:=hh x yg _ _ (by rw [ex];rfl);rw [← hd,← e];exact .fg hT hk bC x y (by rw [he x yg];exact ex) (by rw [e];exact bk) (by rw [e];exact aC) (by rw [e];exact hE) (by rw [e];exact aK) (by rw [e];exact fO)
   (by rw [he y yg];exact ey) (h2.loc fun id aa hv=>hh y yg id aa (by rw [ey];exact hv)) h1
 | ff hT hk bC x y ex bk aC hE aK fO ey h2 h1 hb hm=>
  have e:=hh x yg _ _ (by rw [ex];rfl);rw [← hd,← e];exact .ff hT hk bC x y (by rw [he x yg];exact ex) (by rw [e];exact bk) (by rw [e];exact aC) (by rw [e];exact hE) (by rw [e];exact aK) (by rw [e];exact fO)
   (by rw [he y yg];exact ey) (h2.loc fun id aa hv=>hh y yg id aa (by rw [ey];exact hv)) h1 hb hm
 | j5 hk hz x ex bk aC aK hj =>
  have e:=hh x zp _ _ (by rw [ex];rfl);exact .j5 hk hz x (by rw [he x zp];exact ex) (by rw [e];exact bk) (by rw [e];exact aC) (by rw [e];exact aK) (by rw [e];exact hj)
 | fI hk hz x y ex bk aC aK ey hf hj =>
  have e:=hh x zp _ _ (by rw [ex];rfl);rw [← e];refine .fI hk hz x y (by rw [he x zp];exact ex) (by rw [e];exact bk) (by rw [e];exact aC) (by rw [e];exact aK) (by rw [he y zp];exact ey) ?_ (by rw [e];exact hj);rcases hf with h1|⟨aM,bI,o,n,rfl,hl⟩|⟨aM,bI,o,n,rfl,hl⟩|hw|⟨aM,bI,rfl,hl⟩
  ·exact .inl h1
  ·exact .inr (.inl ⟨aM,bI,o,n,rfl,ah _ _ (hh y zp _ _ (by rw [ey];rfl)) hl⟩)
  ·exact .inr (.inr (.inl ⟨aM,bI,o,n,rfl,ah _ _ (hh y zp _ _ (by rw [ey];rfl)) hl⟩))
  ·exact .inr (.inr (.inr (.inl hw)))
  ·exact .inr (.inr (.inr (.inr ⟨aM,bI,rfl,ah _ _ (hh y zp _ _ (by rw [ey];rfl)) hl⟩)))
 | makeMap T => rw [← hd]; exact .makeMap T
 | jw op x y ex hX ey hY hl bM => exact .jw op x y (by rw [he x zp]; exact ex) hX (by rw [he y zp]; exact ey) hY hl bM
 | eA op hT x y ex hb ey bM=>
  rename_i T T2 e f b;have bB : mU s' f b:=by
   cases hb with
   | nil => exact .nil
   | own id aa o n hl hn => exact .own id aa o n (ah _ _ (hh x zp _ _ (by rw [ex]; rfl)) hl) hn
   | list sz es hn => exact .list sz es hn
  exact .eA op hT x y (by rw [he x zp];exact ex) bB (by rw [he y zp];exact ey) bM
 | copy hT hk hz x y ex bk aC aK ey h2=>
  have e:=hh x yg _ _ (by rw [ex];rfl);rw [← e];exact .copy hT hk hz x y (by rw [he x yg];exact ex) (by rw [e];exact bk) (by rw [e];exact aC) (by rw [e];exact aK) (by rw [he y yg];exact ey)
   (h2.loc fun id aa hv=>hh y yg id aa (by rw [ey];exact hv))
 | fD hk dN x ex hn => exact .fD hk dN x (by rw [he x zp]; exact ex) hn
 | eL hk dN x ex hn => exact .eL hk dN x (by rw [he x zp]; exact ex) hn
 | fJ hk dN x ex hn => exact .fJ hk dN x (by rw [he x zp]; exact ex) hn
 | fC hx hn => exact .fC (by rw [← hx]; exact XB fun y hy => he y (by simp [Op.operands] at hy ⊢; exact hy)) hn
 | bound hx hn => exact .bound (by rw [← hx]; exact XB fun y hy => he y (by simp [Op.operands] at hy ⊢; exact hy)) hn
 | look hT hk K x y ok ex ey gD cA hl hn=>
  refine .look hT hk K x y ok ?_ (by rw [he y zp];exact ey) gD cA hl hn;rcases ex with ⟨id,aa,e1,e2,e3⟩|e1
  ·have e:=hh x zp _ _ (by rw [e1];rfl);exact .inl ⟨id,aa,by rw [he x zp];exact e1,⟨ah _ _ e e2.1,by rw [e];exact e2.2⟩,by rw [e];exact e3⟩
  ·exact .inr (by rw [he x zp];exact e1)
 | update hT K x y z ex bk aC ey ez hk cA hn hs =>
  have e:=hh x zp _ _ (by rw [ex];rfl);rw [← e];exact .update hT K x y z (by rw [he x zp];exact ex) (by rw [e];exact bk) (by rw [e];exact aC) (by rw [he y zp];exact ey) (by rw [he z zp];exact ez) (by rw [e];exact hk) cA hn (by rw [e];exact hs)
 | call hs hm hx => exact .call hs hm (hx.loc (fun x hx => he x (by simp [Op.operands, Call.operands] at hx ⊢; exact .inr hx)) (fun x hx => hh x (by simp [Op.operands, Call.operands] at hx ⊢; exact .inr hx)))
 | @et f x xs ts m gs aF res ex hs hm hx => exact .et (by rw [he x yg]; exact ex) hs hm (hx.loc (fun y hy => he y (by simp [Op.operands, Call.operands] at hy ⊢; exact .inr hy)) (fun y hy => hh y (by simp [Op.operands, Call.operands] at hy ⊢; exact .inr hy)))
 | eK hx hc => exact .eK (by rw [← hx]; exact XB fun y hy => he y (by simp [Op.operands] at hy ⊢; exact hy)) hc
 | iF ho hn hg=>
  have kh:Xa s' d op=Xa s d op:=by
   unfold Xa;rw [bO];refine congrArg (d::·) (ZU fun x hx=>?_);rw [he x hx]
  exact .iF ho hn fun kp h1 h2=>hg kp (fun x hx=>(h1 x hx).trans (he x hx)) (fun id hid=>(h2 id (by rw [kh];exact hid)).trans (bw id hid))
 | ext ho hn hg=>
  have kh:Xa s' d op=Xa s d op:=by
   unfold Xa;rw [bO];refine congrArg (d::·) (ZU fun x hx=>?_);rw [he x hx]
  exact .ext ho hn fun kp h1 h2=>hg kp (fun x hx=>(h1 x hx).trans (he x hx)) (fun id hid=>(h2 id (by rw [kh];exact hid)).trans (bw id hid))
 | fo hs hx => rw [← hd]; exact .fo hs (hx.loc (fun x hx => he x (by simp [Op.operands, Call.operands] at hx ⊢; exact .inr hx)) (fun x hx => hh x (by simp [Op.operands, Call.operands] at hx ⊢; exact .inr hx)))
theorem FR.ext {w0:World} (h:FR N w0 J s a w β) (hg:∀ k,s'.get k=s.get k) (ho:∀ k,s'.ob k=s.ob k):FR N w0 J s' a w β:=by
 refine h.step (C:=fun _=>False) h.size h.defers h.bL (fun b hb=>⟨⟨hb.1,hb.2.1,fun id hl=>hb.2.2 id (by rw [← ho];exact hl)⟩,rfl⟩) (fun k=>.inl ⟨rfl,hg k⟩) (fun id _=>⟨ho id,rfl,fun _ _ _=>rfl⟩) (fun _ h=>h.elim) (fun _ h=>h.elim) (fun _ h=>h.elim) ?_ (fun b _ hn=>⟨rfl,fun id hl=>hn id (by rw [← ho];exact hl)⟩);intro id aM b hl ba;rw [ho] at hl ba;exact h.inj id aM b hl ba
end
structure Rec where
 o:Oper
 f:FV
 wr:List (Nat×zL)
 ft:List Nat
 deriving Inhabited
def ae.jt (s:ae) (r:Rec):ae:=s.app r.o.dst r.f r.wr
def sV:FV→Bool→Option Bool
 | .bool v, want => some (v == want)
 | .bS [], _ => some false
 | _, _ => none
theorem DJ {f:FV} {want:Bool} (h:sV f want=some b):(∃ v,f=.bool v∧(v == want)=b)∨(f=.bS []∧b=false):=by
 unfold sV at h;split at h
 ·injection h with h;exact .inl ⟨_,rfl,h⟩
 ·injection h with h;exact .inr ⟨rfl,h.symm⟩
 ·cases h
def ZC (ops:Array Oper) (s:ae) (o:Oper) (b:Bool):Prop:=
 match o.guard with
 | none => b=true
 | some (j, want) => ∃ d v, (ops[j]?).bind (·.dst)=some d ∧ s.get d=v ∧ sV v want=some b
inductive iY (c:Ctx) (ops:Array Oper):ae→List Oper→List Rec→ae→Prop where
 | nil (s:ae):iY c ops s [] [] s
 | step {o:Oper} {rest:List Oper} {s s' : ae} {f:FV} {wr:List (Nat×zL)} {tr:List Rec} {d:Nat} (hw:ZC ops s o true) (hd:o.dst=some d∨(o.dst=none∧kr o.op)) (bn:∀ d,o.dst=some d→d<c.N)
   (he:ax c s d o.op f wr) (hs:iY c ops (s.app o.dst f wr) rest tr s'):iY c ops s (o::rest) (⟨o,f,wr,Xa s d o.op⟩::tr) s'
 | skip {o:Oper} {rest:List Oper} {s s' : ae} {tr:List Rec} (hw:ZC ops s o false) (bn:∀ d, o.dst=some d → d<c.N) (hs:iY c ops (s.app o.dst (.bS []) []) rest tr s'):iY c ops s (o :: rest) (⟨o, .bS [], [], []⟩ :: tr) s'
def kt (c:Ctx) (ops:Array Oper) (s:ae) (r:Rec):Prop:=
 (∀ d,r.o.dst=some d→d<c.N)∧((ZC ops s r.o true∧∃ d,(r.o.dst=some d∨(r.o.dst=none∧kr r.o.op))∧ax c s d r.o.op r.f r.wr∧r.ft=Xa s d r.o.op)∨(ZC ops s r.o false∧r.f=.bS []∧r.wr=[]∧r.ft=[]))
def sig (tr:List Rec) (s0:ae) (S:Nat→Bool):Nat→ae
 | 0 => s0
 | k+1 => if S k then (sig tr s0 S k).jt (tr.getD k default) else sig tr s0 S k
theorem ZK (r:Rec) (tr:List Rec) (s0:ae) (S:Nat→Bool):∀ k,sig (r::tr) s0 S (k+1)=sig tr (if S 0 then s0.jt r else s0) (fun j=>S (j+1)) k
 | 0 => by simp [sig]
 | k+1 => by
  rw [sig,ZK r tr s0 S k];simp [sig]
theorem iY.at {s:ae} {l:List Oper} {tr:List Rec} {s' : ae} (h:iY c ops s l tr s'):tr.length=l.length∧s'=sig tr s (fun _=>true) tr.length∧
  ∀ k,k<l.length→(tr.getD k default).o=l.getD k default∧kt c ops (sig tr s (fun _=>true) k) (tr.getD k default):=by
 induction h with
 | nil s => exact ⟨rfl, rfl, fun k hk => by simp at hk⟩
 | @step o rest s s' f wr tr d hw hd bn he hs ih=>
  obtain ⟨h1,h2,h3⟩:=ih;refine ⟨by simp [h1],?_,fun k hk=>?_⟩
  ·rw [xo,ZK];exact h2
  ·cases k with
   | zero => exact ⟨rfl, bn, .inl ⟨hw, d, hd, he, rfl⟩⟩
   | succ k =>
    rw [ZK];exact h3 k (by simpa using hk)
 | @skip o rest s s' tr hw bn hs ih=>
  obtain ⟨h1,h2,h3⟩:=ih;refine ⟨by simp [h1],?_,fun k hk=>?_⟩
  ·rw [xo,ZK];exact h2
  ·cases k with
   | zero => exact ⟨rfl, bn, .inr ⟨hw, rfl, rfl, rfl⟩⟩
   | succ k =>
    rw [ZK];exact h3 k (by simpa using hk)
def fV (r:Rec) (t:Nat):Option FV:=if r.o.dst=some t then some r.f else none
def Zk:List (Nat×zL)→Nat→Option zL
 | [], _ => none
 | p :: l, id => match Zk l id with|some b => some b|none => if p.1=id then some p.2 else none
theorem ph:∀ (l:List (Nat×zL)) (s:ae) (id:Nat),(s.wr l).ob id=(Zk l id).getD (s.ob id)
 | [], _, _ => rfl
 | p :: l, s, id => by
  show (ae.wr (s.set p.1 p.2) l).ob id=_;rw [ph l,Zk,ae.aq];cases Zk l id with
  | some b => rfl
  | none => by_cases h:p.1=id <;> simp [h]
theorem ZB:∀ {l:List (Nat×zL)} {id:Nat},(Zk l id).isSome→id∈l.map (·.1)
 | p::l,id,h=>by
  unfold Zk at h;cases hl:Zk l id with
  | some b => exact Yg _ (ZB (by rw [hl]; rfl))
  | none =>
   rw [hl] at h;dsimp only at h;split at h
   ·rename_i e;subst e;simp
   ·simp at h
theorem Xr (s:ae) (r:Rec) (t:Nat):(s.jt r).get t=(fV r t).getD (s.get t):=by
 unfold ae.jt ae.app fV;cases h:r.o.dst with
 | none => simp [ae.g5, ae.cG]
 | some d =>
  simp only [ae.g5,ae.dW,ae.cG,yh];split <;> rfl
theorem WW (s:ae) (r:Rec) (id:Nat):(s.jt r).ob id=(Zk r.wr id).getD (s.ob id):=by
 unfold ae.jt ae.app;cases r.o.dst with
 | none => exact ph _ _ _
 | some d => exact ph _ _ _
section
variable {α:Type}
def gK (u:Nat→Option α) (S:Nat→Bool) (x0:α):Nat→α
 | 0 => x0
 | k+1 => if S k then (u k).getD (gK u S x0 k) else gK u S x0 k
theorem xJ (u:Nat→Option α) (S S' : Nat→Bool) (x0:α):∀ n,(∀ k,k<n→(u k).isSome→S k=S' k)→gK u S x0 n=gK u S' x0 n
 | 0, _ => rfl
 | n+1, h => by
  have ih:=xJ u S S' x0 n (fun k hk=>h k zc);have hn:=h n zc;unfold gK;rw [ih];cases hu:u n with
  | none => simp
  | some v => rw [hn (by rw [hu]; rfl)]
theorem Zf (u:Nat→Option α) (S:Nat→Bool) (x0:α) (m:Nat):∀ j,(∀ k,m≤k→k<m+j→S k=true→u k=none)→gK u S x0 (m+j)=gK u S x0 m
 | 0, _ => rfl
 | j+1, h => by
  have ih:=Zf u S x0 m j (fun k h1 h2=>h k h1 zc);rw [← Wy,gK];split
  ·rename_i hS;rw [h (m+j) zc zc hS,ih];rfl
  ·exact ih
theorem Va (u:Nat→Option α) (S:Nat→Bool) (x0:α) (i:Nat) (hS:S i=false):∀ n,i<n→(∀ k,i<k→k<n→S k=true→(u k).isSome→u i=none)→gK u (fun k=>k == i || S k) x0 n=(u i).getD (gK u S x0 n)
 | 0, h, _ => by omega
 | n + 1,hi,h=>by
  by_cases cE:i=n
  ·subst cE;unfold gK;simp only [beq_self_eq_true,VH,if_true,hS,Xw,if_false];congr 1;refine xJ _ _ _ _ _ (fun k hk _=>?_);have:(k == i)=false:=by simp;omega
   rw [this];rfl
  ·have ih:=Va u S x0 i hS n zc (fun k h1 h2=>h k h1 zc);have hn:(n == i)=false:=by simp;omega
   unfold gK;rw [hn,yX,ih];split
   ·rename_i Ah;cases hu:u n with
    | none => rfl
    | some v =>
     have:=h n zc zc Ah (by rw [hu];rfl);rw [this];rfl
   ·rfl
end
theorem xB (tr:List Rec) (s0:ae) (S:Nat→Bool) (t:Nat):∀ k,(sig tr s0 S k).get t=gK (fun k=>fV (tr.getD k default) t) S (s0.get t) k
 | 0 => rfl
 | k+1 => by
  unfold sig gK;split
  ·rw [Xr,xB tr s0 S t k]
  ·exact xB tr s0 S t k
theorem ZE (tr:List Rec) (s0:ae) (S:Nat→Bool) (id:Nat):∀ k,(sig tr s0 S k).ob id=gK (fun k=>Zk (tr.getD k default).wr id) S (s0.ob id) k
 | 0 => rfl
 | k+1 => by
  unfold sig gK;split
  ·rw [WW,ZE tr s0 S id k]
  ·exact ZE tr s0 S id k
def jm:List Oper→List (List Nat)→List (List Nat)
 | [], acc => acc
 | o :: l, acc => jm l (acc ++ [o.after.toList.flatMap fun e => if Region.binds .any e then e.on :: acc.getD e.on [] else []])
def xQ (ops:Array Oper) (r q:Rec):Bool:=
 r.o.apart ops q.o && (r.wr.all fun p=>!q.ft.contains p.1 && !(q.wr.map (·.1)).contains p.1) && (q.wr.all fun p=>!r.ft.contains p.1)
def sG (ops:Array Oper) (tr:List Rec) (A:List (List Nat)):Bool:=
 (List.range tr.length).all fun i=>(List.range i).all fun j=>(A.getD i []).contains j || xQ ops (tr.getD j default) (tr.getD i default)
def sF (l:List Oper):Bool:=(List.range l.length).all fun i=>(l.getD i default).after.toList.all fun e=>!Region.binds .any e || decide (e.on<i)
def Xn (ops:Array Oper) (tr:List Rec):Bool:=sF ops.toList && sG ops tr (jm ops.toList [])
theorem Uf (S:Nat→Bool):∀ (l:List Oper) (acc:List (List Nat)),(∀ i,i<acc.length→S i=true→∀ j∈acc.getD i [],S j=true)→
  (∀ k,k<l.length→S (acc.length+k)=true→∀ e∈(l.getD k default).after.toList,Region.binds .any e=true→S e.on=true)→(∀ k,k<l.length→∀ e∈(l.getD k default).after.toList,Region.binds .any e=true→e.on<acc.length+k)→
  ∀ i,i<acc.length+l.length→S i=true→∀ j∈(jm l acc).getD i [],S j=true
 | [], acc, ha, _, _, i, hi, hS, j, hj => ha i (by simpa using hi) hS j hj
 | o ::l,acc,ha,hl,hb,i,hi,hS,j,hj=>by
  rw [jm] at hj;refine Uf S l _ (fun i hi hS j hj=>?_) (fun k hk hS e he m9=>?_) (fun k hk e he m9=>?_) i (by simp at hi ⊢;omega) hS j hj
  ·rcases yJ i acc.length with h|h
   ·rw [xX,ZH h,← xX] at hj;exact ha i h hS j hj
   ·have ec:i=acc.length:=by simp at hi;omega
    subst ec;rw [xX,Yf (zi _),Nat.sub_self] at hj;simp only [List.getElem?_cons_zero,WG,rU] at hj;obtain ⟨e,he,hj⟩:=hj;split at hj
    ·rename_i m9;have fO:=hl 0 zg (by simpa using hS) e he m9;rcases zT.1 hj with h|h
     ·rw [h];exact fO
     ·exact ha e.on (by have:=hb 0 zg e he m9;omega) fO j h
    ·simp at hj
  ·refine hl (k+1) (by simpa using hk) ?_ e he m9;simp only [yL,xo,VM] at hS;rwa [show acc.length+(k+1)=acc.length+(0+1)+k by omega]
  ·have:=hb (k+1) (by simpa using hk) e he m9;simp;omega
theorem CQ {o:Oper} {s s' : ae} (h:∀ t∈o.looksAt ops,s'.get t=s.get t):∀ x∈o.op.operands.toList,s'.ev x=s.ev x:=by
 intro x hx;cases x with
 | tmp t => exact h t (List.mem_append_left _ (yZ.2 ⟨.tmp t, hx, rfl⟩))
 | const v => rfl
 | global g => rfl
 | func f => rfl
theorem ZC.loc {o:Oper} {s s' : ae} (hw:ZC ops s o b) (h:∀ t∈o.looksAt ops,s'.get t=s.get t):ZC ops s' o b:=by
 unfold ZC at *;cases hg:o.guard with
 | none => rw [hg] at hw; exact hw
 | some p =>
  obtain ⟨j,want⟩:=p;rw [hg] at hw;obtain ⟨d,v,h1,h2,h3⟩:=hw;refine ⟨d,v,h1,?_,h3⟩;rw [h d (List.mem_append_right _ (by simp [hg,h1]))];exact h2
theorem kt.loc {s s' : ae} {r:Rec} (hr:kt c ops s r) (h:∀ t∈r.o.looksAt ops,s'.get t=s.get t) (ho:∀ id∈r.ft,s'.ob id=s.ob id):kt c ops s' r:=by
 obtain ⟨hN,hr⟩:=hr;refine ⟨hN,?_⟩;have l9:=CQ h;rcases hr with ⟨hw,d,hd,he,hf⟩|⟨hw,h1,h2,h3⟩
 ·refine .inl ⟨hw.loc h,d,hd,he.loc l9 (by rw [← hf];exact ho),?_⟩;rw [hf];unfold Xa;congr 2;have key:∀ l:List Operand,(∀ x∈l,s'.ev x=s.ev x)→(l.filterMap fun x=>(s.ev x).hand.map (·.1))=l.filterMap fun x=>(s'.ev x).hand.map (·.1):=by
   intro l
   induction l with
   | nil => intro _; rfl
   | cons x l ih => intro h; rw [Xy, Xy, h x zg, ih (fun y hy => h y (by simp [hy]))]
  exact key _ l9
 ·exact .inr ⟨hw.loc h,h1,h2,h3⟩
section
variable {c:Ctx} {w0:World} {J:JJ} {ops:Array Oper} {Q:Exit→Act→World→Prop}
theorem ZC.model {s:ae} (hF:FR c.N w0 J s a w β) {o:Oper} (hw:ZC ops s o b):Region.wanted o (yielded ops a.tmps)=b:=by
 unfold ZC at hw;unfold Region.wanted;cases hg:o.guard with
 | none => rw [hg] at hw; rw [hw]
 | some p=>
  obtain ⟨j,want⟩:=p;rw [hg] at hw;obtain ⟨d,v,h1,h2,h3⟩:=hw;rcases DJ h3 with ⟨v,rfl,h4⟩|⟨rfl,rfl⟩
  ·have hv:a.tmps.getD d undef=.bool v:=hF.cQ (x:=.tmp d) (b:=v) h2;have hy:yielded ops a.tmps j=some v:=by
    unfold yielded;rw [h1];simp only [Xe];rw [YG] at hv;cases ha:a.tmps[d]? with
    | none => rw [ha] at hv; simp [undef] at hv
    | some u => rw [ha] at hv; simp only [WG] at hv; rw [hv]
   simp only [hy];rw [← h4];cases v <;> cases want <;> rfl
  ·have hv:a.tmps.getD d undef=.tuple #[]:=by
    have:=hF.ev (.tmp d);rw [show s.ev (.tmp d)=.bS [] from h2] at this;have:=VR.rd this rfl;have e:a.eval (.tmp d)=a.tmps.getD d undef:=rfl;rw [e] at this;generalize a.tmps.getD d undef=v at this;cases this with
    | bS us fs hl hr=>
     have:us=[]:=by cases us with
      | nil => rfl
      | cons u us => simp at hl
     subst this;rfl
   have hy:yielded ops a.tmps j=none:=by
    unfold yielded;rw [h1];simp only [Xe];rw [YG] at hv;cases ha:a.tmps[d]? with
    | none => rfl
    | some u => rw [ha] at hv; simp only [WG] at hv; rw [hv]
   simp only [hy];cases want <;> rfl
theorem kt.wpOp {s:ae} (hF:FR c.N w0 J s a w β) {r:Rec} (hi:ops[i]? = some r.o) (hr:kt c ops s r) (hK:∀ a' w' aE,FR c.N w0 J (s.jt r) a' w' aE→K a' w') :
  wpOp c.P ops Q i K a w:=by
 obtain ⟨hN,hr⟩:=hr;unfold Go.wpOp;simp only [hi];rcases hr with ⟨hw,d,hd,he,hf⟩|⟨hw,h1,h2,h3⟩
 ·rw [if_pos (hw.model hF)];exact .inl (he.sound hF r.o rfl hd hN hK)
 ·rw [if_neg (by rw [hw.model hF];decide)];refine hK _ _ β ?_;unfold ae.jt ae.app;rw [h1,h2];cases hd:r.o.dst with
  | none => exact hF
  | some d => exact hF.put (hN d hd) (VR.bt (Rd.bS [] [] rfl zg) rfl) (fun id aa e => by cases e)
def g6 (S:Nat→Bool):Nat→Nat
 | 0 => 0
 | k+1 => g6 S k+if S k then 0 else 1
theorem sm {S:Nat→Bool} {i:Nat} (hS:S i=false):∀ n,i<n→g6 (fun k=>k == i || S k) n+1=g6 S n
 | 0, h => by omega
 | n + 1,h=>by
  unfold g6;by_cases cE:i=n
  ·subst cE;have key:∀ m,m≤i→g6 (fun k=>k == i || S k) m=g6 S m:=by
    intro m
    induction m with
    | zero => intro _; rfl
    | succ m ih =>
     intro hm;unfold g6;have:(m == i)=false:=by simp;omega
     rw [ih zc,this];rfl
   rw [key i (zi _),hS];simp
  ·have ih:=sm hS n zc;have:(n == i)=false:=by simp;omega
   rw [this,yX];omega
theorem Uk {S:Nat→Bool}:∀ n,g6 S n=0→∀ k,k<n→S k=true
 | 0, _, k, hk => by omega
 | n+1,h,k,hk=>by
  unfold g6 at h;by_cases nj:k=n
  ·subst nj;cases hS:S k with
   | true => rfl
   | false => rw [hS] at h; simp at h
  ·exact Uk n zc k zc
theorem C0 {s0 s' : ae} {tr:List Rec} (hx:iY c ops s0 ops.toList tr s') (c8:Xn ops tr=true) (hQ:∀ a w β,FR c.N w0 J s' a w β→Q .normal a w) :
  ∀ (fuel:Nat) (listed:Array Bool) (a:Act) (w:World) (β:Nat→Option Nat),listed.size=ops.size→(∀ i,i<ops.size→listed.getD i false=true→∀ e∈(ops.toList.getD i default).after.toList,Region.binds .any e=true→listed.getD e.on false=true)→
   g6 (fun k=>listed.getD k false) ops.size≤fuel→FR c.N w0 J (sig tr s0 (fun k=>listed.getD k false) ops.size) a w β→wpAny c.P .any ops Q fuel listed a w:=by
 obtain ⟨jP,ll,gq⟩:=hx.at;have hlen:tr.length=ops.size:=by rw [jP];simp
 rw [pQ] at gq;unfold Xn at c8;rw [zU] at c8;obtain ⟨eC,dh⟩:=c8;have dg : ∀ i,i<ops.size→∀ e∈(ops.toList.getD i default).after.toList,Region.binds .any e=true→e.on<i:=by
  intro i hi e he hb;unfold sF at eC;rw [zV] at eC;have:=eC i (by simpa using hi);rw [zV] at this;have:=this e he;simpa [hb] using this
 have dz : ∀ i,i<ops.size→∀ j,j<i→j∈(jm ops.toList []).getD i []∨xQ ops (tr.getD j default) (tr.getD i default)=true:=by
  intro i hi j hj;unfold sG at dh;rw [zV] at dh;have:=dh i (by simp [hlen];exact hi);rw [zV] at this;have:=this j (by simpa using hj);rw [VF] at this;exact this.imp (fun h=>by simpa using h) id
 have gQ:∀ (listed:Array Bool) (i:Nat),i<listed.size→listed.getD i true=listed.getD i false:=fun listed i hi=>by simp [hi]
 have jJ:∀ (listed:Array Bool) (a:Act) (w:World) (β:Nat→Option Nat),(∀ k,k<ops.size→listed.getD k false=true)→FR c.N w0 J (sig tr s0 (fun k=>listed.getD k false) ops.size) a w β→Q .normal a w:=by
  intro listed a w β aP hF;refine hQ a w β (hF.ext (fun k=>?_) (fun k=>?_))
  ·rw [ll,hlen,xB,xB];exact xJ _ _ _ _ _ (fun k hk _=>(aP k hk).symm)
  ·rw [ll,hlen,ZE,ZE];exact xJ _ _ _ _ _ (fun k hk _=>(aP k hk).symm)
 have c7:∀ (listed:Array Bool),listed.size=ops.size→Region.ready .any ops listed=[]→∀ k,k<ops.size→listed.getD k false=true:=by
  intro listed aK hr k
  induction k using Nat.strongRecOn with
  | _ k ih=>
   intro hk;cases hl:listed.getD k false with
   | true => rfl
   | false=>
    exfalso;have:k∈Region.ready .any ops listed:=by
     rw [mem_ready];refine ⟨by rw [gQ listed k zc];exact hl,ops.toList.getD k default,by simp [hk],fun e he hb=>?_⟩;have az:=dg k hk e (by simpa using he) hb;exact ih e.on az zc
    rw [hr] at this;simp at this
 intro fuel
 induction fuel with
 | zero=>
  intro listed a w β aK cD l7 hF;have aP:=Uk (S:=fun k=>listed.getD k false) ops.size zc;refine ⟨?_,jJ listed a w β aP hF⟩;cases hr:Region.ready .any ops listed with
  | nil => rfl
  | cons i l =>
   exfalso;have:i∈Region.ready .any ops listed:=by rw [hr];simp
   rw [mem_ready] at this;obtain ⟨h0,o,ho,_⟩:=this;have hi:i<ops.size:=(Zh.1 ho).1;rw [gQ listed i zc,aP i hi] at h0;cases h0
 | succ fuel ih=>
  intro listed a w β aK cD l7 hF;refine ⟨fun hr=>jJ listed a w β (c7 listed aK hr) hF,fun i hi=>?_⟩;rw [mem_ready] at hi;obtain ⟨h0,o,ho,aP⟩:=hi;have dJ:i<ops.size:=(Zh.1 ho).1;rw [gQ listed i zc] at h0;have mn:ops.toList.getD i default=o:=by simp [ho]
  obtain ⟨gu,rv⟩:=gq i dJ;rw [mn] at gu;have cN : ∀ k,k<ops.size→(k == i || listed.getD k false)=true→∀ e∈(ops.toList.getD k default).after.toList,Region.binds .any e=true→(e.on == i || listed.getD e.on false)=true:=by
   intro k hk hS e he hb;by_cases iN:k=i
   ·subst iN;rw [mn] at he;rw [aP e (by simpa using he) hb,VG]
   ·have:(k == i)=false:=by simpa using iN
    rw [this,yX] at hS;rw [cD k hk hS e he hb,VG]
  have lV:∀ j∈(jm ops.toList []).getD i [],(j == i || listed.getD j false)=true:=
   Uf (fun k=>k == i || listed.getD k false) ops.toList [] (fun i hi=>by simp at hi) (fun k hk hS e he hb=>cN k (by simpa using hk) (by simpa using hS) e he hb) (fun k hk e he hb=>by simpa using dg k (by simpa using hk) e he hb) i (by simpa using dJ) zg
  have jE:∀ k,listed.getD k false=true→k<ops.size→∀ j∈(jm ops.toList []).getD k [],listed.getD j false=true:=fun k hS hk=>
   Uf (fun k=>listed.getD k false) ops.toList [] (fun i hi=>by simp at hi) (fun k hk hS e he hb=>cD k (by simpa using hk) (by simpa using hS) e he hb) (fun k hk e he hb=>by simpa using dg k (by simpa using hk) e he hb) k (by simpa using hk) hS
  have lW:∀ k,k<ops.size→∀ j∈(jm ops.toList []).getD k [],j<k∨j=k→True:=fun _ _ _ _ _=>trivial;have dx:∀ k,k<i→xQ ops (tr.getD k default) (tr.getD i default)=true∨listed.getD k false=true:=by
   intro k hk;rcases dz i dJ k hk with h|h
   ·have:=lV k h;have bQ:(k == i)=false:=by simp;omega
    rw [bQ,yX] at this;exact .inr this
   ·exact .inl h
  have bX:∀ k,i<k→k<ops.size→listed.getD k false=true→xQ ops (tr.getD i default) (tr.getD k default)=true:=by
   intro k hk e8 hS;rcases dz k e8 i hk with h|h
   ·rw [jE k hS e8 i h] at h0;cases h0
   ·exact h
  have iI:∀ {r q:Rec},xQ ops r q=true→(∀ d,r.o.dst=some d→d∉q.o.looksAt ops)∧(∀ d,r.o.dst=some d→q.o.dst≠some d)∧(∀ d,q.o.dst=some d→d∉r.o.looksAt ops)∧
    (∀ id,(Zk r.wr id).isSome→id∉q.ft∧Zk q.wr id=none)∧(∀ id,(Zk q.wr id).isSome→id∉r.ft):=by
   intro r q h;unfold xQ at h;rw [zU,zU] at h;obtain ⟨⟨h1,h2⟩,h3⟩:=h;obtain ⟨k1,k2,k3⟩:=Oper.apart_spec h1;rw [zV] at h2 h3;refine ⟨k1,k2,k3,fun id hid=>?_,fun id hid=>?_⟩
   ·obtain ⟨p,hp,rfl⟩:=zM.1 (ZB hid);have:=h2 p hp;rw [zU] at this;refine ⟨by simpa using this.1,?_⟩;cases hl:Zk q.wr p.1 with
    | none => rfl
    | some b =>
     have hm:=ZB (l:=q.wr) (id:=p.1) (by rw [hl];rfl);have h4:=this.2;simp only [rZ,sa,decide_eq_false_iff_not] at h4;exact absurd hm h4
   ·obtain ⟨p,hp,rfl⟩:=zM.1 (ZB hid);have:=h3 p hp;simpa using this
  have cu:∀ t∈(tr.getD i default).o.looksAt ops,(sig tr s0 (fun k=>listed.getD k false) ops.size).get t=(sig tr s0 (fun _=>true) i).get t:=by
   intro t ht;rw [xB,xB];obtain ⟨m,hm⟩:∃ m,ops.size=i+m:=⟨ops.size - i,by omega⟩
   rw [hm,Zf _ _ _ i m]
   ·refine xJ _ _ _ _ _ (fun k hk hu=>?_);rcases dx k hk with h|h
    ·exfalso;unfold fV at hu;split at hu
     ·rename_i hd;exact (iI h).1 t hd ht
     ·simp at hu
    ·exact h
   ·intro k cz e8 hS;rcases WC cz with e|az
    ·subst e;rw [h0] at hS;cases hS
    ·unfold fV;rw [if_neg];intro hd;exact (iI (bX k az zc hS)).2.2.1 t hd ht
  have iP:∀ id∈(tr.getD i default).ft,(sig tr s0 (fun k=>listed.getD k false) ops.size).ob id=(sig tr s0 (fun _=>true) i).ob id:=by
   intro id hid;rw [ZE,ZE];obtain ⟨m,hm⟩:∃ m,ops.size=i+m:=⟨ops.size - i,by omega⟩
   rw [hm,Zf _ _ _ i m]
   ·refine xJ _ _ _ _ _ (fun k hk hu=>?_);rcases dx k hk with h|h
    ·exact absurd hid ((iI h).2.2.2.1 id hu).1
    ·exact h
   ·intro k cz e8 hS;rcases WC cz with e|az
    ·subst e;rw [h0] at hS;cases hS
    ·cases hl:Zk (tr.getD k default).wr id with
     | none => rfl
     | some b => exact absurd hid ((iI (bX k az zc hS)).2.2.2.2 id (by rw [hl]; rfl))
  have oI:=rv.loc cu iP;refine oI.wpOp hF (by rw [gu];exact ho) (fun a' w' aE dZ=>?_);have gX:∀ k,(listed.setIfInBounds i true).getD k false=(k == i || listed.getD k false):=by
   intro k;by_cases iN:k=i
   ·subst iN;have:k<listed.size:=by omega
    simp [this]
   ·have bQ:(k == i)=false:=by simpa using iN
    rw [bQ,yX];simp [wk (fun e=>iN e.symm)]
  have jK:(fun k=>(listed.setIfInBounds i true).getD k false)=(fun k=>k == i || listed.getD k false):=funext gX;refine ih _ a' w' aE (by simp [aK]) (fun k hk hS e he hb=>?_) ?_ ?_
  ·rw [gX] at hS ⊢;exact cN k hk hS e he hb
  ·rw [jK];have:=sm (S:=fun k=>listed.getD k false) h0 ops.size dJ;omega
  ·rw [jK];refine dZ.ext (fun t=>?_) (fun id=>?_)
   ·rw [Xr,xB,xB];refine Va _ _ _ i h0 ops.size dJ (fun k cz e8 hS hu=>?_);cases j1:fV (tr.getD i default) t with
    | none => rfl
    | some v=>
     exfalso;unfold fV at hu j1;split at j1
     ·rename_i nb;split at hu
      ·rename_i kW;exact (iI (bX k cz e8 hS)).2.1 t nb kW
      ·simp at hu
     ·cases j1
   ·rw [WW,ZE,ZE];refine Va _ _ _ i h0 ops.size dJ (fun k cz e8 hS hu=>?_);cases j1:Zk (tr.getD i default).wr id with
    | none => rfl
    | some v =>
     exfalso;have:=((iI (bX k cz e8 hS)).2.2.2.1 id (by rw [j1];rfl)).2;rw [this] at hu;cases hu
theorem Cr {s0 s' : ae} {tr:List Rec} (hx:iY c ops s0 ops.toList tr s') (c8:Xn ops tr=true) (hQ:∀ a w β,FR c.N w0 J s' a w β→Q .normal a w) (hF:FR c.N w0 J s0 a w β) :
  wpAny c.P .any ops Q ops.size (Array.replicate ops.size false) a { w with drawn:=w.drawn+1 }:=by
 refine C0 hx c8 hQ ops.size _ a _ β zg (fun i hi hS=>?_) ?_ ?_
 ·have:(Array.replicate ops.size false).getD i false=false:=by simp [hi]
  rw [this] at hS;cases hS
 ·have key:∀ n,g6 (fun k=>(Array.replicate ops.size false).getD k false) n≤n:=by
   intro n
   induction n with
   | zero => exact zi _
   | succ n ih => unfold g6; split <;> omega
  exact key _
 ·have hD:FR c.N w0 J s0 a { w with drawn:=w.drawn+1 } β:=hF.grow ⟨rfl,rfl,rfl,zi _,fun _ _=>rfl⟩;refine hD.ext (fun t=>?_) (fun id=>?_)
  ·have key:=Zf (fun k=>fV (tr.getD k default) t) (fun k=>(Array.replicate ops.size false).getD k false) (s0.get t) 0 ops.size (fun k _ hk hS=>by
    have:(Array.replicate ops.size false).getD k false=false:=by
     rw [YG];cases h:(Array.replicate ops.size false)[k]? with
     | none => rfl
     | some b => rw [sD] at h; split at h <;> simp_all
    rw [this] at hS;cases hS)
   rw [yr] at key;rw [xB,key];rfl
  ·have key:=Zf (fun k=>Zk (tr.getD k default).wr id) (fun k=>(Array.replicate ops.size false).getD k false) (s0.ob id) 0 ops.size (fun k _ hk hS=>by
    have:(Array.replicate ops.size false).getD k false=false:=by
     rw [YG];cases h:(Array.replicate ops.size false)[k]? with
     | none => rfl
     | some b => rw [sD] at h; split at h <;> simp_all
    rw [this] at hS;cases hS)
   rw [yr] at key;rw [ZE,key];rfl
end
def iB (K:Act→World→Prop):Exit→Act→World→Prop
 | .normal, a, w => K a w
 | _, _, _ => False
def jv (P:Program):Code→(Exit→Act→World→Prop)→Act→World→Prop
 | .skip, Q, a, w => Q .normal a w
 | .label _, Q, a, w => Q .normal a w
 | .exit id, Q, a, w => Q (.exit id) a w
 | .ret, Q, a, w => Q .ret a w
 | .seq x y, Q, a, w => jv P x (Exit.then (jv P y Q) Q) a w
 | .block id x, Q, a, w => jv P x (Exit.inBlock id Q) a w
 | .cond c x y, Q, a, w => ∃ t, a.eval c=.bool t ∧ (t=true → jv P x Q a w) ∧ (t=false → jv P y Q a w)
 | .loop x, Q, a, w => ∃ (I:Nat → Act → World → Prop) (n:Nat), I n a w ∧ ∀ n a w, I n a w → jv P x (Exit.then (fun a w => ∃ m, m<n ∧ I m a w) Q) a w
 | .scope x, Q, a, w => jv P x (Exit.noGoto Q) a w
 | .region _ ops false, Q, a, w => wpList P ops (iB (Q .normal)) ops.toList a w
 | .region _ ops true, Q, a, w => wpAny P .any ops (iB (Q .normal)) ops.size (Array.replicate ops.size false) a { w with drawn := w.drawn+1 }
 | _, _, _, _ => False
section
variable {P:Program}
theorem UJ (K:Act→World→Prop):¬ LetsOut (iB K):=fun ⟨_,_,h⟩=>h
theorem UK {o:Oper} {K' G G' : Act→World→Prop} (h:∀ a w,K a w→K' a w) (hg:∀ a w,G a w→G' a w) (hh:o.wp P a w K (iB G)):o.wp P a w K' (iB G'):=by
 unfold Oper.wp at *;generalize (execOp a.eval o).run P w=r at *;cases r with
 | ok n w'=>
  cases n <;> simp only [Oper.upon] at hh ⊢ <;>
   first
    | exact h _ _ hh
    | exact Calls.mono hh (fun e GO he => by cases e <;> first|exact h _ _ he|exact he.elim|(obtain ⟨_, _, q⟩ := he; exact q.elim))
    | exact Rows.mono hh (fun _ _ he => h _ _ he)
 | halt x w' => cases x <;> simp only [Oper.upon] at hh ⊢ <;> exact hh.elim
theorem Xu {ops:Array Oper} {K K' : Act→World→Prop} (h:∀ a w,K a w→K' a w):∀ {l:List Oper} {a:Act} {w:World},wpList P ops (iB K) l a w→wpList P ops (iB K') l a w
 | [], a, w, hh => h a w hh
 | o::l,a,w,hh=>by
  unfold wpList at hh ⊢;split
  ·rename_i hw;rw [if_pos hw] at hh;rcases hh with hh|hh
   ·exact .inl (UK (fun a w q=>Xu h q) h hh)
   ·exact absurd hh.2 (UJ _)
  ·rename_i hw;rw [if_neg hw] at hh;exact Xu h hh
theorem CK {K' G G' : Act→World→Prop} (h:∀ a w,K a w→K' a w) (hg:∀ a w,G a w→G' a w) (hh:wpOp P ops (iB G) i K a w):wpOp P ops (iB G') i K' a w:=by
 unfold wpOp at *;split
 ·rename_i ho;rw [ho] at hh;exact h _ _ hh
 ·rename_i o ho;rw [ho] at hh;dsimp only at hh;split
  ·rename_i hw;rw [if_pos hw] at hh;rcases hh with hh|hh
   ·exact .inl (UK h hg hh)
   ·exact absurd hh.2 (UJ _)
  ·rename_i hw;rw [if_neg hw] at hh;exact h _ _ hh
theorem UX {ops:Array Oper} {K K' : Act→World→Prop} (h:∀ a w,K a w→K' a w):∀ {fuel:Nat} {listed:Array Bool} {a:Act} {w:World},wpAny P .any ops (iB K) fuel listed a w→wpAny P .any ops (iB K') fuel listed a w
 | 0, _, a, w, hh => ⟨hh.1, h a w hh.2⟩
 | fuel+1, listed, a, w, hh => ⟨fun e => h a w (hh.1 e), fun i hi => CK (fun a w q => UX h q) h (hh.2 i hi)⟩
theorem xu:∀ {c:Code} {Q Q' : Exit→Act→World→Prop} {a:Act} {w:World},jv P c Q a w→(∀ e a w,Q e a w→Q' e a w)→jv P c Q' a w
 | .skip, _, _, _, _, h, hq => hq _ _ _ h
 | .label _, _, _, _, _, h, hq => hq _ _ _ h
 | .exit _, _, _, _, _, h, hq => hq _ _ _ h
 | .ret, _, _, _, _, h, hq => hq _ _ _ h
 | .seq x y,Q,Q',a,w,h,hq=>xu (c:=x) h fun e a w q=>by
   cases e <;> first|exact xu (c:=y) q hq|exact hq _ _ _ q
 | .block id x,Q,Q',a,w,h,hq=>xu (c:=x) h fun e a w q=>by
   cases e with
   | exit aM =>
    simp only [Exit.inBlock] at q ⊢;split
    ·rename_i e;rw [if_pos e] at q;exact hq _ _ _ q
    ·rename_i e;rw [if_neg e] at q;exact hq _ _ _ q
   | _ => exact hq _ _ _ q
 | .cond c x y, Q, Q', a, w, ⟨t, h, h1, h2⟩, hq => ⟨t, h, fun e => xu (c := x) (h1 e) hq, fun e => xu (c := y) (h2 e) hq⟩
 | .loop x,Q,Q',a,w,⟨I,n,h0,h⟩,hq=>⟨I,n,h0,fun n a w hi=>xu (c:=x) (h n a w hi) fun e a w q=>by
   cases e <;> first|exact q|exact hq _ _ _ q⟩
 | .scope x,Q,Q',a,w,h,hq=>xu (c:=x) h fun e a w q=>by
   cases e <;> first|exact hq _ _ _ q|exact q.elim
 | .region _ ops false, _, _, _, _, h, hq => Xu (fun a w q => hq _ _ _ q) h
 | .region _ ops true, _, _, _, _, h, hq => UX (fun a w q => hq _ _ _ q) h
theorem WK (hm:P.follows .mixedOrders=true):∀ {c:Code} {Q:Exit→Act→World→Prop} {a:Act} {w:World},jv P c Q a w→c.wp P Q a w
 | .skip, _, _, _, h => wp_skip h
 | .label _, _, _, _, h => wp_label h
 | .exit _, _, _, _, h => wp_exit h
 | .ret, _, _, _, h => wp_ret h
 | .seq x y, Q, a, w, h => wp_seq (WK hm (xu (c := x) h fun e a w q => by cases e <;> first|exact WK hm (c := y) q|exact q))
 | .block id x, Q, a, w, h => wp_block (WK hm (c := x) h)
 | .cond c x y, Q, a, w, ⟨t, h, h1, h2⟩ => by
  cases t with
  | true => exact wp_cond_true h (WK hm (c := x) (h1 rfl))
  | false => exact wp_cond_false h (WK hm (c := y) (h2 rfl))
 | .loop x, Q, a, w, ⟨I, n, h0, h⟩ => wp_loop_ghost I n h0 fun n a w hi => WK hm (c := x) (h n a w hi)
 | .scope x, Q, a, w, h => wp_scope_straight (WK hm (c := x) h)
 | .region _ ops false, Q, _, _, h => wp_mono (wp_region_list h) fun e a w q => by cases e <;> first|exact q|exact q.elim
 | .region _ ops true, Q, _, _, h => wp_mono (wp_region_any hm h) fun e a w q => by cases e <;> first|exact q|exact q.elim
/-! in a round -/
section
variable {l n:Nat}
end
/-! the slots that the code does not write -/
end
end
end Go.Proofs.YtedkppfghdipdaaGreatDoor
