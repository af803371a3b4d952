/-
  Lemmas, in parts.
-/
import Derived.Test.YtedkppfghdipdaaDoorZA
import Derived.ArgAppend
import Derived.Laws.CopyRow
import Derived.Laws.IdiomCopy
import Derived.Laws.StructEq
import Derived.Orders
import Derived.Deep.LoopGhost
import Derived.RangeFuncRecord
import Derived.OrdersIn
import Derived.TacticsIn
import Derived.RangeFuncCalls
namespace Go.Proofs.YtedkppfghdipdaaDoor
set_option linter.unusedVariables false
set_option maxHeartbeats 16000000
variable {w:World} {I:Nat→Prop} {N T clock d i j aa:Nat} {k ty:TypeId} {b bb found:Bool} {ai:Array MapEntry} {x y:Operand} {α:Type} {xs:Array Operand} {c:Ctx} {J:JJ} {a:Act} {β:Nat→Option Nat} {dst:Option Nat} {pos:String} {after:Array Edge} {g:Option (Nat×Bool)} {K:Act→World→Prop} {op:Op} {Q:Exit→Act→World→Prop} {lo:Option Operand} {ops:Array Oper}
section
open Go.RowKit Go.Maps Go.MapKept Go.ChangeMaps
theorem Rd.bE {v:Value} {f:FV} (h:Rd w I v f) (hf:f.simple=true):v=f.val:=by
 have one:∀ {u:Value} {g:FV},Rd w I u g→g.ay=true→u=g.bL:=by
  intro u g hu hg;cases hu <;> first|rfl|(simp [FV.ay] at hg)
 cases h with
 | agg us fs hl hr=>
  show Value.agg us.toArray=Value.agg (fs.map FV.bL).toArray;congr 2;refine List.ext_getElem? fun j=>?_;rw [yZ];rcases xb j us.length with hj|hj
  ·have ew:j<fs.length:=by rw [← hl];exact hj
   have e1:us[j]? = some us[j]:=by simp [hj]
   have e2:fs[j]? = some fs[j]:=by simp [ew]
   rw [e1,e2,yQ];congr 1;exact one (hr j _ _ e1 e2) (zC.1 hf _ (zZ ew))
  ·have ew:fs.length≤j:=by rw [← hl];exact hj
   simp [hj,ew]
 | int k n => rfl
 | bool b => rfl
 | str s => rfl
 | _ => simp [FV.simple, FV.ay] at hf
theorem Xj {f g:FV} (hf:f.ay=true) (hg:g.ay=true) (h:f.bL=g.bL):f=g:=by
 cases f <;> simp [FV.ay] at hf <;> cases g <;> simp [FV.ay] at hg <;> simp [FV.bL] at h <;> first|(obtain ⟨rfl,rfl⟩:=h;rfl)|(subst h;rfl)
theorem YG:∀ {fs gs:List FV},fs.all FV.ay=true→gs.all FV.ay=true→fs.map FV.bL=gs.map FV.bL→fs=gs
 | [], [], _, _, _ => rfl
 | [], _ :: _, _, _, h => by simp at h
 | _ :: _, [], _, _, h => by simp at h
 | f :: fs, g :: gs, hf, hg, h => by
  simp only [ZP,zD] at hf hg;simp only [ya,List.cons.injEq] at h;rw [Xj hf.1 hg.1 h.1,YG hf.2 hg.2 h.2]
theorem sx {f g:FV} (hf:f.simple=true) (hg:g.simple=true) (h:f.val=g.val):f=g:=by
 cases f with
 | agg cs=>
  cases g with
  | agg ds =>
   have:(cs.map FV.bL).toArray=(ds.map FV.bL).toArray:=by simpa [FV.val] using h
   rw [YG hf hg (by simpa using congrArg Array.toList this)]
  | _ => first|(simp [FV.simple, FV.ay] at hg; done)|(simp [FV.val, FV.bL] at h)
 | int k n =>
  cases g <;> first|(simp [FV.simple,FV.ay] at hg;done)|(simp [FV.val,FV.bL] at h;done)|exact Xj hf hg h
 | bool b =>
  cases g <;> first|(simp [FV.simple,FV.ay] at hg;done)|(simp [FV.val,FV.bL] at h;done)|exact Xj hf hg h
 | str b =>
  cases g <;> first|(simp [FV.simple,FV.ay] at hg;done)|(simp [FV.val,FV.bL] at h;done)|exact Xj hf hg h
 | _ => simp [FV.simple, FV.ay] at hf
def Zs (P:Program) (k:TypeId) (kf:FV):Prop:=kf.simple=true∧∃ l,keyOf P k kf.val=some l
def TS.hJ (ts:TS):FV:=
 match ts.k.aM with
 | some true => .agg ts.zero
 | _ => ts.zero.headD .undef
def XZ (es:List (List FV)) (kf z:FV) (vf:FV) (b:Bool):Prop:=(b=true∧[kf,vf]∈es)∨(b=false∧vf=z∧∀ row∈es,row.head?≠some kf)
def kR (es:List (List FV)) (kf vf:FV) (aO : List (List FV)):Prop:=
 (∃ (j:Nat) (v0:FV),es[j]? = some [kf,v0]∧aO=es.set j [kf,vf])∨((∀ row∈es,row.head?≠some kf)∧aO=es++[[kf,vf]])
structure Mp (w:World) (I:Nat→Prop) (b clock:Nat) (ai:Array MapEntry) (es:List (List FV)):Prop where
 hb:w.heap[b]? = some (.map ai clock)
 st:Stamped ai clock
 sz:ai.size=es.length
 ks:∀ (j:Nat) e row,ai[j]? = some e→es[j]? = some row→∃ kf vf,row=[kf,vf]∧kf.simple=true∧e.key=kf.val
 vs:∀ (j:Nat) e row f,ai[j]? = some e→es[j]? = some row→row[1]? = some f→Rd w I e.val f
section
variable {w:World} {I:Nat→Prop} {b clock:Nat} {ai:Array MapEntry} {es:List (List FV)} {P:Program}
theorem Mp.row (h:Mp w I b clock ai es) {e:MapEntry} (he:ai[j]? = some e):∃ kf vf,es[j]? = some [kf,vf]∧kf.simple=true∧e.key=kf.val∧Rd w I e.val vf:=by
 have hj:j<es.length:=by rw [← h.sz];exact (yC.1 he).1
 have hr:es[j]? = some es[j]:=by simp [hj]
 obtain ⟨kf,vf,e1,e2,e3⟩:=h.ks j e _ he hr;refine ⟨kf,vf,by rw [hr,e1],e2,e3,h.vs j e _ vf he hr (by rw [e1];rfl)⟩
theorem Mp.nt (h:Mp w I b clock ai es) {row:List FV} (hr:es[j]? = some row):∃ e,ai[j]? = some e:=by
 have hj:j<ai.size:=by rw [h.sz];exact (zP.1 hr).1
 exact ⟨ai[j],by simp [hj]⟩
theorem Mp.keys (h:Mp w I b clock ai es) (hk:∀ row∈es,∀ kf,row.head? = some kf→Zs P k kf):∀ e∈ai.toList,∃ l,keyOf P k e.key=some l:=fun e he=>by
 obtain ⟨j,hj⟩:=WG he;have gN : ai[j]? = some e:=by simpa using hj
 obtain ⟨kf,vf,e1,_,e3,_⟩:=h.row gN;obtain ⟨_,l,hl⟩:=hk _ (zN e1) kf rfl;exact ⟨l,by rw [e3];exact hl⟩
theorem Mp.find (h:Mp w I b clock ai es) (K:Keyed P k) (hk:∀ row∈es,∀ kf,row.head? = some kf→Zs P k kf) {kf:FV} (bP:Zs P k kf) :
  ((Instr.findKey k kf.val ai.toList).run P w=.ok none w∧(∀ e∈ai.toList,e.key≠kf.val)∧∀ row∈es,row.head?≠some kf)∨
  ∃ (j:Nat) (e:MapEntry) (vf:FV),(Instr.findKey k kf.val ai.toList).run P w=.ok (some (j,e.val)) w∧ai[j]? = some e∧e.key=kf.val∧es[j]? = some [kf,vf]∧Rd w I e.val vf∧∀ i v,es[i]? = some [kf,v]→i=j:=by
 obtain ⟨hs,l,hl⟩:=bP;rcases K.find w hl ai.toList (h.keys hk) with ⟨h1,h2⟩|⟨j,e0,h1,h2,h3⟩
 ·refine .inl ⟨h1,h2,fun row hr hh=>?_⟩;obtain ⟨j,hj⟩:=WG hr;obtain ⟨e,he⟩:=h.nt hj;obtain ⟨lj,vf,e1,_,e3,_⟩:=h.row he;rw [hj] at e1;injection e1 with e1
  subst e1;injection hh with hh
  subst hh;exact h2 e (zN (by simpa using he)) e3
 ·have jF : ai[j]? = some e0:=by simpa using h2
  obtain ⟨lj,vf,e1,e2,e3,e4⟩:=h.row jF;have:lj=kf:=sx e2 hs (by rw [← e3,h3]);subst this;refine .inr ⟨j,e0,vf,h1,jF,h3,e1,e4,fun i v hi=>?_⟩;obtain ⟨e,he⟩:=h.nt hi;obtain ⟨pX,mQ,q1,_,q3,_⟩:=h.row he;rw [hi] at q1;injection q1 with q1
  injection q1 with q1 _
  subst q1;have hd:=((stamped_iff ai clock).1 h.st).2.2;have kn:i<ai.toList.length:=by have:=(yC.1 he).1;simpa using this
  have ja:j<ai.toList.length:=by have:=(yC.1 jF).1;simpa using this
  have ei:ai.toList[i].key=lj.val:=by have:=(yC.1 he).2;simp only [Array.getElem_toList];rw [this,q3]
  have ej:ai.toList[j].key=lj.val:=by have:=(yC.1 jF).2;simp only [Array.getElem_toList];rw [this,h3]
  rcases Nat.lt_trichotomy i j with aK|heq|l5
  ·exact absurd (ei.trans ej.symm) (YX.1 hd i j kn ja aK)
  ·exact heq
  ·exact absurd (ej.trans ei.symm) (YX.1 hd j i ja kn l5)
end
section
variable {c:Ctx} {w0 w:World} {J:JJ} {s:ab} {a:Act} {β:Nat→Option Nat} {dst:Option Nat} {ty:TypeId} {pos:String} {after:Array Edge} {g:Option (Nat×Bool)}
theorem rB {c:Ctx} (hk:(c.ty T).k.aM = some bb) (w:World) (I:Nat→Prop):∃ z,(zeroValue T).run c.P w=.ok z w∧Rd w I z (c.ty T).hJ:=by
 obtain ⟨d,i,z,h⟩:=c.get rfl (oh hk);refine ⟨z,by simp [zeroValue,typeInfo,h.info,h.zo],?_⟩;have hz:=ax.zeros (w:=w) (I:=I) h.zr;have jR:=h.zk;unfold m7 at jR;unfold TS.hJ;rw [hk] at jR ⊢;cases bb with
 | true =>
  dsimp only at jR ⊢;cases z <;> simp at jR
  rename_i cs;have:=Rd.agg (w:=w) (I:=I) cs.toList (c.ty T).zero hz.1 hz.2;simpa using this
 | false=>
  dsimp only at jR ⊢;have hc:z.cells.toList=[z]:=by
   cases z <;> first|rfl|(simp at jR)
  rw [hc] at hz;cases nX:(c.ty T).zero with
  | nil => rw [nX] at hz; have := hz.1; simp at this
  | cons f fs => rw [nX] at hz; exact hz.2 0 z f rfl rfl
theorem Uh {k e:Nat} (hT:(c.ty T).k=.map k e) (he:(c.ty e).k.aM = some bb) (K:Keyed c.P k) {b:Nat} {es:List (List FV)} (h:Mp w I b clock ai es)
  (hk:∀ row∈es,∀ kf,row.head? = some kf→Zs c.P k kf) {kf:FV} (bP:Zs c.P k kf) (ok:Bool) {vf:FV} (hl:XZ es kf (c.ty e).hJ vf found) :
  ∃ v,(Instr.lookup T (.map (some b)) kf.val ok).run c.P w=.ok v w∧Rd w I v (if ok then .bw [vf,.bool found] else vf):=by
 obtain ⟨d,ii,z,ht⟩:=c.get hT zd;have hd:=ht.k;rw [hT] at hd;obtain rfl:=Ve hd;obtain ⟨l,gP⟩:=bP.2;obtain ⟨zv,hz,jS⟩:=rB he w I;rcases h.find K hk bP with ⟨h1,_,h2⟩|⟨j,e0,mQ,h1,h2,h3,h4,h5,h6⟩
 ·have hv:vf=(c.ty e).hJ∧found=false:=by
   rcases hl with ⟨_,hm⟩|⟨hb,hv,_⟩
   ·exact absurd rfl (h2 _ hm)
   ·exact ⟨hv,hb⟩
  obtain ⟨rfl,rfl⟩:=hv;cases ok
  ·exact ⟨zv,by simp [Instr.lookup,run_underlying ht.u,yL h.hb,K.check w _ gP,h1,hz,Result.andThen],jS⟩
  ·refine ⟨.tuple #[zv,.bool false],by simp [Instr.lookup,run_underlying ht.u,yL h.hb,K.check w _ gP,h1,hz,Result.andThen],?_⟩;have:=ax.cons jS (ax.cons (Rd.bool (w:=w) (I:=I) false) ax.nil);exact .bw [zv,.bool false] _ this.1 this.2
 ·have hv:vf=mQ∧found=true:=by
   rcases hl with ⟨hb,hm⟩|⟨_,_,hm⟩
   ·obtain ⟨i,hi⟩:=WG hm;have:=h6 i vf hi;subst this;rw [h4] at hi;simp at hi;exact ⟨hi.symm,hb⟩
   ·exact absurd rfl (hm _ (zN h4))
  obtain ⟨rfl,rfl⟩:=hv;cases ok
  ·exact ⟨e0.val,by simp [Instr.lookup,run_underlying ht.u,yL h.hb,K.check w _ gP,h1,Result.andThen],h5⟩
  ·refine ⟨.tuple #[e0.val,.bool true],by simp [Instr.lookup,run_underlying ht.u,yL h.hb,K.check w _ gP,h1,Result.andThen],?_⟩;have:=ax.cons h5 (ax.cons (Rd.bool (w:=w) (I:=I) true) ax.nil);exact .bw [e0.val,.bool true] _ this.1 this.2
theorem FR.mp (h:FR c.N w0 J s a w β) {id:Nat} (ex:s.ev x=.omap id aa) (hl:s.live id aa) (hm:(s.ob id).ae≠.bm):∃ b clock ai,a.eval x=.map (some b)∧β id=some b∧Mp w (aH J w β s) b clock ai (s.ob id).es:=by
 obtain ⟨aB,b,hb,hv⟩:=h.dO ex hl.1 hl.2;obtain ⟨b',clock,ai,h1,h2,h3,h4,h5,h6,h7⟩:=((h.obj id hl.1).fj aB hm).ex;rw [hb] at h1;injection h1 with h1
 subst h1;exact ⟨b,clock,ai,hv,hb,h3,h4,h5,h6,h7⟩
theorem FR.qc (h:FR c.N w0 J s a w β) {es:List (List FV)} (ex:s.ev x=.smap es):∃ b clock ai,a.eval x=.map (some b)∧Mp w (aH J w β s) b clock ai es:=by
 have hr:=h.aP ex rfl;generalize a.eval x=v at hr;cases hr with
 | smap b clock ai es hI hb bA hl hk hr => exact ⟨b, clock, ai, rfl, hb, bA, hl, hk, hr⟩
theorem rV (h:FR c.N w0 J s a w β) {k e:Nat} (hT:(c.ty T).k=.map k e) (he:(c.ty e).k.aM = some bb) (K:Keyed c.P k) (x y:Operand) (ok:Bool) {es:List (List FV)}
  (ex:(∃ id aa,s.ev x=.omap id aa∧(s.live id aa∧(s.ob id).ae≠.bm)∧(s.ob id).es=es)∨s.ev x=.smap es) {kf:FV} (ey:s.ev y=kf) (hk:∀ row∈es,∀ kf,row.head? = some kf→Zs c.P k kf) (bP:Zs c.P k kf)
  {vf:FV} (hl:XZ es kf (c.ty e).hJ vf found) (hn:vf.hand=none) :
  yh c w0 J s a ⟨dst,.lookup T x y ok,ty,pos,after,g⟩ w (if ok then .bw [vf,.bool found] else vf) []:=by
 obtain ⟨b,clock,ai,hx,hm⟩:∃ b clock ai,a.eval x=.map (some b)∧Mp w (aH J w β s) b clock ai es:=by
  rcases ex with ⟨id,aa,e1,e2,rfl⟩|e1
  ·obtain ⟨b,clock,ai,h1,_,h2⟩:=h.mp e1 e2.1 e2.2;exact ⟨b,clock,ai,h1,h2⟩
  ·exact h.qc e1
 have hy:a.eval y=kf.val:=(h.aP ey (by have:=bP.1;cases kf <;> first|rfl|(simp [FV.simple,FV.ay] at this))).bE bP.1;obtain ⟨v,h1,h2⟩:=Uh (w:=w) hT he K hm hk bP ok hl;refine .rd h (v:=v) (by simp [execOp,hx,hy,h1]) h2 ?_;cases ok
 ·exact hn
 ·rfl
theorem FR.js (h:FR c.N w0 J s a w β) (d T:Nat):FR c.N w0 J (s.set d ⟨(s.ob d).aa+1,.aR,T,0,[]⟩) a (w.alloc (.map #[] 0)) (YC β d (some w.heap.size)):=by
 have hb:=Uv w (.map #[] 0);have hI:∀ b,aH J w β s b→aH J (w.alloc (.map #[] 0)) (YC β d (some w.heap.size)) (s.set d ⟨(s.ob d).aa+1,.aR,T,0,[]⟩) b∧(w.alloc (.map #[] 0)).heap[b]? = w.heap[b]?:=fun b aG=>by
  refine ⟨⟨xI aG.1 hb.size,aG.2.1,fun id hl=>?_⟩,hb.block b aG.1⟩;rw [ab.aj] at hl;unfold YC;split at hl
  ·rename_i hh;rw [if_pos hh.symm];intro e;injection e with e;have:=aG.1;omega
  ·rename_i hh;rw [if_neg (fun e=>hh e.symm)];exact aG.2.2 id hl
 refine h.step (C:=fun id=>id=d) h.size h.defers (h.bF.trans (hb.mono h.bF.size)) hI (fun k=>.inl ⟨rfl,rfl⟩) (fun id hC=>?_) (fun id hC=>?_) (fun id hC hl ee=>?_) (fun id hC hl _=>?_) ?_ ?_
 ·refine ⟨by rw [ab.aj,if_neg (fun e=>hC e.symm)],by unfold YC;rw [if_neg hC],fun hl b aG=>hb.block b ((h.obj id hl).lt aG).2⟩
 ·subst hC;rw [ab.aj,if_pos rfl];exact Nat.le_succ _
 ·subst hC;rw [ab.aj,if_pos rfl] at ee;simp at ee
 ·subst hC;rw [ab.aj,if_pos rfl,yB];exact .ofMap ⟨w.heap.size,0,#[],rfl,h.bF.size,heap_alloc_new w _,stamped_empty _,rfl,by simp,by simp⟩ rfl (fun e=>by cases e)
 ·intro id aQ b hl ba e e';rw [ab.aj] at hl ba;unfold YC at e e';by_cases h1:id=d
  ·by_cases h2:aQ=d
   ·rw [h1,h2]
   ·rw [if_pos h1] at e;rw [if_neg h2] at e';rw [if_neg (fun e=>h2 e.symm)] at ba;injection e with e;have:=((h.obj aQ ba).lt e').2;omega
  ·by_cases h2:aQ=d
   ·rw [if_neg h1] at e;rw [if_pos h2] at e';rw [if_neg (fun e=>h1 e.symm)] at hl;injection e' with e';have:=((h.obj id hl).lt e).2;omega
   ·rw [if_neg h1] at e;rw [if_neg h2] at e';rw [if_neg (fun e=>h1 e.symm)] at hl;rw [if_neg (fun e=>h2 e.symm)] at ba;exact h.inj id aQ b hl ba e e'
 ·intro b aK hn;refine ⟨hb.block b aK,fun id hl e=>?_⟩;rw [ab.aj] at hl;unfold YC at e;by_cases h1:id=d
  ·rw [if_pos h1] at e;injection e with e;omega
  ·rw [if_neg h1] at e;rw [if_neg (fun e=>h1 e.symm)] at hl;exact hn id hl e
theorem YE (h:FR c.N w0 J s a w β) (d T:Nat):yh c w0 J s a ⟨some d,.makeMap T none,ty,pos,after,g⟩ w (.omap d ((s.ob d).aa+1)) [(d,⟨(s.ob d).aa+1,.aR,T,0,[]⟩)]:=by
 have cy:(s.wr [(d,(⟨(s.ob d).aa+1,.aR,T,0,[]⟩:zS))]).ob d=⟨(s.ob d).aa+1,.aR,T,0,[]⟩:=(ab.aj s d _ d).trans (if_pos rfl);refine ⟨.map (some w.heap.size),w.alloc (.map #[] 0),YC β d (some w.heap.size),?_,h.js d T,fun _ _=>⟨by rw [cy];rfl,w.heap.size,yB _ _ _,rfl⟩,fun id aa e=>?_⟩
 ·have:=run_makeMap (P:=c.P) T w;simp [execOp,this]
 ·simp only [FV.hands,zX,zU] at e;obtain ⟨e1,e2⟩:=e;replace e1:=e1.symm;replace e2:=e2.symm;subst e1;subst e2;rw [cy];exact zi _
theorem FR.aU (h:FR c.N w0 J s a w β) {id b cT : Nat} {cG : Array MapEntry} {aO : List (List FV)} (hl:(s.ob id).ae=.aR) (hb:β id=some b) (kZ:w.heap[b]? = some (.map ai clock)) (st:Stamped cG cT) (sz:cG.size=aO.length)
  (ks:∀ (j:Nat) e row,cG[j]? = some e→aO[j]? = some row→∃ kf vf,row=[kf,vf]∧kf.simple=true∧e.key=kf.val)
  (vs:∀ (j:Nat) e row f,cG[j]? = some e→aO[j]? = some row→row[1]? = some f→Rd w (aH J w β s) e.val f) :
  FR c.N w0 J (s.set id { s.ob id with es:=aO }) a (setBlock w b (.map cG cT)) β:=by
 have ah:(s.ob id).ae≠.dead:=by rw [hl];decide
 have aK:=(h.obj id ah).lt hb;have hg:w.grownBy (setBlock w b (.map cG cT)) (some b):=⟨rfl,rfl,rfl,by simp [setBlock],fun i _ hi=>heap_setBlock_other kZ _ (fun e=>hi (by rw [e]))⟩
 have hI:∀ b',aH J w β s b'→aH J (setBlock w b (.map cG cT)) β (s.set id { s.ob id with es:=aO }) b'∧(setBlock w b (.map cG cT)).heap[b']? = w.heap[b']?:=fun b' aG=>by
  refine ⟨⟨xI aG.1 hg.size,aG.2.1,fun aQ ba=>?_⟩,hg.block b' aG.1 (fun e=>aG.2.2 id (by rw [hl];rfl) (by rw [hb];exact e.symm))⟩;rw [ab.aj] at ba;split at ba
  ·rename_i e;subst e;exact aG.2.2 id (by rw [hl];rfl)
  ·exact aG.2.2 aQ ba
 refine h.step (C:=fun k=>k=id) h.size h.defers (h.bF.grown hg h.bF.size (fun k hk=>by injection hk with hk;subst hk;exact aK.1)) hI (fun k=>.inl ⟨rfl,rfl⟩) (fun k hC=>?_) (fun k hC=>?_) (fun k hC bj ee=>?_) (fun k hC bj _=>?_) ?_ (fun b' jb hn=>⟨hg.block b' jb (fun e=>hn id ah (by rw [hb];exact e.symm)),fun k bj=>hn k (by rw [ab.aj] at bj;split at bj;(· rename_i e;subst e;exact ah);(· exact bj))⟩)
 ·refine ⟨by rw [ab.aj,if_neg (fun e=>hC e.symm)],rfl,fun bj b' aG=>hg.block b' ((h.obj k bj).lt aG).2 (fun e=>hC (h.inj k id b' bj ah aG (by rw [hb];exact e.symm)))⟩
 ·subst hC;rw [ab.aj,if_pos rfl];exact zi _
 ·subst hC;refine ⟨ah,rfl,by rw [ab.aj,if_pos rfl],by rw [ab.aj,if_pos rfl],fun v o n hv=>?_⟩;have:=hv.row;rw [hl] at this;cases this
 ·subst hC;rw [ab.aj,if_pos rfl];exact .ofMap ⟨b,cT,cG,hb,aK.1,heap_setBlock_same kZ _,st,sz,ks,fun j e row f h1 h2 h3=>(vs j e row f h1 h2 h3).mono hI⟩ (by show (s.ob k).ae.br=false;rw [hl];rfl) (by show (s.ob k).ae≠.bm;rw [hl];decide)
 ·intro k k' b' bj cX e e';refine h.inj k k' b' ?_ ?_ e e'
  ·rw [ab.aj] at bj;split at bj
   ·rename_i e;subst e;exact ah
   ·exact bj
  ·rw [ab.aj] at cX;split at cX
   ·rename_i e;subst e;exact ah
   ·exact cX
theorem XC (h:FR c.N w0 J s a w β) {k e:Nat} (hT:(c.ty T).k=.map k e) (K:Keyed c.P k) (x y z:Operand) {id:Nat} (ex:s.ev x=.omap id aa) (a0:(s.ob id).ae=.aR) (az:(s.ob id).aa=aa)
  {kf vf:FV} (ey:s.ev y=kf) (ez:s.ev z=vf) (hk:∀ row∈(s.ob id).es,∀ kf,row.head? = some kf→Zs c.P k kf) (bP:Zs c.P k kf) (hn:vf.hand=none) {aO : List (List FV)} (hs:kR (s.ob id).es kf vf aO) :
  ∃ w',(execOp a.eval ⟨dst,.mapUpdate T x y z,ty,pos,after,g⟩).run c.P w=.ok .skip w'∧FR c.N w0 J (s.wr [(id,{ s.ob id with es:=aO })]) a w' β:=by
 have ah:s.live id aa:=⟨by rw [a0];decide,az⟩
 obtain ⟨d,ii,zz,ht⟩:=c.get hT zd;have hd:=ht.k;rw [hT] at hd;obtain rfl:=Ve hd;obtain ⟨l,gP⟩:=bP.2;obtain ⟨b,clock,ai,hx,hb,hm⟩:=h.mp ex ah (by rw [a0];decide);have hy:a.eval y=kf.val:=(h.aP ey (by have:=bP.1;cases kf <;> first|rfl|(simp [FV.simple,FV.ay] at this))).bE bP.1;have jS:=h.aP ez hn;generalize nW:a.eval z=u at jS;generalize jK:(s.ob id).es=es at hm hk hs;rcases hm.find K hk bP with ⟨h1,h2,h3⟩|⟨j,e0,mQ,h1,h2,h3,h4,h5,h6⟩
 ·have fc : aO=es++[[kf,vf]]:=by
   rcases hs with ⟨j,v0,hj,_⟩|⟨_,he⟩
   ·exact absurd rfl (h3 _ (zN hj))
   ·exact he
  subst fc;refine ⟨setBlock w b (.map (ai.push ⟨kf.val,u,clock⟩) (clock+1)),?_,?_⟩
  ·have:(Instr.mapUpdate T (.map (some b)) kf.val u).run c.P w=.ok () (setBlock w b (.map (ai.push ⟨kf.val,u,clock⟩) (clock+1))):=by
    simp [Instr.mapUpdate,run_underlying ht.u,yL hm.hb,K.check w false gP,h1,Xa _ hm.hb,Result.andThen,setBlock]
   simp [execOp,hx,hy,nW,this]
  ·have dk:∀ (j:Nat) e row,(ai.push ⟨kf.val,u,clock⟩)[j]? = some e→(es++[[kf,vf]])[j]? = some row→(ai[j]? = some e∧es[j]? = some row)∨(e=⟨kf.val,u,clock⟩∧row=[kf,vf]):=by
    intro j e row he hr;rcases Nat.lt_trichotomy j ai.size with hj|hj|hj
    ·left;rw [Ur,if_neg zc] at he;rw [Zi (by rw [← hm.sz];exact hj)] at hr;exact ⟨he,hr⟩
    ·right;subst hj;rw [Ur,if_pos rfl] at he;rw [hm.sz,ZS (zi _),Nat.sub_self] at hr;injection he with he
     injection hr with hr
     exact ⟨he.symm,hr.symm⟩
    ·rw [Ur,if_neg zc] at he;rw [Array.getElem?_eq_none zc] at he;cases he
   refine h.aU a0 hb hm.hb (stamped_push hm.st h2) (by simp [hm.sz]) (fun j e row he hr=>?_) (fun j e row f he hr hf=>?_)
   ·rcases dk j e row he hr with ⟨q1,q2⟩|⟨rfl,rfl⟩
    ·exact hm.ks j e row q1 q2
    ·exact ⟨kf,vf,rfl,bP.1,rfl⟩
   ·rcases dk j e row he hr with ⟨q1,q2⟩|⟨rfl,rfl⟩
    ·exact hm.vs j e row f q1 q2 hf
    ·simp at hf;subst hf;exact jS
 ·have fc : aO=es.set j [kf,vf]:=by
   rcases hs with ⟨i,v0,hi,he⟩|⟨dB,_⟩
   ·rw [h6 i v0 hi] at he;exact he
   ·exact absurd rfl (dB _ (zN h4))
  subst fc;have fY:∀ e',ai[j]? = some e'→({ e' with key:=kf.val,val:=u }:MapEntry).key=e'.key:=fun e' fc=>by rw [h2] at fc;cases fc;exact h3.symm
  refine ⟨setBlock w b (.map (ai.modify j (fun e'=>{ e' with key:=kf.val,val:=u })) clock),?_,?_⟩
  ·have:(Instr.mapUpdate T (.map (some b)) kf.val u).run c.P w=.ok () (setBlock w b (.map (ai.modify j (fun e'=>{ e' with key:=kf.val,val:=u })) clock)):=by
    simp [Instr.mapUpdate,run_underlying ht.u,yL hm.hb,K.check w false gP,h1,h2,h3,K.stays w gP,Xa _ hm.hb,Result.andThen,setBlock]
   simp [execOp,hx,hy,nW,this]
  ·have dk:∀ (i:Nat) e row,(ai.modify j (fun e'=>{ e' with key:=kf.val,val:=u }))[i]? = some e→(es.set j [kf,vf])[i]? = some row→(ai[i]? = some e∧es[i]? = some row)∨(e.key=kf.val∧e.val=u∧row=[kf,vf]):=by
    intro i e row he hr;rw [Uq] at he;rw [List.getElem?_set] at hr;by_cases iY:j=i
    ·subst iY;right;rw [if_pos rfl,h2] at he;rw [if_pos rfl,if_pos (zP.1 h4).1] at hr;simp only [yQ,zB] at he hr;subst he;exact ⟨rfl,rfl,hr.symm⟩
    ·left;rw [if_neg iY] at he hr;exact ⟨he,hr⟩
   refine h.aU a0 hb hm.hb (stamped_modify hm.st _ _ (fun _ _=>rfl) (fun e' _ fc=>fY e' fc)) (by simp [hm.sz]) (fun i e row he hr=>?_) (fun i e row f he hr hf=>?_)
   ·rcases dk i e row he hr with ⟨q1,q2⟩|⟨q1,q2,rfl⟩
    ·exact hm.ks i e row q1 q2
    ·exact ⟨kf,vf,rfl,bP.1,q1⟩
   ·rcases dk i e row he hr with ⟨q1,q2⟩|⟨q1,q2,rfl⟩
    ·exact hm.vs i e row f q1 q2 hf
    ·simp at hf;subst hf;rw [q2];exact jS
end
end
section
open Go.RowKit
theorem qE {X:List α} {p:Nat} (x:α) (h:p<X.length):ag X p [x]=X.set p x:=by
 unfold ag;rw [UU,if_pos h];simp
theorem rZ {w' : World} (h:w.grownBy w' none) (r:Option Nat):w.grownBy w' r:={ h with block:=fun k hk _=>h.block k hk zd }
theorem ZG (P:Program) (w:World) (t ty e:TypeId) (i:TypeInfo) (ht:P.underlying t=some (.slice e)) (hi:P.info? e=some i) (g off fp jz:Nat) (cur:Array Value) (hg:w.heap[g]? = some (.cells cur e (0,0)))
  (a:Addr) (m c:Nat) (news:List Value) (hl:news.length=m * i.size) (kz:∀ (j:Nat) u,news[j]? = some u→w.cell? (a.add j)=some u) (h1:∀ u∈news,u.oneCell'=true) (cN:fp+m≤jz) (dQ:off+fp * i.size+news.length≤cur.size) :
  (Builtin.append_ #[t,t] ty #[.slice (some ⟨g,off,none⟩) fp jz,.slice (some a) m c]).run P w=.ok (.slice (some ⟨g,off,none⟩) (fp+m) jz) (w.setRow g (ag cur.toList (off+fp * i.size) news).toArray):=by
 have hf:=run_firstCells_some (P:=P) w i.size m a m c news hl kz;have bA:=run_storeCells_at P g (off+fp * i.size) e news 0 cur w hg (by simpa using dQ) h1;simp only [xG] at bA;simp [Builtin.append_,run_underlying ht,sizeOf,typeInfo,hi,Builtin.lenOf,cN,hf,Addr.add_lit,bA,ag]
section
variable {c:Ctx} {w0 w:World} {J:JJ} {s:ab} {a:Act} {β:Nat→Option Nat} {dst:Option Nat} {ty:TypeId} {pos:String} {after:Array Edge} {g:Option (Nat×Bool)}
theorem lr (s:ab) (id d:Nat) (b1 b2:zS) (k:Nat):(s.wr [(id,b1),(d,b2)]).ob k=if d=k then b2 else if id=k then b1 else s.ob k:=by
 show (ab.set (ab.set s id b1) d b2).ob k=_;rw [ab.aj,ab.aj]
theorem Src.iE (h:FR c.N w0 J s a w β) {f2:FV} {sz:Nat} {av:List (List FV)} (ey:s.ev y=f2) (h2:Src s f2 sz av) (h1:av.length=1) :
  (∀ e∈av,e.length=sz)∧(∀ f∈av.flatten,f.one=true)∧∃ ad cc us,a.eval y=.slice (some ad) 1 cc∧us.length=1 * sz∧ax w (aH J w β s) us av.flatten∧(∀ (j:Nat) u,us[j]? = some u→w.cell? (ad.add j)=some u)∧∀ u∈us,u.oneCell'=true:=by
 obtain ⟨hw,ho,A,cc,us,hy,hc,hr,hA,aY⟩:=h.src ey h2;refine ⟨hw,ho,?_⟩;cases A with
 | none => have := (hA rfl).2; rw [this] at h1; simp at h1
 | some ad =>
  refine ⟨ad,cc,us,by rw [hy,h1],by rw [hr.1,yD hw,h1],hr,aY ad rfl,fun u hu=>?_⟩;obtain ⟨j,hj,rfl⟩:=yl hu;have ew:j<av.flatten.length:=by rw [← hr.1];exact hj
  exact (hr.2 j _ av.flatten[j] (by simp [hj]) zd).dh (ho _ (zZ ew))
theorem Vz (h:FR c.N w0 J s a w β) (d:Nat) {e:Nat} (hT:(c.ty T).k=.slice e) (he:(c.ty e).k≠.other) (aZ:0<(c.ty e).size) (x y:Operand) {id o n:Nat} (ex:s.ev x=.own id aa o n) (a0:(s.ob id).ae=.roomy) (az:(s.ob id).aa=aa)
  (hE:(s.ob id).E=e) (aA:(s.ob id).sz=(c.ty e).size) (ec:o+n=(s.ob id).es.length) {f2:FV} {av:List (List FV)} (ey:s.ev y=f2) (h2:Src s f2 (c.ty e).size av) (h1:av.length=1) :
  yh c w0 J s a ⟨some d,.call { callee:=.builtin .append,args:=#[x,y],argTypes:=#[T,T] },ty,pos,after,g⟩ w (.own d ((s.ob d).aa+1) o (n+1)) [(id,{ s.ob id with ae:=.dead }),(d,⟨(s.ob d).aa+1,.own,e,(c.ty e).size,(s.ob id).es++av⟩)]:=by
 obtain ⟨dd,ii,z,ht⟩:=c.get hT zd;have hd:=ht.k;rw [hT] at hd;obtain rfl:=zO hd;obtain ⟨d',i',z',bH⟩:=c.get rfl he;obtain ⟨gy,g4,ad,c2,ct,hy,bj,gu,bZ,gm⟩:=Src.iE h ey h2 h1;have ah:(s.ob id).ae≠.dead:=by rw [a0];decide
 have aW:(s.ob id).ae.row=true:=by rw [a0];rfl
 have hO:=h.obj id ah;have cN:=hO.e6 aW;unfold ZA at cN;rw [a0] at cN;obtain ⟨b,cur,hb,aV,dQ⟩:=cN;obtain ⟨v1,ef,r1,r2,r3⟩:=(hO.bg aW).row;have gQ:=(hO.bg aW).wide;have jP:=(hO.bg aW).one;have aK:=hO.lt hb;obtain ⟨A,cc,e1,e2,e3,e4,e5⟩:=(h.bc ex ah az).ex;obtain ⟨o',rfl,k2,k3⟩:=e5 b hb;have gW:=k3 cur aV;rw [hE,aA] at r1;rw [hE] at aV;rw [aA] at k2 gW gQ dQ;generalize jK:(s.ob id).es=es at ec r1 r3 gQ jP dQ;generalize jk:(c.ty e).size=sz at aZ gQ dQ r1 gy bj gW k2;rcases r1.2 with ⟨rfl,_⟩|⟨g',cap,dM,rfl,_,dc,hn,nE,bh,jQ⟩
 ·rw [← r2] at hb;simp [Value.ownBlock] at hb
 have gY:g'=b:=by rw [← r2] at hb;simpa [Value.ownBlock] using hb
 subst gY;rw [aV] at dc;injection dc with dc
 injection dc with dc _ _
 subst dc;have pn:o+cc=cap:=Xc aZ (by rw [← gW,bh]);have cA:es.length+1≤cap:=Nat.le_of_mul_le_mul_right (by rw [← bh];exact dQ) aZ;have dt : o'=o * sz:=k2 (.inl zc);subst dt;have hlen:o * sz+n * sz=es.length * sz:=by rw [← ec,zF]
 have mf:es.length * sz+sz≤cur.size:=by rw [zF] at dQ;omega
 have bf:=ZG c.P w T ty e i' ht.u bH.info g' (o * sz) n cc cur aV ad 1 c2 ct (by rw [bH.size,jk];exact bj) bZ gm zc (by rw [bH.size,jk,hlen];omega);rw [bH.size,jk,hlen] at bf;have cm:cur.toList.length=cur.size:=by simp
 have g6:ef.length=es.length * sz:=r1.1;obtain ⟨W,hW⟩:∃ W,W=w.setRow g' (ag cur.toList (es.length * sz) ct).toArray:=⟨_,rfl⟩
 rw [← hW] at bf;have fM:W.heap[g']? = some (.cells (ag cur.toList (es.length * sz) ct).toArray e (0,0)):=by rw [hW];exact yp w g' _ cur _ aV
 have ny:(ag cur.toList (es.length * sz) ct).toArray.size=cur.size:=by
  rw [ZT,yc (by rw [cm];omega),cm]
 have km:w.grownBy W (some g'):=by
  subst hW;exact ⟨rfl,rfl,rfl,by simp [World.setRow],fun k hk bK=>yO w g' k _ (fun e=>bK (by rw [e]))⟩
 have dR:(es++av).length=es.length+1:=by rw [zT,h1]
 have bO : W.ownsRow w0.heap.size e sz (.slice (some ⟨g',0,none⟩) (es.length+1) cap) (es++av).length (ef++ct):=by
  rw [dR];refine ⟨by rw [zT,g6,bj,zF],.inr ⟨g',cap,_,rfl,aK.1,fM,cA,nE,by rw [ny,bh],?_⟩⟩;show (ag cur.toList (es.length * sz) ct).take ((es.length+1) * sz)=ef++ct;unfold ag;rw [← jQ,zw,ZU,ZW,WN (by rw [zF];omega),zW,xc zc,show (es.length+1) * sz - es.length * sz=sz by rw [zF];omega,
   YY zc,yn (by omega:ct.length≤sz)]
 have eu:(execOp a.eval ⟨some d,.call { callee:=.builtin .append,args:=#[x,y],argTypes:=#[T,T] },ty,pos,after,g⟩).run c.P w=.ok (.value (.slice (some ⟨g',o * sz,none⟩) (n+1) cc)) W:=by
  simp [execOp,resolve,invoke,builtin,e1,hy,bf]
 have j8:=h.make (some id) d (E:=e) (sz:=sz) (es:=es++av) (v:=.slice (some ⟨g',0,none⟩) (es.length+1) cap) (xs:=ef++ct) (fun k hk=>by injection hk with hk;subst hk;rw [a0];rfl) (by rw [xT,hb];exact km)
  (fun q hq=>by
   rcases yv.1 hq with h'|h'
   ·exact gQ q h'
   ·exact gy q h')
  (fun f hf=>by
   rw [xq] at hf;rcases yv.1 hf with h'|h'
   ·exact jP f h'
   ·exact g4 f h') bO (by rw [xq];exact r3.append gu) (.inl (by rw [xT,hb];rfl)) (s':=s.wr [(id,{ s.ob id with ae:=.dead }),(d,⟨(s.ob d).aa+1,.own,e,sz,es++av⟩)]) (fun k=>by
    rw [lr];split
    ·rfl
    ·by_cases fX:id=k
     ·subst fX;simp
     ·rw [if_neg fX,if_neg (by simpa using fX)]) (fun k=>ab.bS _ _ _)
 have cu:(s.wr [(id,{ s.ob id with ae:=.dead }),(d,(⟨(s.ob d).aa+1,.own,e,sz,es++av⟩:zS))]).ob d=⟨(s.ob d).aa+1,.own,e,sz,es++av⟩:=by rw [lr,if_pos rfl]
 refine ⟨_,W,_,eu,j8,fun _ _=>?_,fun aQ bM e=>?_⟩
 ·rw [cu,yB];refine ⟨rfl,some ⟨g',o * sz,none⟩,cc,rfl,by omega,by show o+(n+1)≤(es++av).length;omega,(fun hb=>by simp [Value.ownBlock] at hb),fun b' bD=>?_⟩;obtain rfl:g'=b':=by simpa [Value.ownBlock] using bD
  refine ⟨o * sz,rfl,fun _=>rfl,fun dM eF=>?_⟩;rw [fM] at eF;injection eF with eF
  injection eF with eF _ _
  rw [← eF,ny,gW]
 ·simp only [FV.hands,zX,zU] at e;obtain ⟨e1,e2⟩:=e;replace e1:=e1.symm;replace e2:=e2.symm;subst e1;subst e2;rw [cu];exact zi _
theorem Vy (h:FR c.N w0 J s a w β) (d:Nat) {e:Nat} (hT:(c.ty T).k=.slice e) (he:(c.ty e).k≠.other) (aZ:0<(c.ty e).size) (x y:Operand) {id o n:Nat} (ex:s.ev x=.own id aa o n) (a0:(s.ob id).ae=.full) (az:(s.ob id).aa=aa)
  (hE:(s.ob id).E=e) (aA:(s.ob id).sz=(c.ty e).size) (ec:o+n=(s.ob id).es.length) {f2:FV} {av:List (List FV)} (ey:s.ev y=f2) (h2:Src s f2 (c.ty e).size av) (h1:av.length=1)
  (hb:(n+1) * (c.ty e).bytes≤140737488355328) (hm:n+1≤140737488355328) :
  yh c w0 J s a ⟨some d,.call { callee:=.builtin .append,args:=#[x,y],argTypes:=#[T,T] },ty,pos,after,g⟩ w (.own d ((s.ob d).aa+1) 0 (n+1)) [(id,{ s.ob id with ae:=.dead }),(d,⟨(s.ob d).aa+1,.own,e,(c.ty e).size,(s.ob id).es.drop o++av⟩)]:=by
 obtain ⟨dd,ii,z,ht⟩:=c.get hT zd;have hd:=ht.k;rw [hT] at hd;obtain rfl:=zO hd;obtain ⟨d',i',z',bH⟩:=c.get rfl he;have lg:z'.cells.size=(c.ty e).size:=by
  have:=(ax.zeros (w:=w) (I:=aH J w β s) bH.zr).1;rw [bH.zl] at this;simpa using this
 obtain ⟨gy,g4,ad,c2,ct,hy,bj,gu,bZ,gm⟩:=Src.iE h ey h2 h1;have ah:(s.ob id).ae≠.dead:=by rw [a0];decide
 have aW:(s.ob id).ae.row=true:=by rw [a0];rfl
 have hO:=h.obj id ah;have cN:=hO.e6 aW;unfold ZA at cN;rw [a0] at cN;obtain ⟨v1,ef,r1,r2,r3⟩:=(hO.bg aW).row;have gQ:=(hO.bg aW).wide;have jP:=(hO.bg aW).one;obtain ⟨A,cc,e1,e2,e3,e4,e5⟩:=(h.bc ex ah az).ex;rw [hE,aA] at r1;rw [aA] at gQ;have dR:((s.ob id).es.drop o++av).length=n+1:=by rw [zT,Zj,h1];omega
 have gR:∀ q∈(s.ob id).es.drop o++av,q.length=(c.ty e).size:=fun q hq=>by
  rcases yv.1 hq with h'|h'
  ·exact gQ q (yw h')
  ·exact gy q h'
 have bV:((s.ob id).es.drop o).flatten=(s.ob id).es.flatten.drop (o * (c.ty e).size):=xf _ gQ o;have eb:∀ f∈((s.ob id).es.drop o++av).flatten,f.one=true:=fun f hf=>by
  rw [xq] at hf;rcases yv.1 hf with h'|h'
  ·rw [bV] at h';exact jP f (yw h')
  ·exact g4 f h'
 have fh:ax w (aH J w β s) (ef.drop (o * (c.ty e).size)++ct) ((s.ob id).es.drop o++av).flatten:=by
  rw [xq,bV];exact (r3.drop _).append gu
 obtain ⟨v',w',bf,bO,km,aV⟩:∃ v' w',(Builtin.append_ #[T,T] ty #[a.eval x,a.eval y]).run c.P w=.ok v' w'∧w'.ownsRow w0.heap.size e (c.ty e).size v' (n+1) (ef.drop (o * (c.ty e).size)++ct)∧w.grownBy w' none∧
   (v'.ownBlock=none∨∃ b,v'.ownBlock=some b∧w.heap.size≤b):=by
  rw [e1,hy];cases eV:β id with
  | none=>
   obtain ⟨rfl,rfl⟩:=e4 eV;obtain rfl:n=0:=by omega
   rcases r1.2 with ⟨rfl,pU⟩|⟨g',cap,dM,rfl,_⟩
   ·have pI:ef=[]:=Zg (by rw [r1.1,pU,ZX]);subst pI;obtain ⟨v',w',q1,q2,q3,_,q5⟩:=run_append_own_at (P:=c.P) w w0.heap.size T ty e i' z' (c.ty e).size (c.ty e).bytes ht.u bH.info bH.zo bH.size bH.bytes lg aZ (.slice none 0 0) 0 [] (ZN _ _ _ _) ad 1 c2 ct bj bZ gm za (by simpa using hb) h.bF.size;refine ⟨v',w',q1,by simpa using q2,q3,?_⟩;rcases q5 with e|e
    ·exact .inl e
    ·exact .inr ⟨_,e,zi _⟩
   ·rw [eV] at r2;simp [Value.ownBlock] at r2
  | some b=>
   obtain ⟨o',rfl,k2,k3⟩:=e5 b eV;rcases r1.2 with ⟨rfl,_⟩|⟨g',cap,cur,rfl,_,dc,hn,nE,bh,jQ⟩
   ·rw [eV] at r2;simp [Value.ownBlock] at r2
   have gY:g'=b:=by rw [eV] at r2;simpa [Value.ownBlock] using r2
   subst gY;have eW:=cN g' cur eV (by rw [hE];exact dc);have gM:=k3 cur (by rw [hE];exact dc);rw [aA] at eW gM k2;have pn:o+cc=(s.ob id).es.length:=Xc aZ (by rw [← gM,eW]);obtain rfl:cc=n:=by omega
   have cm:ef.length=(s.ob id).es.length * (c.ty e).size:=r1.1;obtain ⟨v',w',q1,q2,q3⟩:=run_append_arg_grows (P:=c.P) w T ty e i' z' (c.ty e).size (c.ty e).bytes ht.u bH.info bH.zo bH.size bH.bytes lg aZ ⟨g',o',none⟩ cc cc (ef.drop (o * (c.ty e).size)) (by rw [Zj,cm,← ec,zF];omega)
    (fun j u hu=>by
     rw [yJ] at hu;have hj:=(zP.1 hu).1;have lU:cc≠0:=by rintro rfl;rw [cm,← ec,xG] at hj;omega
     have:=k2 (.inl lU);subst this;have aY:=r1.cells (g:=g') rfl _ u hu;rw [yi] at aY ⊢;rwa [zY] at aY) ad 1 c2 ct bj bZ zc (by unfold maxLen;omega) hb
   refine ⟨v',w',q1,n8 q2 h.bF.size,q3,?_⟩;cases mD:v'.ownBlock with
   | none => exact .inl rfl
   | some b2 => exact .inr ⟨b2, rfl, (q2.lt b2 mD).1⟩
 have eu:(execOp a.eval ⟨some d,.call { callee:=.builtin .append,args:=#[x,y],argTypes:=#[T,T] },ty,pos,after,g⟩).run c.P w=.ok (.value v') w':=by
  simp [execOp,resolve,invoke,builtin,bf]
 rw [← dR] at bO;have j8:=h.make (some id) d (E:=e) (sz:=(c.ty e).size) (es:=(s.ob id).es.drop o++av) (v:=v') (xs:=ef.drop (o * (c.ty e).size)++ct) (fun k hk=>by injection hk with hk;subst hk;rw [a0];rfl) (rZ km _) gR eb bO fh (.inr aV)
  (s' :=s.wr [(id,{ s.ob id with ae:=.dead }),(d,⟨(s.ob d).aa+1,.own,e,(c.ty e).size,(s.ob id).es.drop o++av⟩)]) (fun k=>by
      rw [lr];split
      ·rfl
      ·by_cases fX:id=k
       ·subst fX;simp
       ·rw [if_neg fX,if_neg (by simpa using fX)]) (fun k=>ab.bS _ _ _)
 have cu:(s.wr [(id,{ s.ob id with ae:=.dead }),(d,(⟨(s.ob d).aa+1,.own,e,(c.ty e).size,(s.ob id).es.drop o++av⟩:zS))]).ob d=⟨(s.ob d).aa+1,.own,e,(c.ty e).size,(s.ob id).es.drop o++av⟩:=by rw [lr,if_pos rfl]
 refine ⟨v',w',_,eu,j8,fun _ _=>?_,fun aQ bM e=>?_⟩
 ·rw [cu,yB];rw [← dR];exact Wa.dY bO rfl rfl rfl rfl
 ·simp only [FV.hands,zX,zU] at e;obtain ⟨e1,e2⟩:=e;replace e1:=e1.symm;replace e2:=e2.symm;subst e1;subst e2;rw [cu];exact zi _
theorem FR.fH (h:FR c.N w0 J s a w β) {id:Nat} (a0:(s.ob id).ae=.aB) {b:Nat} (hb:β id=some b) :
  ∃ cur cap,w.heap[b]? = some (.cells cur (s.ob id).E (0,0))∧(s.ob id).es.length≤cap∧cap≤maxLen∧cur.size=cap * (s.ob id).sz∧(cur.toList.take ((s.ob id).es.length * (s.ob id).sz)).length=(s.ob id).es.flatten.length∧
   ∀ (j:Nat) u f,(cur.toList.take ((s.ob id).es.length * (s.ob id).sz))[j]? = some u→(s.ob id).es.flatten[j]? = some f→VR w (aH J w β s) β s u f:=by
 have ah:(s.ob id).ae≠.dead:=by rw [a0];decide
 obtain ⟨v,us,r1,r2,r3,r4⟩:=((h.obj id ah).fo (by rw [a0];rfl) (by rw [a0];rfl)).row;rcases r1.2 with ⟨rfl,_⟩|⟨g',cap,cur,rfl,_,dc,hn,hm,bh,jQ⟩
 ·rw [← r2] at hb;simp [Value.ownBlock] at hb
 ·have gY:g'=b:=by rw [← r2] at hb;simpa [Value.ownBlock] using hb
  subst gY;subst jQ;exact ⟨cur,cap,dc,hn,hm,bh,r3,r4⟩
theorem Vu {α:Type}:∀ (es:List (List α)),(∀ e∈es,e.length=1)→∀ (j:Nat) f,es[j]? = some [f]→es.flatten[j]? = some f
 | [], _, j, f, h => by simp at h
 | e :: es, he, 0, f, h => by simp at h; subst h; simp
 | e :: es, he, j+1, f, h => by
  have h1:=he e zd;obtain ⟨x,rfl⟩:=WH.1 h1;simp at h;simpa using Vu es (fun q hq=>he q (by simp [hq])) j f h
theorem Vv {α:Type}:∀ (es:List (List α)),(∀ e∈es,e.length=1)→∀ (j:Nat) f,(es.set j [f]).flatten=es.flatten.set j f
 | [], _, j, f => by simp
 | e :: es, he, 0, f => by
  obtain ⟨x,rfl⟩:=WH.1 (he e zd);simp
 | e :: es, he, j+1, f => by
  obtain ⟨x,rfl⟩:=WH.1 (he e zd);simpa using Vv es (fun q hq=>he q (by simp [hq])) j f
theorem qY (h:FR c.N w0 J s a w β) (hk:(c.ty T).k.aM = some false) (hz:(c.ty T).size=1) (x:Operand) {id:Nat} (ex:s.ev x=.ptr id aa j 0) (a0:(s.ob id).ae=.aB) (az:(s.ob id).aa=aa) (aA:(s.ob id).sz=1) {f:FV} (hj:(s.ob id).es[j]? = some [f]) :
  yh c w0 J s a ⟨dst,.load T x,ty,pos,after,g⟩ w f []:=by
 have ah:(s.ob id).ae≠.dead:=by rw [a0];decide
 obtain ⟨_,b,hb,hv⟩:=h.bJ ex ah az;obtain ⟨cur,cap,aV,hn,hm,bh,hl,hr⟩:=h.fH a0 hb;have hH:=(h.obj id ah).fo (by rw [a0];rfl) (by rw [a0];rfl);have hw:=hH.wide;rw [aA] at hv bh hl hr hw;have ja:=(zP.1 hj).1;have nI:=Vu _ hw j f hj;have k8:j<cur.size:=by omega
 have hu:(cur.toList.take ((s.ob id).es.length * 1))[j]? = some cur[j]:=by
  rw [yt,if_pos zc];simp [k8]
 have aY:w.cell? ⟨b,j,none⟩=some cur[j]:=by
  have:=cell_of_row w b j cur (s.ob id).E (0,0) aV;rw [this];simp [k8]
 refine .pure h (v:=cur[j]) ?_ (hr j _ f hu nI) (fun aQ bM e=>hH.cE f (zN nI) aQ bM e);have:(loadVar T ⟨b,j,none⟩).run c.P w=.ok cur[j] w:=by simp [loadVar,Yr hk,load,Sem.run,aY]
 simp [execOp,Instr.loadAt,hv,Instr.sureAddr,this]
def kN (s:ab) (f:FV):Prop:=f.one=true∨(∃ id aa o n,f=.own id aa o n∧s.live id aa)∨(∃ id aa j o,f=.ptr id aa j o∧s.live id aa)∨(∃ k fs,f=.wrap (.fn k) fs)∨∃ id aa,f=.omap id aa∧s.live id aa
theorem kN.val (h:FR c.N w0 J s a w β) {f:FV} (ey:s.ev y=f) (hf:kN s f):(a.eval y).cells=#[a.eval y]∧(a.eval y).oneCell'=true:=by
 rcases hf with h1|⟨id,aa,o,n,rfl,hl⟩|⟨id,aa,j,o,rfl,hl⟩|⟨k,fs,rfl⟩|⟨id,aa,rfl,hl⟩
 ·have hn:f.hand=none:=by cases f <;> first|rfl|(simp [FV.one] at h1)
  have hr:=h.aP ey hn;generalize a.eval y=v at hr;cases hr <;> first|exact ⟨rfl,rfl⟩|(simp [FV.one] at h1)
 ·obtain ⟨A,cc,e,_⟩:=(h.bc ey hl.1 hl.2).ex;rw [e];exact ⟨rfl,rfl⟩
 ·obtain ⟨_,b,_,e⟩:=h.bJ ey hl.1 hl.2;rw [e];exact ⟨rfl,rfl⟩
 ·have hv:=h.ev y;rw [ey] at hv;obtain ⟨us,e,_⟩:=hv;rw [e];exact ⟨rfl,rfl⟩
 ·obtain ⟨_,b,_,e⟩:=h.dO ey hl.1 hl.2;rw [e];exact ⟨rfl,rfl⟩
theorem UC (h:FR c.N w0 J s a w β) (hk:(c.ty T).k≠.other) (hz:(c.ty T).size=1) (x y:Operand) {id:Nat} (ex:s.ev x=.ptr id aa j 0) (a0:(s.ob id).ae=.aB) (az:(s.ob id).aa=aa) (aA:(s.ob id).sz=1) {f:FV} (ey:s.ev y=f)
  (hf:kN s f) (hj:j<(s.ob id).es.length) :
  ∃ w',(execOp a.eval ⟨dst,.store T x y,ty,pos,after,g⟩).run c.P w=.ok .skip w'∧FR c.N w0 J (s.wr [(id,{ s.ob id with es:=(s.ob id).es.set j [f] })]) a w' β:=by
 have ah:(s.ob id).ae≠.dead:=by rw [a0];decide
 obtain ⟨_,b,hb,kH⟩:=h.bJ ex ah az;obtain ⟨cur,cap,aV,hn,hm,bh,hl,hr⟩:=h.fH a0 hb;have hH:=(h.obj id ah).fo (by rw [a0];rfl) (by rw [a0];rfl);have hw:=hH.wide;obtain ⟨eW,gM⟩:=kN.val h ey hf;have jl:=h.ev y;have ee:∀ aQ bM,(aQ,bM)∈f.hands→bM≤(s.ob aQ).aa:=fun aQ bM e=>h.bY y (by rw [ey];exact e);rw [ey] at jl;generalize hy:a.eval y=v at eW gM jl;rw [aA] at kH bh hl hr hw;have bA:=run_storeCells_at c.P b j (s.ob id).E [v] 0 cur w aV yd (by simpa using gM);simp only [xG] at bA;have k8:j<cur.toList.length:=by simp;omega
 obtain ⟨W,hW⟩:∃ W,W=w.setRow b (ag cur.toList j [v]).toArray:=⟨_,rfl⟩
 have fM:W.heap[b]? = some (.cells (cur.toList.set j v).toArray (s.ob id).E (0,0)):=by rw [hW,qE v k8];exact yp w b _ cur _ aV
 have hg:w.grownBy W (some b):=by
  subst hW;exact ⟨rfl,rfl,rfl,by simp [World.setRow],fun k hk bK=>yO w b k _ (fun e=>bK (by rw [e]))⟩
 have aK:=(h.obj id ah).lt hb;refine ⟨W,?_,?_⟩
 ·have hs:=yb (c:=c) hk w;have ji : (storeCells ⟨b,j,none⟩ [v]).run c.P w=.ok () W:=by rw [hW];exact bA
  simp [execOp,Instr.storeAt,storeVar,kH,hy,Instr.sureAddr,hs,hz,eW,ji]
 ·have cy:∀ k,(s.wr [(id,{ s.ob id with es:=(s.ob id).es.set j [f] })]).ob k=if id=k then { s.ob id with es:=(s.ob id).es.set j [f] } else s.ob k:=fun k=>ab.aj s id _ k
  have hI:∀ b',aH J w β s b'→aH J W β (s.wr [(id,{ s.ob id with es:=(s.ob id).es.set j [f] })]) b'∧W.heap[b']? = w.heap[b']?:=fun b' aG=>by
   refine ⟨⟨xI aG.1 hg.size,aG.2.1,fun aQ ba=>?_⟩,hg.block b' aG.1 (fun e=>aG.2.2 id (by rw [a0];rfl) (by rw [hb];exact e.symm))⟩;rw [cy] at ba;split at ba
   ·rename_i e;subst e;exact aG.2.2 id (by rw [a0];rfl)
   ·exact aG.2.2 aQ ba
  refine h.step (C:=fun k=>k=id) h.size h.defers (h.bF.grown hg h.bF.size (fun k hk=>by injection hk with hk;subst hk;exact aK.1)) hI (fun k=>.inl ⟨rfl,rfl⟩) (fun k hC=>?_) (fun k hC=>?_) (fun k hC bj pP=>?_) (fun k hC bj T'=>?_) ?_ (fun b' jb hn=>⟨hg.block b' jb (fun e=>hn id ah (by rw [hb];exact e.symm)),fun k bj=>hn k (by rw [cy] at bj;split at bj;(· rename_i e;subst e;exact ah);(· exact bj))⟩)
  ·refine ⟨by rw [cy,if_neg (fun e=>hC e.symm)],rfl,fun bj b' aG=>hg.block b' ((h.obj k bj).lt aG).2 (fun e=>hC (h.inj k id b' bj ah aG (by rw [hb];exact e.symm)))⟩
  ·subst hC;rw [cy,if_pos rfl];exact zi _
  ·subst hC;refine ⟨ah,rfl,by rw [cy,if_pos rfl],by rw [cy,if_pos rfl],fun v2 o n iB=>?_⟩;rw [cy,if_pos rfl];obtain ⟨A,cc,q1,q2,q3,q4,q5⟩:=iB.ex;refine ⟨iB.row,A,cc,q1,q2,by simpa using q3,q4,fun b2 aG=>?_⟩;obtain ⟨o',k1,k2,k3⟩:=q5 b2 aG;refine ⟨o',k1,k2,fun dM eF=>?_⟩;rw [hb] at aG;injection aG with aG
   subst aG;dsimp only at eF;rw [fM] at eF;injection eF with eF
   injection eF with eF _ _
   rw [← eF];have:=k3 cur aV;simpa using this
  ·subst hC;rw [cy,if_pos rfl];have eC:∀ aQ,(s.ob aQ).aa≤((s.wr [(k,{ s.ob k with es:=(s.ob k).es.set j [f] })]).ob aQ).aa:=fun aQ=>by
    rw [cy];split
    ·rename_i e;subst e;exact zi _
    ·exact zi _
   have bV:=Vv _ hw j f;have lY:(s.ob k).es.flatten.length=(s.ob k).es.length:=by have:=yD hw;omega
   refine .mK ⟨fun e he=>?_,fun f' cx aQ bM e=>?_,.slice (some ⟨b,0,none⟩) (s.ob k).es.length cap,(cur.toList.take ((s.ob k).es.length * 1)).set j v,?_,by rw [hb];rfl,?_,fun i u f' hu cx=>?_⟩ a0
   ·rw [aA];rcases YW he with h'|h'
    ·exact hw e h'
    ·subst h';rfl
   ·dsimp only at cx;rw [bV] at cx;refine xa ?_ (eC aQ);rcases YW cx with h'|h'
    ·exact hH.cE f' h' aQ bM e
    ·subst h';exact ee aQ bM e
   ·rw [aA];simp only [Zk];refine ⟨by rw [Zk,hl,lY,xr],.inr ⟨b,cap,_,rfl,aK.1,fM,hn,hm,by simpa using bh,?_⟩⟩;simp only [List.take_set]
   ·dsimp only;rw [Zk,hl,bV,Zk]
   ·dsimp only at cx;rw [bV] at cx;rw [List.getElem?_set] at hu cx;by_cases iY:j=i
    ·subst iY;rw [if_pos rfl] at hu cx;split at hu
     ·split at cx
      ·injection hu with hu
       injection cx with cx
       subst hu;subst cx;exact T' _ _ jl ee
      ·cases cx
     ·cases hu
    ·rw [if_neg iY] at hu cx;exact T' _ _ (hr i u f' hu cx) (hH.cE f' (zN cx))
  ·intro k k' b' bj cX e e';refine h.inj k k' b' ?_ ?_ e e'
   ·rw [cy] at bj;split at bj
    ·rename_i e;subst e;exact ah
    ·exact bj
   ·rw [cy] at cX;split at cX
    ·rename_i e;subst e;exact ah
    ·exact cX
end
end
section
open Go.RowKit Go.Maps
section
variable {c:Ctx} {w0 w:World} {J:JJ} {s:ab} {a:Act} {β:Nat→Option Nat} {dst:Option Nat} {ty:TypeId} {pos:String} {after:Array Edge} {g:Option (Nat×Bool)}
theorem FR.lF {s' : ab} (h:FR N w0 J s a w β) (hg:∀ k,s'.get k=s.get k) (ho:∀ k,s'.ob k=s.ob k):FR N w0 J s' a w β:=by
 refine h.step (C:=fun _=>False) h.size h.defers h.bF (fun b hb=>⟨⟨hb.1,hb.2.1,fun id hl=>hb.2.2 id (by rw [← ho];exact hl)⟩,rfl⟩) (fun k=>.inl ⟨rfl,hg k⟩) (fun id _=>⟨ho id,rfl,fun _ _ _=>rfl⟩) (fun _ h=>h.elim) (fun _ h=>h.elim) (fun _ h=>h.elim) ?_ (fun b _ hn=>⟨rfl,fun id hl=>hn id (by rw [← ho];exact hl)⟩);intro id aQ b hl ba;rw [ho] at hl ba;exact h.inj id aQ b hl ba
theorem qD (L:List α) (o:Nat):ag L o []=L:=by
 unfold ag;simp
theorem ZF {α:Type}:∀ {es:List (List α)},(∀ e∈es,e.length=1)→es.flatten.length=es.length
 | [], _ => rfl
 | e :: es, h => by
  rw [yr,zT,ZF (fun q hq=>h q (by simp [hq])),h e zd];simp;omega
theorem Vw {es ds:List (List α)} (he:∀ e∈es,e.length=1) (hd:∀ e∈ds,e.length=1) (o:Nat):(ag es o ds).flatten=ag es.flatten o ds.flatten:=by
 unfold ag;rw [xq,xq,xA es he,xf es he,ZF hd,xr,xr]
theorem rS (h:FR c.N w0 J s a w β) {T2 e:Nat} (hT:(c.ty T).k=.slice e) (he:(c.ty e).k≠.other) (hz:(c.ty e).size=1) (x y:Operand) {id o m:Nat} (ex:s.ev x=.own id aa o m) (hl:(s.ob id).ae=.own) (hv:(s.ob id).aa=aa) (aA:(s.ob id).sz=1)
  {f2:FV} {av:List (List FV)} (ey:s.ev y=f2) (h2:Src s f2 1 av) :
  yh c w0 J s a ⟨dst,.call { callee:=.builtin .copy,args:=#[x,y],argTypes:=#[T,T2] },ty,pos,after,g⟩ w (.int .i64 ((av.take m).length:Nat)) [(id,{ s.ob id with es:=ag (s.ob id).es o (av.take m) })]:=by
 have ah:(s.ob id).ae≠.dead:=by rw [hl];decide
 have aW:(s.ob id).ae.row=true:=by rw [hl];rfl
 obtain ⟨dd,ii,z,ht⟩:=c.get hT zd;have hd:=ht.k;rw [hT] at hd;obtain rfl:=zO hd;obtain ⟨d',i',z',bH⟩:=c.get rfl he;have nS:(c.P.info? e).map (·.size)=some 1:=by rw [bH.info,← hz,← bH.size];rfl
 obtain ⟨gy,g4,A2,c2,ct,hy,gM,gu,lJ,bZ⟩:=h.src ey h2;obtain ⟨A,cc,e1,e2,e3,e4,e5⟩:=(h.bc ex ah hv).ex;have gb:ct.length=av.length:=by rw [gu.1,ZF gy]
 have ku:(av.take m).length=Nat.min av.length m:=by rw [zW,Nat.min_comm]
 by_cases h0:av.take m=[]
 ·have hn:Nat.min av.length m=0:=by rw [← ku,h0];rfl
  have bf:=run_copy_none (P:=c.P) w T T2 ty e A A2 m cc av.length c2 ht.u nS hn;refine ⟨goInt 0,w,β,?_,?_,?_,fun _ _ hm=>(FV.aS rfl hm).elim⟩
  ·simp [execOp,resolve,invoke,builtin,e1,hy,bf]
  ·refine h.lF (fun k=>ab.bS _ _ _) (fun k=>?_);rw [h0,qD];show (ab.set s id _).ob k=_;rw [ab.aj];split
   ·rename_i e;subst e;rfl
   ·rfl
  ·rw [h0];exact Rd.int _ _
 ·have jN:0<(av.take m).length:=by
   rcases WM (av.take m).length with h'|h'
   ·exact absurd (Zg h') h0
   ·exact h'
  have sY:0<m:=by rw [zW] at jN;omega
  obtain ⟨b,hb⟩:∃ b,β id=some b:=by
   cases aG:β id with
   | none => obtain ⟨q1, q2⟩ := e4 aG; omega
   | some b => exact ⟨b, rfl⟩
  obtain ⟨o',rfl,k2,k3⟩:=e5 b hb;have:=k2 (.inl zc);subst this;obtain ⟨ad,rfl⟩:∃ ad,A2=some ad:=by
   cases hA:A2 with
   | none => obtain ⟨_, q⟩ := lJ hA; subst q; simp at jN
   | some ad => exact ⟨ad, rfl⟩
  obtain ⟨cur,cap,aV,hn,hm,bh,hr,aB⟩:=h.block ah aW hb;have hw:=((h.obj id ah).bg aW).wide;have bn:=((h.obj id ah).bg aW).one;rw [aA] at hw bh hr aB e1;simp only [xr] at bh hr aB e1;generalize jK:(s.ob id).es=es at hn hr aB hw bn e3;have jJ:∀ q∈av.take m,q.length=1:=fun q hq=>gy q (yx hq);have iW:(ct.take m).length=(av.take m).length:=by rw [zW,zW,gb]
  have bV:(av.take m).flatten=av.flatten.take m:=by rw [xA av gy,xr]
  have mr:ax w (aH J w β s) (ct.take m) (av.take m).flatten:=by rw [bV];exact gu.take m
  have dD:∀ f∈(av.take m).flatten,f∈av.flatten:=fun f hf=>by rw [bV] at hf;exact yx hf
  have lI:∀ u∈ct.take m,u.oneCell'=true:=fun u hu=>by
   obtain ⟨j,hj,rfl⟩:=yl hu;have ew:j<(av.take m).flatten.length:=by rw [← mr.1];exact hj
   exact (mr.2 j _ (av.take m).flatten[j] (by simp only [yY hj]) (by simp only [yY ew])).dh (g4 _ (dD _ (zZ ew)))
  have hle:(av.take m).length≤m:=by rw [zW];omega
  have dQ:o+(ct.take m).length≤cur.size:=by rw [iW,bh];omega
  have bf:=run_copy_row (P:=c.P) w T T2 ty e b o m cc ad av.length c2 cur (s.ob id).E (ct.take m) ht.u nS aV (by rw [iW,ku]) (fun j u hu=>bZ ad rfl j u (by rw [yt] at hu;split at hu;exact hu;cases hu)) dQ lI;obtain ⟨W,hW⟩:∃ W,W=w.setRow b (ag cur.toList o (ct.take m)).toArray:=⟨_,rfl⟩
  have fM:W.heap[b]? = some (.cells (ag cur.toList o (ct.take m)).toArray (s.ob id).E (0,0)):=by rw [hW];exact yp w b _ cur _ aV
  have eN:w.grownBy W (β id):=by
   subst hW;refine ⟨rfl,rfl,rfl,by simp [World.setRow],fun k hk bK=>yO w b k _ (fun e=>bK (by rw [e,hb]))⟩
  have cm:cur.toList.length=cap:=by simpa using bh
  have mC:(cur.toList.take es.length).length=es.length:=by rw [zW,cm];omega
  have iz:(ag es o (av.take m)).length=es.length:=yc zc;have bO : W.ownsRow w0.heap.size (s.ob id).E 1 (.slice (some ⟨b,0,none⟩) es.length cap) (ag es o (av.take m)).length (ag (cur.toList.take es.length) o (ct.take m)):=by
   rw [iz];refine ⟨?_,.inr ⟨b,cap,_,rfl,((h.obj id ah).lt hb).1,fM,hn,hm,?_,?_⟩⟩
   ·rw [yc zc,mC,xr]
   ·simp only [ZT];rw [yc zc,cm,xr]
   ·rw [xr];have key:∀ (L p:Nat) (cs ds:List Value),p+ds.length≤L→L≤cs.length→(ag cs p ds).take L=ag (cs.take L) p ds:=by
     intro L p cs ds h1 h2;unfold ag;rw [zw,zw,ZU,zW,xc zc,ZU,ZW,ZW,WN zc,xc zc,yn (by omega:ds.length≤L - p),List.drop_take];congr 3;omega
    exact key _ _ _ _ zc zc
  refine ⟨goInt (ct.take m).length,W,β,?_,?_,?_,fun _ _ hm=>(FV.aS rfl hm).elim⟩
  ·have ix : (Builtin.copy_ #[T,T2] ty #[.slice (some ⟨b,o,none⟩) m cc,.slice (some ad) av.length c2]).run c.P w=.ok (goInt (ct.take m).length) W:=by rw [hW];exact bf
   obtain ⟨V,hV⟩:∃ V,V=goInt ((ct.take m).length:Nat):=⟨_,rfl⟩
   rw [← hV] at ix ⊢;simp [execOp,resolve,invoke,builtin,e1,hy,ix]
  ·refine h.write id (es:=ag es o (av.take m)) (v:=.slice (some ⟨b,0,none⟩) es.length cap) (xs:=ag (cur.toList.take es.length) o (ct.take m)) hl eN ?_ ?_ ?_ hb.symm ?_ ?_ ?_ (fun k=>?_) (fun k=>ab.bS _ _ _)
   ·rw [aA];intro q hq;rcases Yz hq with hq|hq
    ·exact hw q hq
    ·exact jJ q hq
   ·intro f hf;obtain ⟨q,hq,kl⟩:=ym.1 hf;rcases Yz hq with hq|hq
    ·exact bn f (ym.2 ⟨q,hq,kl⟩)
    ·exact g4 f (ym.2 ⟨q,yx hq,kl⟩)
   ·rw [aA];exact bO
   ·rw [Vw hw jJ];exact hr.ag mr _
   ·rw [jK,iz]
   ·intro b' lB lC bD h1 h2;rw [hb] at bD;injection bD with bD
    subst bD;rw [aV] at h1;injection h1 with h1
    injection h1 with h1 _ _
    subst h1;rw [fM] at h2;injection h2 with h2
    injection h2 with h2 _ _
    rw [← h2];simp only [ZT];rw [yc zc,cm,bh]
   ·rw [← jK];exact ab.aj s id _ k
  ·rw [← iW];exact Rd.int _ _
def xL (P:Program) (T:Nat):Bool:=
 match P.underlying T with
 | some (.interface _) => true
 | _ => false
theorem XQ (hk:(c.ty T).k≠.other) (c0:xL c.P T=false) (x:Operand):(execOp a.eval ⟨dst,.makeInterface T x,ty,pos,after,g⟩).run c.P w=.ok (.value (.iface T (a.eval x))) w:=by
 obtain ⟨d,i,z,ht⟩:=c.get rfl hk;unfold xL at c0;rw [ht.u] at c0;cases d <;> first|(cases c0;done)|(simp [execOp,Instr.makeInterface,run_underlying ht.u];done)
theorem VF (h:FR c.N w0 J s a w β) (hk:(c.ty T).k≠.other) (c0:xL c.P T=false) (x:Operand) {f:FV} (ex:s.ev x=f) (hn:f.hand=none) :
  yh c w0 J s a ⟨dst,.makeInterface T x,ty,pos,after,g⟩ w (.iface T f) []:=
 .rd h (v:=.iface T (a.eval x)) (XQ hk c0 x) (.iface T _ _ (h.aP ex hn)) rfl
def FV.bI:FV→Bool
 | .wrap _ _ => false
 | _ => true
theorem FV.eS {f:FV} (h:f.bI=true):∀ k fs,f≠.wrap k fs:=by rintro k fs rfl;cases h
theorem ql {k:Wk} {fs:List FV} {id:Nat} (h:(id,aa)∈(FV.wrap k fs).hands):∃ f∈fs,f.hand=some (id,aa):=xF.1 h
theorem XD (h:FR c.N w0 J s a w β) {k:Wk} {xs:List Operand} {fs:List FV} (hx:xs.map s.ev=fs) (hn:fs.all FV.bI=true) {o:Oper} (hr:(execOp a.eval o).run c.P w=.ok (.value (k.mk (xs.map a.eval))) w):yh c w0 J s a o w (.wrap k fs) []:=by
 subst hx;refine .pure h hr ⟨xs.map a.eval,rfl,by simp,fun j u f hu hf=>?_⟩ fun id aa hm=>?_
 ·rw [yZ] at hu hf;cases hj:xs[j]? with
  | none => rw [hj] at hu; cases hu
  | some x =>
   rw [hj] at hu hf;injection hu with hu;injection hf with hf
   subst hu;subst hf;have hm:s.ev x∈xs.map s.ev:=zK.2 ⟨x,zN hj,rfl⟩;exact (h.ev x).mP (FV.eS (zC.1 hn _ hm))
 ·obtain ⟨f,hf,e⟩:=ql hm;obtain ⟨x,s4,rfl⟩:=zK.1 hf;refine h.bY x ?_;have hw:=zC.1 hn _ hf;generalize s.ev x=q at e hw;cases q with
  | own|ptr|omap => injection e with e; rw [← e]; exact zX.2 rfl
  | wrap => cases hw
  | _ => cases e
theorem WV (h:FR c.N w0 J s a w β) (hk:(c.ty T).k≠.other) (c0:xL c.P T=false) (x:Operand) {f:FV} (ex:s.ev x=f) (hn:f.bI=true) :
  yh c w0 J s a ⟨dst,.makeInterface T x,ty,pos,after,g⟩ w (.wrap (.lh T) [f]) []:=
 XD h (k:=.lh T) (xs:=[x]) (by simp [ex]) (by simpa using hn) (XQ hk c0 x)
theorem VE (h:FR c.N w0 J s a w β) {f:Nat} {aE:List FV} (hx:xs.toList.map s.ev=aE) (hn:aE.all FV.bI=true) :
  yh c w0 J s a ⟨dst,.makeFunc (.func f) #[] xs,ty,pos,after,g⟩ w (.wrap (.fn f) aE) []:=by
 refine XD h (k:=.fn f) (xs:=xs.toList) hx hn ?_;have:(xs.toList.map a.eval).toArray=xs.map a.eval:=by apply ZB;simp
 simp [execOp,Instr.makeFunc,Wk.mk,this]
theorem qU (h:FR c.N w0 J s a w β) {f:Nat} {aE:List FV} (hx:xs.toList.map s.ev=aE) (hn:aE.all FV.bI=true) :
  yh c w0 J s a ⟨dst,.makeFunc (.func f) xs #[],ty,pos,after,g⟩ w (.wrap (.bound f) aE) []:=by
 refine XD h (k:=.bound f) (xs:=xs.toList) hx hn ?_;have:(xs.toList.map a.eval).toArray=xs.map a.eval:=by apply ZB;simp
 simp [execOp,Instr.makeFunc,Wk.mk,this]
theorem VG (h:FR c.N w0 J s a w β) {T2:Nat} (hk:(c.ty T).k≠.other) (c0:xL c.P T=false) (x:Operand) {f:FV} (ex:s.ev x=.iface T f) (hn:f.hand=none) :
  yh c w0 J s a ⟨dst,.typeAssert x T2 T false,ty,pos,after,g⟩ w f []:=by
 have hr:=h.aP ex rfl;generalize hx:a.eval x=v at hr;cases hr with
 | iface t v f hr =>
  refine .rd h (v:=v) ?_ hr hn;obtain ⟨d,i,z,ht⟩:=c.get rfl hk;unfold xL at c0;rw [ht.u] at c0;cases d <;> first|(cases c0;done)|(simp [execOp,Instr.typeAssert,run_underlying ht.u,hx];done)
inductive Uo (s:ab):FV→Bool→Prop where
 | nil:Uo s .nil true
 | own (id aa o n:Nat) (hl:s.live id aa) (hn:0<n):Uo s (.own id aa o n) false
 | list (sz:Nat) (es:List (List FV)) (hn:es ≠ []):Uo s (.list sz es) false
theorem FR.kI (h:FR c.N w0 J s a w β) {f:FV} (ex:s.ev x=f) (hb:Uo s f b):∃ A n cc,a.eval x=.slice A n cc∧A.isNone=b:=by
 cases hb with
 | nil => exact ⟨none, 0, 0, h.bX ex, rfl⟩
 | own id aa o n hl hn =>
  obtain ⟨A,cc,e1,e2,e3,e4,e5⟩:=(h.bc ex hl.1 hl.2).ex;refine ⟨A,n,cc,e1,?_⟩;cases hb:β id with
  | none => obtain ⟨_, q⟩ := e4 hb; omega
  | some b => obtain ⟨o', rfl, _⟩ := e5 b hb; rfl
 | list sz es hn=>
  have hr:=h.aP ex rfl;generalize hx:a.eval x=v at hr;cases hr with
  | list A m cc sz es us hm hc hw ho hA hl iw =>
   refine ⟨A,m,cc,rfl,?_⟩;obtain ⟨b,off,rfl,_⟩:=hA (fun e=>hn (Zg zc));rfl
theorem qX (h:FR c.N w0 J s a w β) (op:BinOp) {T2 e:Nat} (hT:(c.ty T).k=.slice e) (x y:Operand) {f:FV} (ex:s.ev x=f) (hb:Uo s f b) (ey:s.ev y=.nil) (bu:op=.eql∨op=.neq) :
  yh c w0 J s a ⟨dst,.binOp op T x y T2,ty,pos,after,g⟩ w (.bool (if op=.eql then b else !b)) []:=by
 obtain ⟨dd,ii,z,ht⟩:=c.get hT zd;have hd:=ht.k;rw [hT] at hd;obtain rfl:=zO hd;obtain ⟨A,n,cc,e1,rfl⟩:=h.kI ex hb;have e2:=h.bX ey;have heq:(Op.equalIn Op.maxDepth T (.slice A n cc) (.slice none 0 0)).run c.P w=.ok A.isNone w:=by
  show (Op.equalIn (9999+1) T (.slice A n cc) (.slice none 0 0)).run c.P w=_;unfold Op.equalIn;cases A <;> simp [run_underlying ht.u]
 refine .rd h (v:=.bool (if op=.eql then A.isNone else !A.isNone)) ?_ (.bool _) rfl;rcases bu with rfl|rfl
 ·simp [execOp,e1,e2,eqGuard,binOp,Op.equal,heq]
 ·simp [execOp,e1,e2,eqGuard,binOp,Op.equal,heq]
end
def og (P:Program) (T:Nat) (X Y:List FV) (b:Bool):Prop:=P.eqGuardType P.depth T=false∧∀ w:World,(Op.equalIn 10000 T (.agg (X.map FV.bL).toArray) (.agg (Y.map FV.bL).toArray)).run P w=.ok b w
theorem qW {w0:World} {s:ab} (h:FR c.N w0 J s a w β) (op:BinOp) {T T2:TypeId} (x y:Operand) {X Y:List FV} (ex:s.ev x=.agg X) (hX:X.all FV.ay=true) (ey:s.ev y=.agg Y) (hY:Y.all FV.ay=true) (hl:og c.P T X Y b) (bu:op=.eql∨op=.neq) :
  yh c w0 J s a ⟨dst,.binOp op T x y T2,ty,pos,after,g⟩ w (.bool (if op=.eql then b else !b)) []:=by
 have e1:a.eval x=.agg (X.map FV.bL).toArray:=(h.aP ex rfl).bE hX;have e2:a.eval y=.agg (Y.map FV.bL).toArray:=(h.aP ey rfl).bE hY;obtain ⟨h1,h2⟩:=hl;have h3:=fun op=>run_eqGuard_agg (P:=c.P) (w:=w) op T x y (X.map FV.bL).toArray (Y.map FV.bL).toArray h1;rcases bu with rfl|rfl
 ·refine .rd h (v:=.bool b) ?_ (.bool _) rfl;simp only [execOp,e1,e2,yR,h3,xy,run_eql_struct,h2,yS]
 ·refine .rd h (v:=.bool (!b)) ?_ (.bool _) rfl;simp only [execOp,e1,e2,yR,h3,xy,run_neq_struct,h2,yS]
def kU (P:Program) (f:Nat):Bool:=
 match P.funcs[f]? with
 | some fn => fn.body.isSome && fn.name != "runtime.NumGoroutine"
 | none => false
inductive Vl where
 | fr|sh|ow (E sz:Nat)
 deriving DecidableEq,Inhabited
def lv (w w' : World) (I:Nat→Prop):Vl→Value→FV→Prop
 | .fr, v, f => Rd w' (fun b => w.heap.size ≤ b ∧ b<w'.heap.size) v f
 | .sh, v, f => Rd w' (fun b => I b ∨ (w.heap.size ≤ b ∧ b<w'.heap.size)) v f
 | .ow E sz, v, f => ∃ es us, f=.list sz es ∧ (∀ e ∈ es, e.length=sz) ∧ (∀ f ∈ es.flatten, f.one=true) ∧ w'.ownsRow w.heap.size E sz v es.length us ∧ ax w' (fun b => w.heap.size ≤ b ∧ b<w'.heap.size ∧ v.ownBlock ≠ some b) us es.flatten
structure zV (P:Program) (f:Nat) (args:List FV) (m:Vl) (res:FV):Prop where
 go:kU P f=true
 hand:res.hand=none
 calls:∀ (w:World) (I:Nat→Prop) (vs:List Value),(∀ b,I b→b<w.heap.size)→ax w I vs args→Calls P f vs.toArray w fun e w'=>∃ v,e=.returned v∧Below w.heap.size w w'∧lv w w' I m v res
inductive FV.le:FV→FV→Prop where
 | refl (f:FV):FV.le f f
 | undef (f:FV):FV.le f .undef
 | nil (sz:Nat):FV.le .nil (.list sz [])
 | j4 {fs gs:List FV} (hl:fs.length=gs.length) (h:∀ (j:Nat) f g, fs[j]? = some f → gs[j]? = some g → FV.le f g):FV.le (.agg fs) (.agg gs)
 | kM {fs gs:List FV} (hl:fs.length=gs.length) (h:∀ (j:Nat) f g, fs[j]? = some f → gs[j]? = some g → FV.le f g):FV.le (.bw fs) (.bw gs)
inductive e7:List FV→List FV→Prop where
 | nil:e7 [] []
 | cons {f g:FV} {fs gs:List FV} (h:FV.le f g) (hs:e7 fs gs):e7 (f :: fs) (g :: gs)
theorem e7.get {fs gs:List FV} (h:e7 fs gs):fs.length=gs.length∧∀ (j:Nat) f g,fs[j]? = some f→gs[j]? = some g→FV.le f g:=by
 induction h with
 | nil => exact ⟨rfl, by simp⟩
 | cons h hs ih =>
  refine ⟨by simp [ih.1],fun j f g hf hg=>?_⟩;cases j with
  | zero => simp at hf hg; subst hf; subst hg; exact h
  | succ j => exact ih.2 j f g (by simpa using hf) (by simpa using hg)
theorem FV.le.agg {fs gs:List FV} (h:e7 fs gs):FV.le (.agg fs) (.agg gs):=.j4 h.get.1 h.get.2
theorem FV.le.bw {fs gs:List FV} (h:e7 fs gs):FV.le (.bw fs) (.bw gs):=.kM h.get.1 h.get.2
theorem Rd.le {f g:FV} (h:FV.le f g):∀ {v:Value},Rd w I v f→Rd w I v g:=by
 induction h with
 | refl f => exact id
 | undef f => exact fun _ => .undef _
 | nil sz => intro v h; cases h; exact .list none 0 0 sz [] [] rfl (zi _) zd zd zd zd zd
 | @j4 fs gs hl h ih=>
  intro v hv;cases hv with
  | agg us fs ba hr =>
   refine .agg us gs (ba.trans hl) fun j u g hu hg=>?_;have hj:j<fs.length:=by rw [hl];exact (zP.1 hg).1
   exact ih j fs[j] g (by simp [hj]) hg (hr j u _ hu (by simp [hj]))
 | @kM fs gs hl h ih=>
  intro v hv;cases hv with
  | bw us fs ba hr =>
   refine .bw us gs (ba.trans hl) fun j u g hu hg=>?_;have hj:j<fs.length:=by rw [hl];exact (zP.1 hg).1
   exact ih j fs[j] g (by simp [hj]) hg (hr j u _ hu (by simp [hj]))
inductive YJ (s:ab) (m:Vl):FV→FV→Prop where
 | plain (f:FV) (hn:f.hand=none):YJ s m f f
 | nil (sz:Nat):YJ s m .nil (.list sz [])
 | sub (f g:FV) (hn:f.hand=none) (hle:FV.le f g):YJ s m f g
 | own (id aa o n:Nat) (hl:s.live id aa) (aW:(s.ob id).ae.row=true) (hm:m=.sh → (s.ob id).ae=.shut):YJ s m (.own id aa o n) (.list (s.ob id).sz (((s.ob id).es.drop o).take n))
inductive xv (s:ab) (m:Vl):List Operand→List FV→Prop where
 | nil:xv s m [] []
 | cons {x:Operand} {xs:List Operand} {g:FV} {gs:List FV} (h:YJ s m (s.ev x) g) (hs:xv s m xs gs):xv s m (x :: xs) (g :: gs)
section
variable {c:Ctx} {w0 w:World} {J:JJ} {s:ab} {a:Act} {β:Nat→Option Nat}
def fB (J:JJ) (w:World) (β:Nat→Option Nat) (s:ab) (m:Vl) (b:Nat):Prop:=if m=.sh then aH J w β s b else b<w.heap.size
theorem FR.arg (h:FR c.N w0 J s a w β) {m:Vl} {g:FV} (hx:YJ s m (s.ev x) g):Rd w (fB J w β s m) (a.eval x) g:=by
 have ko:∀ b,aH J w β s b→fB J w β s m b∧w.heap[b]? = w.heap[b]?:=fun b hb=>by
  unfold fB;split
  ·exact ⟨hb,rfl⟩
  ·exact ⟨hb.1,rfl⟩
 generalize hf:s.ev x=f at hx;cases hx with
 | plain f hn => exact (h.aP hf hn).mono ko
 | sub f g hn hle => exact ((h.aP hf hn).mono ko).le hle
 | nil sz =>
  rw [h.bX hf];exact .list none 0 0 sz [] [] rfl (zi _) zd zd zd zd zd
 | own id aa o n hl aW hm=>
  obtain ⟨A,cc,e1,e2,e3,e4,e5⟩:=(h.bc hf hl.1 hl.2).ex;obtain ⟨hw,bn,A',sT,us,jE,sW,hr,sX,aY⟩:=h.src hf (Src.own id aa o n hl aW);rw [e1] at jE ⊢;injection jE with k1 k2 k3
  subst k1;refine .list A n cc _ _ us k2.symm e2 hw bn (fun h0=>?_) hr.1 (hr.mono ko).2;cases hb:β id with
  | none => have := (e4 hb).2; omega
  | some b=>
   obtain ⟨o',rfl,_⟩:=e5 b hb;refine ⟨b,o',rfl,?_,fun j u hu=>by have:=aY _ rfl j u hu;rwa [yi] at this⟩;have aK:=((h.obj id hl.1).lt hb).2;unfold fB;split
   ·rename_i pC;have kE:=hm pC;refine ⟨aK,h.fresh b ((h.obj id hl.1).lt hb).1 (.inr ⟨id,hl.1,hb⟩),fun aQ ba e=>?_⟩;have:=h.inj id aQ b hl.1 (yV.aX ba) hb e;subst this;rw [kE] at ba;cases ba
   ·exact aK
theorem FR.args (h:FR c.N w0 J s a w β) {m:Vl}:∀ {xs:List Operand} {gs:List FV},xv s m xs gs→ax w (fB J w β s m) (xs.map a.eval) gs
 | _, _, .nil => ax.nil
 | _, _, .cons hx hs => ax.cons (h.arg hx) (h.args hs)
theorem YI {P:Program} {f:Nat} (hg:kU P f=true) (args:Array Value) (w:World):(callFunc f args).run P w=.ok (.enter f args) w:=by
 unfold kU at hg;cases hf:P.funcs[f]? with
 | none => rw [hf] at hg; cases hg
 | some fn =>
  rw [hf] at hg;simp only [zD,bne_iff_ne,ne_eq] at hg;have hb:fn.body≠none:=fun e=>by rw [e] at hg;cases hg.1
  have hp:(program:Sem Program).run P w=.ok P w:=rfl;simp [callFunc,hp,hf,hg.2,hb]
theorem n3 (h:FR c.N w0 J s a w β) {f:Nat} {ts:Array TypeId} {m:Vl} {gs:List FV} {res:FV} (hs:zV c.P f gs m res) (hx:xv s m xs.toList gs) {ty:TypeId} {pos:String} {after:Array Edge} {g:Option (Nat×Bool)}
{Q : Exit→Act→World→Prop} (hK:∀ v w',Below w.heap.size w w'→lv w w' (fB J w β s m) m v res→K (a.put dst v) w') :
   (⟨dst,.call { callee:=.value (.func f),args:=xs,argTypes:=ts },ty,pos,after,g⟩:Oper).wp c.P a w K Q:=by
 have kp:∀ b,fB J w β s m b→b<w.heap.size:=fun b hb=>by
  unfold fB at hb;split at hb
  ·exact hb.1
  ·exact hb
 have hc:=hs.calls w (fB J w β s m) (xs.toList.map a.eval) kp (h.args hx);have bm:(xs.toList.map a.eval).toArray=xs.map a.eval:=by
  apply ZB;simp
 rw [bm] at hc;unfold Oper.wp;have bf:(execOp a.eval ⟨dst,.call { callee:=.value (.func f),args:=xs,argTypes:=ts },ty,pos,after,g⟩).run c.P w=.ok (.enter f (xs.map a.eval)) w:=by
  have:=YI (P:=c.P) hs.go (xs.map a.eval) w;simp [execOp,resolve,Act.eval,Deferred.ofValue,invoke,this]
 rw [bf,Oper.upon_enter];refine hc.mono ?_;rintro e w' ⟨v,rfl,hb,hr⟩;exact hK v w' hb hr
end
section
variable {c:Ctx} {w0 w:World} {J:JJ} {s:ab} {a:Act} {β:Nat→Option Nat}
theorem rF (h:FR c.N w0 J s a w β) {f:Nat} {ts:Array TypeId} {gs aE:List FV} {res:FV} (ex:s.ev x=.fn f aE) (hs:zV c.P f (gs++aE) .fr res) (hx:xv s .fr xs.toList gs) {ty:TypeId} {pos:String} {after:Array Edge} {g:Option (Nat×Bool)}
{Q : Exit→Act→World→Prop} (hK:∀ v w',Below w.heap.size w w'→lv w w' (fun b=>b<w.heap.size) .fr v res→K (a.put dst v) w') :
   (⟨dst,.call { callee:=.value x,args:=xs,argTypes:=ts },ty,pos,after,g⟩:Oper).wp c.P a w K Q:=by
 have ld:=h.args hx;have hl:∀ b,fB J w β s .fr b→b<w.heap.size:=fun b hb=>by simpa [fB] using hb
 have hv:=VR.rd (by have:=h.ev x;rwa [ex] at this) rfl;generalize pS:a.eval x=v at hv;cases hv with
 | fn f us fs g6 pJ=>
  have cA:ax w (fun b=>b<w.heap.size) us aE:=⟨g6,fun j u q hu hq=>Rd.mono (fun b hb=>⟨hb.1,rfl⟩) (pJ j u q hu hq)⟩
  have lM:ax w (fun b=>b<w.heap.size) (xs.toList.map a.eval) gs:=⟨ld.1,fun j u q hu hq=>Rd.mono (fun b hb=>⟨hl b hb,rfl⟩) (ld.2 j u q hu hq)⟩
  have hc:=hs.calls w (fun b=>b<w.heap.size) (xs.toList.map a.eval++us) (fun b hb=>hb) (lM.append cA);have bm:(xs.toList.map a.eval++us).toArray=xs.map a.eval++us.toArray:=by
   apply ZB;simp
  rw [bm] at hc;unfold Oper.wp;have bf:(execOp a.eval ⟨dst,.call { callee:=.value x,args:=xs,argTypes:=ts },ty,pos,after,g⟩).run c.P w=.ok (.enter f (xs.map a.eval++us.toArray)) w:=by
   have:=YI (P:=c.P) hs.go (xs.map a.eval++us.toArray) w;simp [execOp,resolve,pS,Deferred.ofValue,invoke,this]
  rw [bf,Oper.upon_enter];refine hc.mono ?_;rintro e w' ⟨v,rfl,hb,hr⟩;exact hK v w' hb hr
theorem UB (hF:FR c.N w0 J s a w β) {f:Nat} {aE:List FV} (hx:xs.toList.map s.ev=aE) (hc:∀ g∈aE,g.hand=none) :
  yh c w0 J s a ⟨dst,.makeFunc (.func f) #[] xs,ty,pos,after,g⟩ w (.fn f aE) []:=by
 have hl:ax w (aH J w β s) (xs.toList.map a.eval) aE:=by
  subst hx;refine ⟨by simp,fun j u q hu hq=>?_⟩;rw [yZ] at hu hq;cases mG:xs.toList[j]? with
  | none => rw [mG] at hu; cases hu
  | some y =>
   rw [mG] at hu hq;simp only [yQ,zB] at hu hq;subst hu;subst hq;exact VR.rd (hF.ev y) (hc _ (zK.2 ⟨y,zN mG,rfl⟩))
 have hv:(xs.toList.map a.eval).toArray=xs.map a.eval:=by apply ZB;simp
 exact .rd hF (v:=.func (.func f) #[] (xs.map a.eval)) (by simp [execOp,Instr.makeFunc]) (by rw [← hv];exact .fn f _ _ hl.1 hl.2) rfl
end
def Up (op:Op):Prop:=(∃ T x y,op=.store T x y)∨∃ T x y z,op=.mapUpdate T x y z
def XU:Op→Bool
 | .move _ => true
 | .assign _ => true
 | _ => false
def Yf (s:ab) (d:Nat) (op:Op):List Nat:=d::bif XU op then [] else op.operands.toList.filterMap fun x=>(s.ev x).hand.map (·.1)
theorem UZ (s:ab) (d:Nat) (op:Op):d∈Yf s d op:=List.mem_cons_self
theorem qZ {s:ab} (bA:XU op=false) (hx:x∈op.operands.toList) {id:Nat} (h:(s.ev x).hand=some (id,aa)):id∈Yf s d op:=by
 unfold Yf;rw [bA];exact YV _ (xF.2 ⟨x,hx,by rw [h];rfl⟩)
inductive aq (c:Ctx) (s:ab) (d:Nat):Op→FV→List (Nat×zS)→Prop where
 | move (x:Operand):aq c s d (.move x) (s.ev x) []
 | assign (x:Operand):aq c s d (.assign x) (s.ev x) []
 | pick (ep x y:Operand) {b:Bool} (hb:s.ev ep=.bool b):aq c s d (.pick ep x y) (if b then s.ev x else s.ev y) []
 | bR (op:BinOp) (T T2:TypeId) (x y:Operand) {k:IntKind} {m n:Int} {f:FV} (ex:s.ev x=.int k m) (ey:s.ev y=.int k n) (hf:bR op k m n=some f):aq c s d (.binOp op T x y T2) f []
 | jo (op:BinOp) (T T2:TypeId) (x y:Operand) {k:IntKind} {m n:Int} (ex:s.ev x=.int k m) (ey:s.ev y=.int k n) (hn:n ≠ 0) (bu:op=.quo ∨ op=.rem):aq c s d (.binOp op T x y T2) (.int k (if op=.quo then k.wrap (m.tdiv n) else m.tmod n)) []
 | iN (op:BinOp) {T T2:TypeId} (x y:Operand) {m n:Bool} (hT:(c.ty T).k=.bool) (ex:s.ev x=.bool m) (ey:s.ev y=.bool n) (bu:op=.eql ∨ op=.neq):aq c s d (.binOp op T x y T2) (.bool (if op=.eql then m == n else m != n)) []
 | not (T:TypeId) (x:Operand) {b:Bool} (ex:s.ev x=.bool b):aq c s d (.unOp .not T x) (.bool (!b)) []
 | shift (op:BinOp) (T T2:TypeId) (x y:Operand) {k yk:IntKind} {m n:Int} (ex:s.ev x=.int k m) (ey:s.ev y=.int yk n) (hn:0 ≤ n) (bu:op=.shl ∨ op=.shr):aq c s d (.binOp op T x y T2) (.int k (if op=.shl then k.wrap (m * 2 ^ (min n.toNat k.bits)) else m.fdiv (2 ^ (min n.toNat k.bits)))) []
 | conv {T T2:TypeId} {k2:IntKind} (hT:(c.ty T).k ≠ .other) (iQ:(c.ty T2).k=.int k2) (x:Operand) {k:IntKind} {n:Int} (ex:s.ev x=.int k n):aq c s d (.convert T T2 x) (.int k2 (k2.wrap n)) []
 | neg (T:TypeId) (x:Operand) {k:IntKind} {n:Int} (ex:s.ev x=.int k n):aq c s d (.unOp .neg T x) (.int k (k.wrap (-n))) []
 | min2 (bi:Builtin) (T T2:TypeId) (x y:Operand) {k:IntKind} {m n:Int} (ex:s.ev x=.int k m) (ey:s.ev y=.int k n) (dF:bi=.min∨bi=.max) :
   aq c s d (.call { callee:=.builtin bi,args:=#[x,y],argTypes:=#[T,T2] }) (.int k (if bi=.min then (if n<m then n else m) else (if m<n then n else m))) []
 | dT {T e:TypeId} (hT:(c.ty T).k=.slice e) (x:Operand) {id aa o n:Nat} (ex:s.ev x=.own id aa o n) (hl:s.live id aa):aq c s d (.call { callee := .builtin .len, args := #[x], argTypes := #[T] }) (.int .i64 n) []
 | dg {T e:TypeId} (hT:(c.ty T).k=.slice e) (x:Operand) {sz:Nat} {es:List (List FV)} (ex:s.ev x=.list sz es):aq c s d (.call { callee := .builtin .len, args := #[x], argTypes := #[T] }) (.int .i64 es.length) []
 | dS {T e:TypeId} (hT:(c.ty T).k=.slice e) (x:Operand) (ex:s.ev x=.nil):aq c s d (.call { callee := .builtin .len, args := #[x], argTypes := #[T] }) (.int .i64 0) []
 | cH {T ft i off:Nat} {fs:List (Nat×Nat)} (hT:(c.ty T).k=.ao fs) (hf:fs[i]? = some (off,ft)) (dr:(c.ty ft).k≠.other) (aA:(c.ty ft).size≠0) (x:Operand) {id aa j o:Nat} (ex:s.ev x=.ptr id aa j o) (hl:s.live id aa) :
   aq c s d (.fieldAddr T x i) (.ptr id aa j (o+off)) []
 | cj {T ft i off:Nat} {fs:List (Nat×Nat)} (hT:(c.ty T).k=.ao fs) (hf:fs[i]? = some (off,ft)) (dr:(c.ty ft).k≠.other) (aA:(c.ty ft).size≠0) (x:Operand) {sz j o:Nat} {es:List (List FV)} (ex:s.ev x=.aC sz es j o) :
   aq c s d (.fieldAddr T x i) (.aC sz es j (o+off)) []
 | cp {T e:Nat} (hT:(c.ty T).k=.slice e) (he:(c.ty e).k≠.other) (x y:Operand) {sz:Nat} {es:List (List FV)} {k:IntKind} {n:Nat} (ex:s.ev x=.list sz es) (aA:(c.ty e).size=sz) (ey:s.ev y=.int k n) (h1:n<es.length) :
   aq c s d (.indexAddr T x y) (.aC sz es n 0) []
 | cO {T e:Nat} (hT:(c.ty T).k=.slice e) (he:(c.ty e).k≠.other) (x y:Operand) {id aa o m:Nat} {k:IntKind} {n:Nat} (ex:s.ev x=.own id aa o m) (hl:s.live id aa) (aA:(c.ty e).size=(s.ob id).sz) (ey:s.ev y=.int k n) (h1:n<m) :
   aq c s d (.indexAddr T x y) (.ptr id aa (o+n) 0) []
 | cY {T m e:Nat} (hT:(c.ty T).k=.arr m e) (he:(c.ty e).k≠.other) (x y:Operand) {id aa j o:Nat} {k:IntKind} {n:Nat} (ex:s.ev x=.ptr id aa j o) (hl:s.live id aa) (ey:s.ev y=.int k n) (h1:n<m) :
   aq c s d (.indexAddr T x y) (.ptr id aa j (o+n * (c.ty e).size)) []
 | cD {T m e:Nat} (hT:(c.ty T).k=.arr m e) (he:(c.ty e).k≠.other) (x y:Operand) {sz j o:Nat} {es:List (List FV)} {k:IntKind} {n:Nat} (ex:s.ev x=.aC sz es j o) (ey:s.ev y=.int k n) (h1:n<m) :
   aq c s d (.indexAddr T x y) (.aC sz es j (o+n * (c.ty e).size)) []
 | cg {T:Nat} {bb:Bool} (hk:(c.ty T).k.aM = some bb) (x:Operand) {sz j o:Nat} {es:List (List FV)} (ex:s.ev x=.aC sz es j o) (hj:j<es.length) (ho:o+(c.ty T).size ≤ sz) (dt : o<sz):aq c s d (.load T x) (xu (c.ty T) ((es.getD j []).drop o)) []
 | cP {T:Nat} {bb:Bool} (hk:(c.ty T).k.aM = some bb) (x:Operand) {id aa j o:Nat} (ex:s.ev x=.ptr id aa j o) (hl:s.live id aa) (aW:(s.ob id).ae.row=true) (hj:j<(s.ob id).es.length) (ho:o+(c.ty T).size≤(s.ob id).sz) (dt : o<(s.ob id).sz) :
   aq c s d (.load T x) (xu (c.ty T) (((s.ob id).es.getD j []).drop o)) []
 | store {T:Nat} (hk:(c.ty T).k≠.other) (x y:Operand) {id aa j o:Nat} (ex:s.ev x=.ptr id aa j o) (hl:(s.ob id).ae=.own) (hv:(s.ob id).aa=aa) {f:FV} (ey:s.ev y=f) (hf:f.cells.all FV.one=true) (bV:f.cells.length=(c.ty T).size)
   (hj:j<(s.ob id).es.length) (ho:o+(c.ty T).size≤(s.ob id).sz):aq c s d (.store T x y) .undef [(id,{ s.ob id with es:=(s.ob id).es.set j (ag ((s.ob id).es.getD j []) o f.cells) })]
 | alloc {T:Nat} (hk:(c.ty T).k ≠ .other) (hz:(c.ty T).zero.all FV.one=true):aq c s d (.alloc T) (.ptr d ((s.ob d).aa+1) 0 0) [(d, ⟨(s.ob d).aa+1, .own, T, (c.ty T).zero.length, [(c.ty T).zero]⟩)]
 | box {T:Nat} (x:Operand) {f:FV} (ex:s.ev x=f) (hf:f.cells.all FV.one=true):aq c s d (.box T x) (.ptr d ((s.ob d).aa+1) 0 0) [(d, ⟨(s.ob d).aa+1, .own, T, f.cells.length, [f.cells]⟩)]
 | build {T:Nat} {fs:List (Nat×Nat)} (hT:(c.ty T).k=.ao fs) (fx:∀ p∈fs,(c.ty p.2).k≠.other) (ps:Array (Nat×Operand)) {cs:List FV} (hf:xo (fun i=>(fs[i]?).map fun p=>(p.1,(c.ty p.2).size)) (c.ty T).zero (s.parts ps)=some cs) :
   aq c s d (.build T ps) (.agg cs) []
 | eI {T n e:Nat} (hT:(c.ty T).k=.arr n e) (he:(c.ty e).k ≠ .other) (ps:Array (Nat × Operand)) {cs:List FV} (hf:xo (fun i => some (i * (c.ty e).size, (c.ty e).size)) (c.ty T).zero (s.parts ps)=some cs):aq c s d (.build T ps) (.agg cs) []
 | buildSlice {T e n:Nat} (hT:(c.ty T).k=.slice e) (he:(c.ty e).k≠.other) (ps:Array (Nat×Operand)) (es:List (List FV)) (hn:es.length=n) (hw:∀ x∈es,x.length=(c.ty e).size) (ho:∀ f∈es.flatten,f.one=true) (cA:n * (c.ty e).size≤16777216) (gj:n≤16777216)
   (hf:xo (fun i=>some (i * (c.ty e).size,(c.ty e).size)) (List.replicate (n * (c.ty e).size) .undef) (s.parts ps)=some es.flatten):aq c s d (.buildSlice T n ps) (.own d ((s.ob d).aa+1) 0 n) [(d,⟨(s.ob d).aa+1,.own,e,(c.ty e).size,es⟩)]
 | bt {T e n:Nat} (hT:(c.ty T).k=.slice e) (he:(c.ty e).k≠.other) (ps:Array (Nat×Operand)) (es:List (List FV)) (hn:es.length=n) (hw:∀ x∈es,x.length=(c.ty e).size) (ho:∀ f∈es.flatten,f.one=true) (cA:n * (c.ty e).size≤16777216) (gj:n≤16777216)
   (hf:xo (fun i=>some (i * (c.ty e).size,(c.ty e).size)) (List.replicate (n * (c.ty e).size) .undef) (s.parts ps)=some es.flatten):aq c s d (.buildSlice T n ps) (.list (c.ty e).size es) []
 | makeSlice {T e n:Nat} (hT:(c.ty T).k=.slice e) (he:(c.ty e).k≠.other) (x y:Operand) {k1 k2:IntKind} (ex:s.ev x=.int k1 n) (ey:s.ev y=.int k2 n) (ho:(c.ty e).zero.all FV.one=true) (hb:(c.ty e).bytes * n≤281474976710656) (hn:n≤281474976710656) :
   aq c s d (.makeSlice T x y) (.own d ((s.ob d).aa+1) 0 n) [(d,⟨(s.ob d).aa+1,.own,e,(c.ty e).size,List.replicate n (c.ty e).zero⟩)]
 | dz {T e:Nat} (hT:(c.ty T).k=.slice e) (he:(c.ty e).k≠.other) (x:Operand) (lo hi:Option Operand) {id aa o m l u:Nat} (ex:s.ev x=.own id aa o m) (hl:s.live id aa) (aA:(c.ty e).size=(s.ob id).sz) (cK:s.lo lo l) (cd:s.hi hi m u) (h1:l≤u) (h2:u≤m) :
   aq c s d (.slice T x lo hi none) (.own id aa (o+l) (u - l)) []
 | cr {T e:Nat} (hT:(c.ty T).k=.slice e) (he:(c.ty e).k≠.other) (x:Operand) (lo hi:Option Operand) {sz l u:Nat} {es:List (List FV)} (ex:s.ev x=.list sz es) (aA:(c.ty e).size=sz) (cK:s.lo lo l) (cd:s.hi hi es.length u) (h1:l≤u) (h2:u≤es.length) :
   aq c s d (.slice T x lo hi none) (.list sz ((es.drop l).take (u - l))) []
 | dy {T e:Nat} (hT:(c.ty T).k=.slice e) (he:(c.ty e).k ≠ .other) (x:Operand) (lo hi:Option Operand) (ex:s.ev x=.nil) (cK:s.lo lo 0) (cd:s.hi hi 0 0):aq c s d (.slice T x lo hi none) .nil []
 | extract (x:Operand) {i:Nat} {fs:List FV} {f:FV} (ex:s.ev x=.bw fs) (hf:fs[i]? = some f) (hn:f.hand=none):aq c s d (.extract x i) f []
 | nilPtr (x:Operand) {id aa i o:Nat} (ex:s.ev x=.ptr id aa i o) (hl:s.live id aa):aq c s d (.nilCheck x) (.ptr id aa i o) []
 | dW (x:Operand) {sz i o:Nat} {es:List (List FV)} (ex:s.ev x=.aC sz es i o):aq c s d (.nilCheck x) (.aC sz es i o) []
 | append {T e:Nat} (hT:(c.ty T).k=.slice e) (he:(c.ty e).k≠.other) (aZ:0<(c.ty e).size) (x y:Operand) {f1 f2:FV} {bo av:List (List FV)} {i:Option Nat} (ex:s.ev x=f1) (ey:s.ev y=f2) (h1:fE s f1 (c.ty e).size bo i) (hE:∀ k,i=some k→(s.ob k).E=e)
   (h2:Src s f2 (c.ty e).size av) (hb:(bo.length+av.length) * (c.ty e).bytes≤140737488355328) (hm:bo.length+av.length≤140737488355328) :
   aq c s d (.call { callee:=.builtin .append,args:=#[x,y],argTypes:=#[T,T] }) (.own d ((s.ob d).aa+1) 0 (bo++av).length) (xE s d e (c.ty e).size (bo++av) i)
 | dK {T e:Nat} (hT:(c.ty T).k=.slice e) (he:(c.ty e).k≠.other) (aZ:0<(c.ty e).size) (x y:Operand) {f1 f2:FV} {bo av:List (List FV)} {i:Option Nat} (ex:s.ev x=f1) (ey:s.ev y=f2) (h1:fE s f1 (c.ty e).size bo i) (hE:∀ k,i=some k→(s.ob k).E=e)
   (h2:Src s f2 (c.ty e).size av) (hb:(bo.length+av.length) * (c.ty e).bytes≤140737488355328) (hm:bo.length+av.length≤140737488355328) :
   aq c s d (.call { callee:=.builtin .append,args:=#[x,y],argTypes:=#[T,T] }) (.list (c.ty e).size (bo++av)) (xE s d e (c.ty e).size (bo++av) i++[(d,⟨(s.ob d).aa+1,.dead,e,(c.ty e).size,bo++av⟩)])
 | call {f:Nat} {xs:Array Operand} {ts:Array TypeId} {m:Vl} {gs:List FV} {res:FV} (hs:zV c.P f gs m res) (hm:m=.fr ∨ m=.sh) (hx:xv s m xs.toList gs):aq c s d (.call { callee := .value (.func f), args := xs, argTypes := ts }) res []
 | eh {f:Nat} {x:Operand} {xs:Array Operand} {ts:Array TypeId} {gs aE:List FV} {res:FV} (ex:s.ev x=.fn f aE) (hs:zV c.P f (gs ++ aE) .fr res) (hx:xv s .fr xs.toList gs):aq c s d (.call { callee := .value x, args := xs, argTypes := ts }) res []
 | dv {f:Nat} {xs:Array Operand} {aE:List FV} (hx:xs.toList.map s.ev=aE) (hc:∀ g ∈ aE, g.hand=none):aq c s d (.makeFunc (.func f) #[] xs) (.fn f aE) []
 | dL {f:Nat} {xs:Array Operand} {ts:Array TypeId} {E sz:Nat} {gs:List FV} {es:List (List FV)} (hs:zV c.P f gs (.ow E sz) (.list sz es)) (hx:xv s (.ow E sz) xs.toList gs) :
   aq c s d (.call { callee:=.value (.func f),args:=xs,argTypes:=ts }) (.own d ((s.ob d).aa+1) 0 es.length) [(d,⟨(s.ob d).aa+1,.own,E,sz,es⟩)]
 | dJ {T e:Nat} (hT:(c.ty T).k=.slice e) (he:(c.ty e).k≠.other) (aZ:0<(c.ty e).size) (x y:Operand) {id aa o n:Nat} (ex:s.ev x=.own id aa o n) (a0:(s.ob id).ae=.roomy) (az:(s.ob id).aa=aa)
   (hE:(s.ob id).E=e) (aA:(s.ob id).sz=(c.ty e).size) (ec:o+n=(s.ob id).es.length) {f2:FV} {av:List (List FV)} (ey:s.ev y=f2) (h2:Src s f2 (c.ty e).size av) (h1:av.length=1) :
   aq c s d (.call { callee:=.builtin .append,args:=#[x,y],argTypes:=#[T,T] }) (.own d ((s.ob d).aa+1) o (n+1)) [(id,{ s.ob id with ae:=.dead }),(d,⟨(s.ob d).aa+1,.own,e,(c.ty e).size,(s.ob id).es++av⟩)]
 | dI {T e:Nat} (hT:(c.ty T).k=.slice e) (he:(c.ty e).k≠.other) (aZ:0<(c.ty e).size) (x y:Operand) {id aa o n:Nat} (ex:s.ev x=.own id aa o n) (a0:(s.ob id).ae=.full) (az:(s.ob id).aa=aa)
   (hE:(s.ob id).E=e) (aA:(s.ob id).sz=(c.ty e).size) (ec:o+n=(s.ob id).es.length) {f2:FV} {av:List (List FV)} (ey:s.ev y=f2) (h2:Src s f2 (c.ty e).size av) (h1:av.length=1)
   (hb:(n+1) * (c.ty e).bytes≤140737488355328) (hm:n+1≤140737488355328) :
   aq c s d (.call { callee:=.builtin .append,args:=#[x,y],argTypes:=#[T,T] }) (.own d ((s.ob d).aa+1) 0 (n+1)) [(id,{ s.ob id with ae:=.dead }),(d,⟨(s.ob d).aa+1,.own,e,(c.ty e).size,(s.ob id).es.drop o++av⟩)]
 | gA {T:Nat} (hk:(c.ty T).k.aM = some false) (hz:(c.ty T).size=1) (x:Operand) {id aa j:Nat} (ex:s.ev x=.ptr id aa j 0) (a0:(s.ob id).ae=.aB) (az:(s.ob id).aa=aa) (aA:(s.ob id).sz=1) {f:FV} (hj:(s.ob id).es[j]? = some [f]):aq c s d (.load T x) f []
 | dZ {T:Nat} (hk:(c.ty T).k≠.other) (hz:(c.ty T).size=1) (x y:Operand) {id aa j:Nat} (ex:s.ev x=.ptr id aa j 0) (a0:(s.ob id).ae=.aB) (az:(s.ob id).aa=aa) (aA:(s.ob id).sz=1) {f:FV} (ey:s.ev y=f)
   (hf:kN s f) (hj:j<(s.ob id).es.length):aq c s d (.store T x y) .undef [(id,{ s.ob id with es:=(s.ob id).es.set j [f] })]
 | copy {T T2 e:Nat} (hT:(c.ty T).k=.slice e) (he:(c.ty e).k≠.other) (hz:(c.ty e).size=1) (x y:Operand) {id aa o m:Nat} (ex:s.ev x=.own id aa o m) (a0:(s.ob id).ae=.own) (az:(s.ob id).aa=aa) (aA:(s.ob id).sz=1) {f2:FV} {av:List (List FV)} (ey:s.ev y=f2) (h2:Src s f2 1 av) :
   aq c s d (.call { callee:=.builtin .copy,args:=#[x,y],argTypes:=#[T,T2] }) (.int .i64 ((av.take m).length:Nat)) [(id,{ s.ob id with es:=ag (s.ob id).es o (av.take m) })]
 | dV {T:Nat} (hk:(c.ty T).k ≠ .other) (c0:xL c.P T=false) (x:Operand) {f:FV} (ex:s.ev x=f) (hn:f.hand=none):aq c s d (.makeInterface T x) (.iface T f) []
 | dw {T:Nat} (hk:(c.ty T).k ≠ .other) (c0:xL c.P T=false) (x:Operand) {f:FV} (ex:s.ev x=f) (hn:f.bI=true):aq c s d (.makeInterface T x) (.wrap (.lh T) [f]) []
 | ea {T T2:Nat} (hk:(c.ty T).k ≠ .other) (c0:xL c.P T=false) (x:Operand) {f:FV} (ex:s.ev x=.iface T f) (hn:f.hand=none):aq c s d (.typeAssert x T2 T false) f []
 | dU {f:Nat} {xs:Array Operand} {aE:List FV} (hx:xs.toList.map s.ev=aE) (hn:aE.all FV.bI=true):aq c s d (.makeFunc (.func f) #[] xs) (.wrap (.fn f) aE) []
 | bound {f:Nat} {xs:Array Operand} {aE:List FV} (hx:xs.toList.map s.ev=aE) (hn:aE.all FV.bI=true):aq c s d (.makeFunc (.func f) xs #[]) (.wrap (.bound f) aE) []
 | fI (op:BinOp) {T T2:Nat} (x y:Operand) {X Y:List FV} {b:Bool} (ex:s.ev x=.agg X) (hX:X.all FV.ay=true) (ey:s.ev y=.agg Y) (hY:Y.all FV.ay=true) (hl:og c.P T X Y b) (bu:op=.eql ∨ op=.neq):aq c s d (.binOp op T x y T2) (.bool (if op=.eql then b else !b)) []
 | di (op:BinOp) {T T2 e:Nat} (hT:(c.ty T).k=.slice e) (x y:Operand) {f:FV} {b:Bool} (ex:s.ev x=f) (hb:Uo s f b) (ey:s.ev y=.nil) (bu:op=.eql ∨ op=.neq):aq c s d (.binOp op T x y T2) (.bool (if op=.eql then b else !b)) []
 | makeMap (T:Nat):aq c s d (.makeMap T none) (.omap d ((s.ob d).aa+1)) [(d, ⟨(s.ob d).aa+1, .aR, T, 0, []⟩)]
 | look {T k e:Nat} (hT:(c.ty T).k=.map k e) {bb:Bool} (he:(c.ty e).k.aM = some bb) (K:Keyed c.P k) (x y:Operand) (ok:Bool) {es:List (List FV)} (ex:(∃ id aa,s.ev x=.omap id aa∧(s.live id aa∧(s.ob id).ae≠.bm)∧(s.ob id).es=es)∨s.ev x=.smap es)
   {kf:FV} (ey:s.ev y=kf) (hk:∀ row∈es,∀ kf,row.head? = some kf→Zs c.P k kf) (bP:Zs c.P k kf) {vf:FV} {found:Bool} (hl:XZ es kf (c.ty e).hJ vf found) (hn:vf.hand=none):aq c s d (.lookup T x y ok) (if ok then .bw [vf,.bool found] else vf) []
 | update {T k e:Nat} (hT:(c.ty T).k=.map k e) (K:Keyed c.P k) (x y z:Operand) {id aa:Nat} (ex:s.ev x=.omap id aa) (a0:(s.ob id).ae=.aR) (az:(s.ob id).aa=aa)
   {kf vf:FV} (ey:s.ev y=kf) (ez:s.ev z=vf) (hk:∀ row∈(s.ob id).es,∀ kf,row.head? = some kf→Zs c.P k kf) (bP:Zs c.P k kf) (hn:vf.hand=none) {aO : List (List FV)} (hs:kR (s.ob id).es kf vf aO) :
   aq c s d (.mapUpdate T x y z) .undef [(id,{ s.ob id with es:=aO })]
 | fJ {op:Op} {wr:List (Nat×zS)} (bA:XU op=false) (dB:Up op) (hg:∀ s' : ab,(∀ x∈op.operands.toList,s'.ev x=s.ev x)→(∀ id∈Yf s d op,s'.ob id=s.ob id)→
   ∀ (w0:World) (J:JJ) (a:Act) (w:World) (β:Nat→Option Nat) (dst:Option Nat) (ty:TypeId) (pos:String) (after:Array Edge) (g:Option (Nat×Bool)),FR c.N w0 J s' a w β→
    ∃ w',(execOp a.eval ⟨dst,op,ty,pos,after,g⟩).run c.P w=.ok .skip w'∧FR c.N w0 J (s'.wr wr) a w' β):aq c s d op .undef wr
 | ext {op:Op} {f:FV} {wr:List (Nat×zS)} (bA:XU op=false) (dB:¬ Up op) (hg:∀ s' : ab,(∀ x∈op.operands.toList,s'.ev x=s.ev x)→(∀ id∈Yf s d op,s'.ob id=s.ob id)→
   ∀ (w0:World) (J:JJ) (a:Act) (w:World) (β:Nat→Option Nat) (ty:TypeId) (pos:String) (after:Array Edge) (g:Option (Nat×Bool)),d<c.N→FR c.N w0 J s' a w β→
    ∀ (K:Act→World→Prop) (Q:Exit→Act→World→Prop),(∀ a' w' aJ,FR c.N w0 J ((s'.wr wr).put d f) a' w' aJ→K a' w')→(⟨some d,op,ty,pos,after,g⟩:Oper).wp c.P a w K Q):aq c s d op f wr
def ab.jv (s:ab):Option Nat→FV→ab
 | some d, f => s.put d f
 | none, _ => s
def ab.app (s:ab) (dst:Option Nat) (f:FV) (wr:List (Nat×zS)):ab:=(s.wr wr).jv dst f
section
variable {c:Ctx} {w0 w:World} {J:JJ} {s:ab} {a:Act} {β:Nat→Option Nat}
theorem yh.wp {o:Oper} {f:FV} {wr:List (Nat×zS)} (h:yh c w0 J s a o w f wr) (hd:∀ d,o.dst=some d→d<c.N) (hK:∀ a' w' aJ,FR c.N w0 J (s.app o.dst f wr) a' w' aJ→K a' w'):o.wp c.P a w K Q:=by
 obtain ⟨v,w',aJ,hr,hF,hV,az⟩:=h;unfold Oper.wp;rw [hr,Oper.upon_value];unfold ab.app at hK;cases hdd:o.dst with
 | none => rw [hdd] at hK; exact hK _ _ _ hF
 | some d => rw [hdd] at hK; exact hK _ _ _ (hF.put (hd d hdd) hV az)
theorem aq.sound {f:FV} {wr:List (Nat×zS)} (h:aq c s d op f wr) (hF:FR c.N w0 J s a w β) (o:Oper) (ho:o.op=op) (hd:o.dst=some d∨(o.dst=none∧Up op)) (aT:∀ d,o.dst=some d→d<c.N)
(hK : ∀ a' w' aJ,FR c.N w0 J (s.app o.dst f wr) a' w' aJ→K a' w'):o.wp c.P a w K Q:=by
 obtain ⟨dst,ln,ty,pos,after,g⟩:=o;dsimp only at ho hd aT hK;subst ho;by_cases bA:Up ln
 ·rcases bA with ⟨T,x,y,rfl⟩|⟨T,x,y,z,rfl⟩
  ·cases h with
   | ext bA dB hg => exact absurd (.inl ⟨_, _, _, rfl⟩) dB
   | fJ bA dB hg =>
    obtain ⟨w',h1,h2⟩:=hg s (fun _ _=>rfl) (fun _ _=>rfl) w0 J a w β dst ty pos after g hF;unfold Oper.wp;rw [h1,xx];unfold ab.app at hK;cases dst with
    | none => exact hK _ _ _ h2
    | some d => exact hK _ _ _ (h2.put (aT d rfl) (VR.a9 (.undef _) rfl) (fun id aa e => by cases e))
   | store hk x y ex hl hv ey hf bV hj ho =>
    obtain ⟨w',h1,h2⟩:=qj (dst:=dst) (ty:=ty) (pos:=pos) (after:=after) (g:=g) hF hk x y ex hl hv ey hf bV hj ho;unfold Oper.wp;rw [h1,xx];unfold ab.app at hK;cases dst with
    | none => exact hK _ _ _ h2
    | some d => exact hK _ _ _ (h2.put (aT d rfl) (VR.a9 (.undef _) rfl) (fun id aa e => by cases e))
   | dZ hk hz x y ex a0 az aA ey hf hj =>
    obtain ⟨w',h1,h2⟩:=UC (dst:=dst) (ty:=ty) (pos:=pos) (after:=after) (g:=g) hF hk hz x y ex a0 az aA ey hf hj;unfold Oper.wp;rw [h1,xx];unfold ab.app at hK;cases dst with
    | none => exact hK _ _ _ h2
    | some d => exact hK _ _ _ (h2.put (aT d rfl) (VR.a9 (.undef _) rfl) (fun id aa e => by cases e))
  ·cases h with
   | ext bA dB hg => exact absurd (.inr ⟨_, _, _, _, rfl⟩) dB
   | fJ bA dB hg =>
    obtain ⟨w',h1,h2⟩:=hg s (fun _ _=>rfl) (fun _ _=>rfl) w0 J a w β dst ty pos after g hF;unfold Oper.wp;rw [h1,xx];unfold ab.app at hK;cases dst with
    | none => exact hK _ _ _ h2
    | some d => exact hK _ _ _ (h2.put (aT d rfl) (VR.a9 (.undef _) rfl) (fun id aa e => by cases e))
   | update hT K x y z ex a0 az ey ez hk bP hn hs =>
    obtain ⟨w',h1,h2⟩:=XC (dst:=dst) (ty:=ty) (pos:=pos) (after:=after) (g:=g) hF hT K x y z ex a0 az ey ez hk bP hn hs;unfold Oper.wp;rw [h1,xx];unfold ab.app at hK;cases dst with
    | none => exact hK _ _ _ h2
    | some d => exact hK _ _ _ (h2.put (aT d rfl) (VR.a9 (.undef _) rfl) (fun id aa e => by cases e))
 ·obtain rfl:dst=some d:=by
   rcases hd with h'|⟨_,h'⟩
   ·exact h'
   ·exact absurd h' bA
  cases h with
  | fJ pD dB hg => exact absurd dB bA
  | ext bA dB hg => exact hg s (fun _ _ => rfl) (fun _ _ => rfl) w0 J a w β ty pos after g (aT d rfl) hF K Q hK
  | move x => exact (rX hF x).wp aT hK
  | assign x => exact (Uz hF x).wp aT hK
  | pick ep x y hb => exact (rY hF ep x y hb).wp aT hK
  | bR op T T2 x y ex ey hf => exact (rT hF op T T2 x y ex ey hf).wp aT hK
  | jo op T T2 x y ex ey hn bu => exact (rU hF op T T2 x y ex ey hn bu).wp aT hK
  | iN op x y hT ex ey bu => exact (rQ hF op x y hT ex ey bu).wp aT hK
  | not T x ex => exact (rb hF T x ex).wp aT hK
  | shift op T T2 x y ex ey hn bu => exact (qi hF op T T2 x y ex ey hn bu).wp aT hK
  | conv hT iQ x ex => exact (rR hF hT iQ x ex).wp aT hK
  | neg T x ex => exact (ra hF T x ex).wp aT hK
  | min2 bi T T2 x y ex ey dF => exact (rW hF bi T T2 x y ex ey dF).wp aT hK
  | dT hT x ex hl => exact (VD hF hT x ex hl).wp aT hK
  | dg hT x ex => exact (WU hF hT x ex).wp aT hK
  | dS hT x ex => exact (VC hF hT x ex).wp aT hK
  | cH hT hf dr aA x ex hl => exact (We hF hT hf dr aA x ex hl).wp aT hK
  | cj hT hf dr aA x ex => exact (Xx hF hT hf dr aA x ex).wp aT hK
  | cp hT he x y ex aA ey h1 => exact (Xz hF hT he x y ex aA ey h1).wp aT hK
  | cO hT he x y ex hl aA ey h1 => exact (Wf hF hT he x y ex hl aA ey h1).wp aT hK
  | cY hT he x y ex hl ey h1 => exact (Xy hF hT he x y ex hl ey h1).wp aT hK
  | cD hT he x y ex ey h1 => exact (YN hF hT he x y ex ey h1).wp aT hK
  | cg hk x ex hj ho dt => exact (Wg hF hk x ex hj ho dt).wp aT hK
  | cP hk x ex hl aW hj ho dt => exact (Yg hF hk x ex hl aW hj ho dt).wp aT hK
  | store hk x y ex hl hv ey hf bV hj ho => exact absurd (.inl ⟨_, _, _, rfl⟩) bA
  | dZ hk hz x y ex a0 az aA ey hf hj => exact absurd (.inl ⟨_, _, _, rfl⟩) bA
  | gA hk hz x ex a0 az aA hj => exact (qY hF hk hz x ex a0 az aA hj).wp aT hK
  | dJ hT he aZ x y ex a0 az hE aA ec ey h2 h1 => exact (Vz hF d hT he aZ x y ex a0 az hE aA ec ey h2 h1).wp aT hK
  | dI hT he aZ x y ex a0 az hE aA ec ey h2 h1 hb hm => exact (Vy hF d hT he aZ x y ex a0 az hE aA ec ey h2 h1 hb hm).wp aT hK
  | update hT K x y z ex a0 az ey ez hk bP hn hs => exact absurd (.inr ⟨_, _, _, _, rfl⟩) bA
  | makeMap T => exact (YE hF d T).wp aT hK
  | look hT he K x y ok ex ey hk bP hl hn => exact (rV hF hT he K x y ok ex ey hk bP hl hn).wp aT hK
  | alloc hk hz => exact (qT hF d hk hz).wp aT hK
  | box x ex hf => exact (q9 hF d x ex hf).wp aT hK
  | build hT fx ps hf => exact (qV hF hT fx ps hf).wp aT hK
  | eI hT he ps hf => exact (UA hF hT he ps hf).wp aT hK
  | buildSlice hT he ps es hn hw ho cA gj hf => exact (Xw hF d hT he ps es hn hw ho cA gj hf).wp aT hK
  | bt hT he ps es hn hw ho cA gj hf => exact (YM hF d hT he ps es hn hw ho cA gj hf).wp aT hK
  | makeSlice hT he x y ex ey ho hb hn => exact (Zv hF d hT he x y ex ey ho hb hn).wp aT hK
  | dz hT he x lo hi ex hl aA cK cd h1 h2 => exact (Wj hF hT he x lo hi ex hl aA cK cd h1 h2).wp aT hK
  | cr hT he x lo hi ex aA cK cd h1 h2 => exact (XB hF hT he x lo hi ex aA cK cd h1 h2).wp aT hK
  | dy hT he x lo hi ex cK cd => exact (Wi hF hT he x lo hi ex cK cd).wp aT hK
  | extract x ex hf hn => exact (VB hF x ex hf hn).wp aT hK
  | nilPtr x ex hl => exact (Yy hF x ex hl).wp aT hK
  | dW x ex => exact (Yi hF x ex).wp aT hK
  | append hT he aZ x y ex ey h1 hE h2 hb hm => exact (Xv hF d hT he aZ x y ex ey h1 hE h2 hb hm).wp aT hK
  | dK hT he aZ x y ex ey h1 hE h2 hb hm => exact (VA hF d hT he aZ x y ex ey h1 hE h2 hb hm).wp aT hK
  | call hs hm hx=>
   rename_i fi xs ts m gs;refine n3 hF hs hx (fun v w' hb hr=>?_);have hG:=hF.grow hb;have g3:∀ b,w.heap.size≤b∧b<w'.heap.size→aH J w' β s b∧w'.heap[b]? = w'.heap[b]?:=fun b bD=>⟨⟨bD.2,hF.fresh b (xa hF.bF.size bD.1) (.inl bD.1),fun id hl e=>by
    have:=((hF.obj id (yV.aX hl)).lt e).2;omega⟩,rfl⟩
   have fh:Rd w' (aH J w' β s) v f:=by
    rcases hm with rfl|rfl
    ·exact Rd.mono g3 hr
    ·refine Rd.mono (fun b bD=>?_) hr;rcases bD with h1|h1
     ·exact ⟨(aH.grow (by simpa [fB] using h1) hb).1,rfl⟩
     ·exact g3 b h1
   exact hK _ _ _ (hG.put (aT d rfl) (VR.a9 fh hs.hand) (fun id aa e=>(FV.aS hs.hand e).elim))
  | eh ex hs hx=>
   refine rF hF ex hs hx (fun v w' hb hr=>?_);have hG:=hF.grow hb;have fh:Rd w' (aH J w' β s) v _:=Rd.mono (fun b bD=>⟨⟨bD.2,hF.fresh b (xa hF.bF.size bD.1) (.inl bD.1),fun id hl e=>by
    have:=((hF.obj id (yV.aX hl)).lt e).2;omega⟩,rfl⟩) hr
   exact hK _ _ _ (hG.put (aT d rfl) (VR.a9 fh hs.hand) (fun id aa e=>(FV.aS hs.hand e).elim))
  | dv hx hc => exact (UB hF hx hc).wp aT hK
  | copy hT hk hz x y ex a0 az aA ey h2 => exact (rS hF hT hk hz x y ex a0 az aA ey h2).wp aT hK
  | dV hk c0 x ex hn => exact (VF hF hk c0 x ex hn).wp aT hK
  | dw hk c0 x ex hn => exact (WV hF hk c0 x ex hn).wp aT hK
  | ea hk c0 x ex hn => exact (VG hF hk c0 x ex hn).wp aT hK
  | dU hx hn => exact (VE hF hx hn).wp aT hK
  | bound hx hn => exact (qU hF hx hn).wp aT hK
  | fI op x y ex hX ey hY hl bu => exact (qW hF op x y ex hX ey hY hl bu).wp aT hK
  | di op hT x y ex hb ey bu => exact (qX hF op hT x y ex hb ey bu).wp aT hK
  | dL hs hx=>
   rename_i fi xs ts E sz gs es;refine n3 hF hs hx (fun v w' hb hr=>?_);obtain ⟨aO,us,e,hw,ho,aB,aW⟩:=hr;injection e with _ e
   subst e;have hG:=hF.grow hb;have ff:=aB.lt;have oU:∀ b,(w.heap.size≤b∧b<w'.heap.size∧v.ownBlock≠some b)→aH J w' (YC β d v.ownBlock) (s.set d ⟨(s.ob d).aa+1,.own,E,sz,es⟩) b:=fun b bD=>⟨bD.2.1,hF.fresh b (xa hF.bF.size bD.1) (.inl bD.1),fun id hl e=>by
    rw [ab.aj] at hl;unfold YC at e;split at hl
    ·rename_i hh;rw [if_pos hh.symm] at e;exact bD.2.2 e
    ·rename_i hh;rw [if_neg (fun e=>hh e.symm)] at e;have:=((hF.obj id (yV.aX hl)).lt e).2;omega⟩
   have hM:FR c.N w0 J (s.set d ⟨(s.ob d).aa+1,.own,E,sz,es⟩) a w' (YC β d v.ownBlock):=by
    have hI:∀ b,aH J w β s b→aH J w' (YC β d v.ownBlock) (s.set d ⟨(s.ob d).aa+1,.own,E,sz,es⟩) b∧w'.heap[b]? = w.heap[b]?:=fun b aG=>by
     refine ⟨⟨xI aG.1 hb.size,aG.2.1,fun id hl=>?_⟩,hb.block b aG.1⟩;rw [ab.aj] at hl;unfold YC;split at hl
     ·rename_i hh;rw [if_pos hh.symm];intro e;have:=(ff b e).1;have:=aG.1;omega
     ·rename_i hh;rw [if_neg (fun e=>hh e.symm)];exact aG.2.2 id hl
    refine hF.step (C:=fun id=>id=d) hF.size hF.defers (hF.bF.trans (hb.mono hF.bF.size)) hI (fun k=>.inl ⟨rfl,rfl⟩) (fun id hC=>?_) (fun id hC=>?_) (fun id hC hl ee=>?_) (fun id hC hl _=>?_) ?_ ?_
    ·refine ⟨by rw [ab.aj,if_neg (fun e=>hC e.symm)],by unfold YC;rw [if_neg hC],fun hl b aG=>hb.block b ((hF.obj id hl).lt aG).2⟩
    ·subst hC;rw [ab.aj,if_pos rfl];exact Nat.le_succ _
    ·subst hC;rw [ab.aj,if_pos rfl] at ee;simp at ee
    ·subst hC;rw [ab.aj,if_pos rfl];rw [yB];exact .ofRow ⟨hw,ho,v,us,n8 aB hF.bF.size,rfl,aW.mono (fun b bD=>⟨oU b bD,rfl⟩)⟩ (.own rfl) rfl
    ·intro id aQ b hl ba e e';rw [ab.aj] at hl ba;unfold YC at e e';by_cases h1:id=d
     ·by_cases h2:aQ=d
      ·rw [h1,h2]
      ·rw [if_pos h1] at e;rw [if_neg h2] at e';rw [if_neg (fun e=>h2 e.symm)] at ba;have:=(ff b e).1;have:=((hF.obj aQ ba).lt e').2;omega
     ·by_cases h2:aQ=d
      ·rw [if_neg h1] at e;rw [if_pos h2] at e';rw [if_neg (fun e=>h1 e.symm)] at hl;have:=(ff b e').1;have:=((hF.obj id hl).lt e).2;omega
      ·rw [if_neg h1] at e;rw [if_neg h2] at e';rw [if_neg (fun e=>h1 e.symm)] at hl;rw [if_neg (fun e=>h2 e.symm)] at ba;exact hF.inj id aQ b hl ba e e'
    ·intro b aK hn;refine ⟨hb.block b aK,fun id hl e=>?_⟩;rw [ab.aj] at hl;unfold YC at e;by_cases h1:id=d
     ·rw [if_pos h1] at e;have:=(ff b e).1;omega
     ·rw [if_neg h1] at e;rw [if_neg (fun e=>h1 e.symm)] at hl;exact hn id hl e
   refine hK _ _ _ (hM.put (aT d rfl) (fun _ _=>?_) (fun id aa e=>?_))
   ·rw [ab.aj,if_pos rfl,yB];exact Wa.dY aB rfl rfl rfl rfl
   ·simp only [FV.hands,zX,zU] at e;obtain ⟨e1,e2⟩:=e;replace e1:=e1.symm;replace e2:=e2.symm;subst e1;subst e2;rw [ab.aj,if_pos rfl];exact zi _
end
end
section
open Go.RowKit
section
variable {c:Ctx} {s s' : ab}
theorem Src.loc {f:FV} {sz:Nat} {es:List (List FV)} (h:Src s f sz es) (ho:∀ id aa,f.hand=some (id,aa)→s'.ob id=s.ob id):Src s' f sz es:=by
 cases h with
 | nil sz => exact .nil _
 | list sz es => exact .list _ _
 | own id aa o n hl aW =>
  have e:=ho id aa rfl;rw [← e];exact .own id aa o n (by unfold ab.live at *;rw [e];exact hl) (by rw [e];exact aW)
theorem fE.loc {f:FV} {sz:Nat} {es:List (List FV)} {i:Option Nat} (h:fE s f sz es i) (ho:∀ id aa,f.hand=some (id,aa)→s'.ob id=s.ob id):fE s' f sz es i:=by
 cases h with
 | nil sz => exact .nil _
 | own id aa hl hv n hn =>
  have e:=ho id aa rfl;rw [← e];exact .own id aa (by rw [e];exact hl) (by rw [e];exact hv) n (by rw [e];exact hn)
theorem YJ.loc {m:Vl} {f g:FV} (h:YJ s m f g) (ho:∀ id aa,f.hand=some (id,aa)→s'.ob id=s.ob id):YJ s' m f g:=by
 cases h with
 | plain f hn => exact .plain _ hn
 | sub f g hn hle => exact .sub _ _ hn hle
 | nil sz => exact .nil _
 | own id aa o n hl aW hm =>
  have e:=ho id aa rfl;rw [← e];exact .own id aa o n (by unfold ab.live at *;rw [e];exact hl) (by rw [e];exact aW) (by rw [e];exact hm)
theorem xv.loc {m:Vl}:∀ {xs:List Operand} {gs:List FV},xv s m xs gs→(∀ x∈xs,s'.ev x=s.ev x)→(∀ x∈xs,∀ id aa,(s.ev x).hand=some (id,aa)→s'.ob id=s.ob id)→xv s' m xs gs
 | _, _, .nil, _, _ => .nil
 | _, _, .cons h hs, he, ho => .cons (by rw [he _ zd]; exact h.loc (ho _ zd)) (hs.loc (fun x hx => he x (by simp [hx])) (fun x hx => ho x (by simp [hx])))
theorem mX {l:Nat} (h:s.lo lo l) (he:∀ x∈lo.toList,s'.ev x=s.ev x):s'.lo lo l:=by
 cases lo with
 | none => exact h
 | some y => obtain ⟨k, hk⟩ := h; exact ⟨k, by rw [he y zd]; exact hk⟩
theorem mW {l m:Nat} (h:s.hi lo m l) (he:∀ x∈lo.toList,s'.ev x=s.ev x):s'.hi lo m l:=by
 cases lo with
 | none => exact h
 | some y => obtain ⟨k, hk⟩ := h; exact ⟨k, by rw [he y zd]; exact hk⟩
theorem Yl {ps:Array (Nat×Operand)} (he:∀ x∈(ps.toList.map (·.2)),s'.ev x=s.ev x):s'.parts ps=s.parts ps:=by
 unfold ab.parts;refine YU fun p hp=>?_;rw [he p.2 (zK.2 ⟨p,hp,rfl⟩)]
theorem xk {α γ:Type} {f g:α→Option γ}:∀ {l:List α},(∀ x∈l,f x=g x)→l.filterMap f=l.filterMap g
 | [], _ => rfl
 | x :: l, h => by rw [Zh, Zh, h x zd, xk fun y hy => h y (by simp [hy])]
theorem aq.loc {f:FV} {wr:List (Nat×zS)} (h:aq c s d op f wr) (he:∀ x∈op.operands.toList,s'.ev x=s.ev x) (cy:∀ id∈Yf s d op,s'.ob id=s.ob id):aq c s' d op f wr:=by
 have hd:=cy d (UZ s d op);cases bA:XU op with
 | true =>
  cases h <;> first|(cases bA;done)|(rename_i h0 _ _;rw [bA] at h0;cases h0;done)|(rename_i x;rw [← he x zg];first|exact .move x|exact .assign x)
 | false =>
 have hh:∀ x∈op.operands.toList,∀ id aa,(s.ev x).hand=some (id,aa)→s'.ob id=s.ob id:=fun x hx id aa hv=>cy id (qZ bA hx hv);have ah:∀ id aa,s'.ob id=s.ob id→s.live id aa→s'.live id aa:=fun id aa e hl=>by unfold ab.live at *;rw [e];exact hl
 cases h with
 | move x => rw [← he x zg]; exact .move x
 | assign x => rw [← he x zg]; exact .assign x
 | pick ep x y hb => rw [← he x zg, ← he y zg]; exact .pick ep x y (by rw [he ep zg]; exact hb)
 | bR op T T2 x y ex ey hf => exact .bR op T T2 x y (by rw [he x zg]; exact ex) (by rw [he y zg]; exact ey) hf
 | jo op T T2 x y ex ey hn bu => exact .jo op T T2 x y (by rw [he x zg]; exact ex) (by rw [he y zg]; exact ey) hn bu
 | iN op x y hT ex ey bu => exact .iN op x y hT (by rw [he x zg]; exact ex) (by rw [he y zg]; exact ey) bu
 | not T x ex => exact .not T x (by rw [he x zg]; exact ex)
 | shift op T T2 x y ex ey hn bu => exact .shift op T T2 x y (by rw [he x zg]; exact ex) (by rw [he y zg]; exact ey) hn bu
 | conv hT iQ x ex => exact .conv hT iQ x (by rw [he x zg]; exact ex)
 | neg T x ex => exact .neg T x (by rw [he x zg]; exact ex)
 | min2 bi T T2 x y ex ey dF => exact .min2 bi T T2 x y (by rw [he x zG]; exact ex) (by rw [he y zG]; exact ey) dF
 | dT hT x ex hl => exact .dT hT x (by rw [he x zG]; exact ex) (ah _ _ (hh x zG _ _ (by rw [ex]; rfl)) hl)
 | dg hT x ex => exact .dg hT x (by rw [he x zG]; exact ex)
 | dS hT x ex => exact .dS hT x (by rw [he x zG]; exact ex)
 | cH hT hf dr aA x ex hl => exact .cH hT hf dr aA x (by rw [he x zg]; exact ex) (ah _ _ (hh x zg _ _ (by rw [ex]; rfl)) hl)
 | cj hT hf dr aA x ex => exact .cj hT hf dr aA x (by rw [he x zg]; exact ex)
 | cp hT hk x y ex aA ey h1 => exact .cp hT hk x y (by rw [he x zg]; exact ex) aA (by rw [he y zg]; exact ey) h1
 | cO hT hk x y ex hl aA ey h1 =>
  have e:=hh x zg _ _ (by rw [ex];rfl);exact .cO hT hk x y (by rw [he x zg];exact ex) (ah _ _ e hl) (by rw [e];exact aA) (by rw [he y zg];exact ey) h1
 | cY hT hk x y ex hl ey h1 => exact .cY hT hk x y (by rw [he x zg]; exact ex) (ah _ _ (hh x zg _ _ (by rw [ex]; rfl)) hl) (by rw [he y zg]; exact ey) h1
 | cD hT hk x y ex ey h1 => exact .cD hT hk x y (by rw [he x zg]; exact ex) (by rw [he y zg]; exact ey) h1
 | cg hk x ex hj ho dt => exact .cg hk x (by rw [he x zg]; exact ex) hj ho dt
 | cP hk x ex hl aW hj ho dt =>
  have e:=hh x zg _ _ (by rw [ex];rfl);rw [← e];exact .cP hk x (by rw [he x zg];exact ex) (ah _ _ e hl) (by rw [e];exact aW) (by rw [e];exact hj) (by rw [e];exact ho) (by rw [e];exact dt)
 | store hk x y ex hl hv ey hf bV hj ho =>
  have e:=hh x zg _ _ (by rw [ex];rfl);rw [← e];exact .store hk x y (by rw [he x zg];exact ex) (by rw [e];exact hl) (by rw [e];exact hv) (by rw [he y zg];exact ey) hf bV (by rw [e];exact hj) (by rw [e];exact ho)
 | alloc hk hz => rw [← hd]; exact .alloc hk hz
 | box x ex hf => rw [← hd]; exact .box x (by rw [he x zg]; exact ex) hf
 | build hT fx ps hf => exact .build hT fx ps (by rw [Yl (fun x hx => he x (by simpa [Op.operands] using hx))]; exact hf)
 | eI hT hk ps hf => exact .eI hT hk ps (by rw [Yl (fun x hx => he x (by simpa [Op.operands] using hx))]; exact hf)
 | buildSlice hT hk ps es hn hw ho cA gj hf => rw [← hd]; exact .buildSlice hT hk ps es hn hw ho cA gj (by rw [Yl (fun x hx => he x (by simpa [Op.operands] using hx))]; exact hf)
 | bt hT hk ps es hn hw ho cA gj hf => exact .bt hT hk ps es hn hw ho cA gj (by rw [Yl (fun x hx => he x (by simpa [Op.operands] using hx))]; exact hf)
 | makeSlice hT hk x y ex ey ho hb hn => rw [← hd]; exact .makeSlice hT hk x y (by rw [he x zg]; exact ex) (by rw [he y zg]; exact ey) ho hb hn
 | dz hT hk x lo hi ex hl aA cK cd h1 h2 =>
  have e:=hh x zg _ _ (by rw [ex];rfl);exact .dz hT hk x lo hi (by rw [he x zg];exact ex) (ah _ _ e hl) (by rw [e];exact aA) (mX cK (fun y hy=>he y (by cases lo <;> simp_all [Op.operands]))) (mW cd (fun y hy=>he y (by cases hi <;> simp_all [Op.operands]))) h1 h2
 | cr hT hk x lo hi ex aA cK cd h1 h2 =>
  exact .cr hT hk x lo hi (by rw [he x zg];exact ex) aA (mX cK (fun y hy=>he y (by cases lo <;> simp_all [Op.operands]))) (mW cd (fun y hy=>he y (by cases hi <;> simp_all [Op.operands]))) h1 h2
 | dy hT hk x lo hi ex cK cd =>
  exact .dy hT hk x lo hi (by rw [he x zg];exact ex) (mX cK (fun y hy=>he y (by cases lo <;> simp_all [Op.operands]))) (mW cd (fun y hy=>he y (by cases hi <;> simp_all [Op.operands])))
 | extract x ex hf hn => exact .extract x (by rw [he x zg]; exact ex) hf hn
 | nilPtr x ex hl => exact .nilPtr x (by rw [he x zg]; exact ex) (ah _ _ (hh x zg _ _ (by rw [ex]; rfl)) hl)
 | dW x ex => exact .dW x (by rw [he x zg]; exact ex)
 | append hT hk aZ x y ex ey h1 hE h2 hb hm=>
  rename_i T e f1 f2 bo av i;have e1:∀ id aa,f1.hand=some (id,aa)→s'.ob id=s.ob id:=fun id aa hv=>hh x zG id aa (by rw [ex];exact hv);have e2:∀ id aa,f2.hand=some (id,aa)→s'.ob id=s.ob id:=fun id aa hv=>hh y zG id aa (by rw [ey];exact hv);have lH:=h1.loc e1;have hi:∀ k,i=some k→s'.ob k=s.ob k:=fun k hk=>by
   generalize (c.ty e).size=sz at h1;cases h1 with
   | nil => cases hk
   | own id aa hl hv n hn => injection hk with hk; subst hk; exact e1 id aa rfl
  have hw:xE s d e (c.ty e).size (bo++av) i=xE s' d e (c.ty e).size (bo++av) i:=by
   cases i with
   | none => simp only [xE, hd]
   | some k => simp only [xE, hd, hi k rfl]
  rw [← hd,hw];exact .append hT hk aZ x y (by rw [he x zG];exact ex) (by rw [he y zG];exact ey) lH (fun k hk=>by rw [hi k hk];exact hE k hk) (h2.loc e2) hb hm
 | dK hT hk aZ x y ex ey h1 hE h2 hb hm=>
  rename_i T e f1 f2 bo av i;have e1:∀ id aa,f1.hand=some (id,aa)→s'.ob id=s.ob id:=fun id aa hv=>hh x zG id aa (by rw [ex];exact hv);have e2:∀ id aa,f2.hand=some (id,aa)→s'.ob id=s.ob id:=fun id aa hv=>hh y zG id aa (by rw [ey];exact hv);have lH:=h1.loc e1;have hi:∀ k,i=some k→s'.ob k=s.ob k:=fun k hk=>by
   generalize (c.ty e).size=sz at h1;cases h1 with
   | nil => cases hk
   | own id aa hl hv n hn => injection hk with hk; subst hk; exact e1 id aa rfl
  have hw:xE s d e (c.ty e).size (bo++av) i=xE s' d e (c.ty e).size (bo++av) i:=by
   cases i with
   | none => simp only [xE, hd]
   | some k => simp only [xE, hd, hi k rfl]
  rw [← hd,hw];exact .dK hT hk aZ x y (by rw [he x zG];exact ex) (by rw [he y zG];exact ey) lH (fun k hk=>by rw [hi k hk];exact hE k hk) (h2.loc e2) hb hm
 | dJ hT hk aZ x y ex a0 az hE aA ec ey h2 h1=>
  have e:=hh x zG _ _ (by rw [ex];rfl);rw [← hd,← e];exact .dJ hT hk aZ x y (by rw [he x zG];exact ex) (by rw [e];exact a0) (by rw [e];exact az) (by rw [e];exact hE) (by rw [e];exact aA) (by rw [e];exact ec)
   (by rw [he y zG];exact ey) (h2.loc fun id aa hv=>hh y zG id aa (by rw [ey];exact hv)) h1
 | dI hT hk aZ x y ex a0 az hE aA ec ey h2 h1 hb hm=>
  have e:=hh x zG _ _ (by rw [ex];rfl);rw [← hd,← e];exact .dI hT hk aZ x y (by rw [he x zG];exact ex) (by rw [e];exact a0) (by rw [e];exact az) (by rw [e];exact hE) (by rw [e];exact aA) (by rw [e];exact ec)
   (by rw [he y zG];exact ey) (h2.loc fun id aa hv=>hh y zG id aa (by rw [ey];exact hv)) h1 hb hm
 | gA hk hz x ex a0 az aA hj =>
  have e:=hh x zg _ _ (by rw [ex];rfl);exact .gA hk hz x (by rw [he x zg];exact ex) (by rw [e];exact a0) (by rw [e];exact az) (by rw [e];exact aA) (by rw [e];exact hj)
 | dZ hk hz x y ex a0 az aA ey hf hj =>
  have e:=hh x zg _ _ (by rw [ex];rfl);rw [← e];refine .dZ hk hz x y (by rw [he x zg];exact ex) (by rw [e];exact a0) (by rw [e];exact az) (by rw [e];exact aA) (by rw [he y zg];exact ey) ?_ (by rw [e];exact hj);rcases hf with h1|⟨aQ,bM,o,n,rfl,hl⟩|⟨aQ,bM,o,n,rfl,hl⟩|hw|⟨aQ,bM,rfl,hl⟩
  ·exact .inl h1
  ·exact .inr (.inl ⟨aQ,bM,o,n,rfl,ah _ _ (hh y zg _ _ (by rw [ey];rfl)) hl⟩)
  ·exact .inr (.inr (.inl ⟨aQ,bM,o,n,rfl,ah _ _ (hh y zg _ _ (by rw [ey];rfl)) hl⟩))
  ·exact .inr (.inr (.inr (.inl hw)))
  ·exact .inr (.inr (.inr (.inr ⟨aQ,bM,rfl,ah _ _ (hh y zg _ _ (by rw [ey];rfl)) hl⟩)))
 | makeMap T => rw [← hd]; exact .makeMap T
 | fI op x y ex hX ey hY hl bu => exact .fI op x y (by rw [he x zg]; exact ex) hX (by rw [he y zg]; exact ey) hY hl bu
 | di op hT x y ex hb ey bu=>
  rename_i T T2 e f b;have bD : Uo s' f b:=by
   cases hb with
   | nil => exact .nil
   | own id aa o n hl hn => exact .own id aa o n (ah _ _ (hh x zg _ _ (by rw [ex]; rfl)) hl) hn
   | list sz es hn => exact .list sz es hn
  exact .di op hT x y (by rw [he x zg];exact ex) bD (by rw [he y zg];exact ey) bu
 | copy hT hk hz x y ex a0 az aA ey h2=>
  have e:=hh x zG _ _ (by rw [ex];rfl);rw [← e];exact .copy hT hk hz x y (by rw [he x zG];exact ex) (by rw [e];exact a0) (by rw [e];exact az) (by rw [e];exact aA) (by rw [he y zG];exact ey)
   (h2.loc fun id aa hv=>hh y zG id aa (by rw [ey];exact hv))
 | dV hk c0 x ex hn => exact .dV hk c0 x (by rw [he x zg]; exact ex) hn
 | dw hk c0 x ex hn => exact .dw hk c0 x (by rw [he x zg]; exact ex) hn
 | ea hk c0 x ex hn => exact .ea hk c0 x (by rw [he x zg]; exact ex) hn
 | dU hx hn => exact .dU (by rw [← hx]; exact YU fun y hy => he y (by simp [Op.operands] at hy ⊢; exact hy)) hn
 | bound hx hn => exact .bound (by rw [← hx]; exact YU fun y hy => he y (by simp [Op.operands] at hy ⊢; exact hy)) hn
 | look hT hk K x y ok ex ey eH bP hl hn=>
  refine .look hT hk K x y ok ?_ (by rw [he y zg];exact ey) eH bP hl hn;rcases ex with ⟨id,aa,e1,e2,e3⟩|e1
  ·have e:=hh x zg _ _ (by rw [e1];rfl);exact .inl ⟨id,aa,by rw [he x zg];exact e1,⟨ah _ _ e e2.1,by rw [e];exact e2.2⟩,by rw [e];exact e3⟩
  ·exact .inr (by rw [he x zg];exact e1)
 | update hT K x y z ex a0 az ey ez hk bP hn hs =>
  have e:=hh x zg _ _ (by rw [ex];rfl);rw [← e];exact .update hT K x y z (by rw [he x zg];exact ex) (by rw [e];exact a0) (by rw [e];exact az) (by rw [he y zg];exact ey) (by rw [he z zg];exact ez) (by rw [e];exact hk) bP hn (by rw [e];exact hs)
 | call hs hm hx => exact .call hs hm (hx.loc (fun x hx => he x (by simp [Op.operands, Call.operands] at hx ⊢; exact .inr hx)) (fun x hx => hh x (by simp [Op.operands, Call.operands] at hx ⊢; exact .inr hx)))
 | @eh f x xs ts gs aE res ex hs hx => exact .eh (by rw [he x zG]; exact ex) hs (hx.loc (fun y hy => he y (by simp [Op.operands, Call.operands] at hy ⊢; exact .inr hy)) (fun y hy => hh y (by simp [Op.operands, Call.operands] at hy ⊢; exact .inr hy)))
 | dv hx hc => exact .dv (by rw [← hx]; exact YU fun y hy => he y (by simp [Op.operands] at hy ⊢; exact hy)) hc
 | fJ ho hn hg=>
  have ij:Yf s' d op=Yf s d op:=by
   unfold Yf;rw [bA];refine congrArg (d::·) (xk fun x hx=>?_);rw [he x hx]
  exact .fJ ho hn fun gT h1 h2=>hg gT (fun x hx=>(h1 x hx).trans (he x hx)) (fun id hid=>(h2 id (by rw [ij];exact hid)).trans (cy id hid))
 | ext ho hn hg=>
  have ij:Yf s' d op=Yf s d op:=by
   unfold Yf;rw [bA];refine congrArg (d::·) (xk fun x hx=>?_);rw [he x hx]
  exact .ext ho hn fun gT h1 h2=>hg gT (fun x hx=>(h1 x hx).trans (he x hx)) (fun id hid=>(h2 id (by rw [ij];exact hid)).trans (cy id hid))
 | dL hs hx => rw [← hd]; exact .dL hs (hx.loc (fun x hx => he x (by simp [Op.operands, Call.operands] at hx ⊢; exact .inr hx)) (fun x hx => hh x (by simp [Op.operands, Call.operands] at hx ⊢; exact .inr hx)))
theorem FR.ext {w0:World} (h:FR N w0 J s a w β) (hg:∀ k,s'.get k=s.get k) (ho:∀ k,s'.ob k=s.ob k):FR N w0 J s' a w β:=by
 refine h.step (C:=fun _=>False) h.size h.defers h.bF (fun b hb=>⟨⟨hb.1,hb.2.1,fun id hl=>hb.2.2 id (by rw [← ho];exact hl)⟩,rfl⟩) (fun k=>.inl ⟨rfl,hg k⟩) (fun id _=>⟨ho id,rfl,fun _ _ _=>rfl⟩) (fun _ h=>h.elim) (fun _ h=>h.elim) (fun _ h=>h.elim) ?_ (fun b _ hn=>⟨rfl,fun id hl=>hn id (by rw [← ho];exact hl)⟩);intro id aQ b hl ba;rw [ho] at hl ba;exact h.inj id aQ b hl ba
end
structure Rec where
 o:Oper
 f:FV
 wr:List (Nat×zS)
 ft:List Nat
 deriving Inhabited
def ab.fG (s:ab) (r:Rec):ab:=s.app r.o.dst r.f r.wr
def nb:FV→Bool→Option Bool
 | .bool v, want => some (v == want)
 | .bw [], _ => some false
 | _, _ => none
theorem rO {f:FV} {want:Bool} (h:nb f want=some b):(∃ v,f=.bool v∧(v == want)=b)∨(f=.bw []∧b=false):=by
 unfold nb at h;split at h
 ·injection h with h;exact .inl ⟨_,rfl,h⟩
 ·injection h with h;exact .inr ⟨rfl,h.symm⟩
 ·cases h
def xn (ops:Array Oper) (s:ab) (o:Oper) (b:Bool):Prop:=
 match o.guard with
 | none => b=true
 | some (j, want) => ∃ d v, (ops[j]?).bind (·.dst)=some d ∧ s.get d=v ∧ nb v want=some b
inductive fu (c:Ctx) (ops:Array Oper):ab→List Oper→List Rec→ab→Prop where
 | nil (s:ab):fu c ops s [] [] s
 | step {o:Oper} {rest:List Oper} {s s' : ab} {f:FV} {wr:List (Nat×zS)} {tr:List Rec} {d:Nat} (hw:xn ops s o true) (hd:o.dst=some d∨(o.dst=none∧Up o.op)) (aT:∀ d,o.dst=some d→d<c.N)
   (he:aq c s d o.op f wr) (hs:fu c ops (s.app o.dst f wr) rest tr s'):fu c ops s (o::rest) (⟨o,f,wr,Yf s d o.op⟩::tr) s'
 | skip {o:Oper} {rest:List Oper} {s s' : ab} {tr:List Rec} (hw:xn ops s o false) (aT:∀ d, o.dst=some d → d<c.N) (hs:fu c ops (s.app o.dst (.bw []) []) rest tr s'):fu c ops s (o :: rest) (⟨o, .bw [], [], []⟩ :: tr) s'
def Wb (c:Ctx) (ops:Array Oper) (s:ab) (r:Rec):Prop:=
 (∀ d,r.o.dst=some d→d<c.N)∧((xn ops s r.o true∧∃ d,(r.o.dst=some d∨(r.o.dst=none∧Up r.o.op))∧aq c s d r.o.op r.f r.wr∧r.ft=Yf s d r.o.op)∨(xn ops s r.o false∧r.f=.bw []∧r.wr=[]∧r.ft=[]))
def sig (tr:List Rec) (s0:ab) (S:Nat→Bool):Nat→ab
 | 0 => s0
 | k+1 => if S k then (sig tr s0 S k).fG (tr.getD k default) else sig tr s0 S k
theorem xe (r:Rec) (tr:List Rec) (s0:ab) (S:Nat→Bool):∀ k,sig (r::tr) s0 S (k+1)=sig tr (if S 0 then s0.fG r else s0) (fun j=>S (j+1)) k
 | 0 => by simp [sig]
 | k+1 => by
  rw [sig,xe r tr s0 S k];simp [sig]
theorem fu.at {s:ab} {l:List Oper} {tr:List Rec} {s' : ab} (h:fu c ops s l tr s'):tr.length=l.length∧s'=sig tr s (fun _=>true) tr.length∧
  ∀ k,k<l.length→(tr.getD k default).o=l.getD k default∧Wb c ops (sig tr s (fun _=>true) k) (tr.getD k default):=by
 induction h with
 | nil s => exact ⟨rfl, rfl, fun k hk => by simp at hk⟩
 | @step o rest s s' f wr tr d hw hd aT he hs ih=>
  obtain ⟨h1,h2,h3⟩:=ih;refine ⟨by simp [h1],?_,fun k hk=>?_⟩
  ·rw [yK,xe];exact h2
  ·cases k with
   | zero => exact ⟨rfl, aT, .inl ⟨hw, d, hd, he, rfl⟩⟩
   | succ k =>
    rw [xe];exact h3 k (by simpa using hk)
 | @skip o rest s s' tr hw aT hs ih=>
  obtain ⟨h1,h2,h3⟩:=ih;refine ⟨by simp [h1],?_,fun k hk=>?_⟩
  ·rw [yK,xe];exact h2
  ·cases k with
   | zero => exact ⟨rfl, aT, .inr ⟨hw, rfl, rfl, rfl⟩⟩
   | succ k =>
    rw [xe];exact h3 k (by simpa using hk)
def Vm (r:Rec) (t:Nat):Option FV:=if r.o.dst=some t then some r.f else none
def yE:List (Nat×zS)→Nat→Option zS
 | [], _ => none
 | p :: l, id => match yE l id with|some b => some b|none => if p.1=id then some p.2 else none
theorem kO:∀ (l:List (Nat×zS)) (s:ab) (id:Nat),(s.wr l).ob id=(yE l id).getD (s.ob id)
 | [], _, _ => rfl
 | p :: l, s, id => by
  show (ab.wr (s.set p.1 p.2) l).ob id=_;rw [kO l,yE,ab.aj];cases yE l id with
  | some b => rfl
  | none => by_cases h:p.1=id <;> simp [h]
theorem yU:∀ {l:List (Nat×zS)} {id:Nat},(yE l id).isSome→id∈l.map (·.1)
 | p::l,id,h=>by
  unfold yE at h;cases hl:yE l id with
  | some b => exact YV _ (yU (by rw [hl]; rfl))
  | none =>
   rw [hl] at h;dsimp only at h;split at h
   ·rename_i e;subst e;simp
   ·simp at h
theorem Zd (s:ab) (r:Rec) (t:Nat):(s.fG r).get t=(Vm r t).getD (s.get t):=by
 unfold ab.fG ab.app Vm;cases h:r.o.dst with
 | none => simp [ab.jv, ab.bS]
 | some d =>
  simp only [ab.jv,ab.c8,ab.bS,zB];split <;> rfl
theorem Ym (s:ab) (r:Rec) (id:Nat):(s.fG r).ob id=(yE r.wr id).getD (s.ob id):=by
 unfold ab.fG ab.app;cases r.o.dst with
 | none => exact kO _ _ _
 | some d => exact kO _ _ _
section
variable {α:Type}
def Ul (u:Nat→Option α) (S:Nat→Bool) (x0:α):Nat→α
 | 0 => x0
 | k+1 => if S k then (u k).getD (Ul u S x0 k) else Ul u S x0 k
theorem yg (u:Nat→Option α) (S S' : Nat→Bool) (x0:α):∀ n,(∀ k,k<n→(u k).isSome→S k=S' k)→Ul u S x0 n=Ul u S' x0 n
 | 0, _ => rfl
 | n+1, h => by
  have ih:=yg u S S' x0 n (fun k hk=>h k zc);have hn:=h n zc;unfold Ul;rw [ih];cases hu:u n with
  | none => simp
  | some v => rw [hn (by rw [hu]; rfl)]
theorem yA (u:Nat→Option α) (S:Nat→Bool) (x0:α) (m:Nat):∀ j,(∀ k,m≤k→k<m+j→S k=true→u k=none)→Ul u S x0 (m+j)=Ul u S x0 m
 | 0, _ => rfl
 | j+1, h => by
  have ih:=yA u S x0 m j (fun k h1 h2=>h k h1 zc);rw [← Xb,Ul];split
  ·rename_i hS;rw [h (m+j) zc zc hS,ih];rfl
  ·exact ih
theorem Ys (u:Nat→Option α) (S:Nat→Bool) (x0:α) (i:Nat) (hS:S i=false):∀ n,i<n→(∀ k,i<k→k<n→S k=true→(u k).isSome→u i=none)→Ul u (fun k=>k == i || S k) x0 n=(u i).getD (Ul u S x0 n)
 | 0, h, _ => by omega
 | n + 1,hi,h=>by
  by_cases cn:i=n
  ·subst cn;unfold Ul;simp only [beq_self_eq_true,Bool.true_or,if_true,hS,Bool.false_eq_true,if_false];congr 1;refine yg _ _ _ _ _ (fun k hk _=>?_);have:(k == i)=false:=by simp;omega
   rw [this];rfl
  ·have ih:=Ys u S x0 i hS n zc (fun k h1 h2=>h k h1 zc);have hn:(n == i)=false:=by simp;omega
   unfold Ul;rw [hn,yI,ih];split
   ·rename_i oV;cases hu:u n with
    | none => rfl
    | some v =>
     have:=h n zc zc oV (by rw [hu];rfl);rw [this];rfl
   ·rfl
end
theorem ye (tr:List Rec) (s0:ab) (S:Nat→Bool) (t:Nat):∀ k,(sig tr s0 S k).get t=Ul (fun k=>Vm (tr.getD k default) t) S (s0.get t) k
 | 0 => rfl
 | k+1 => by
  unfold sig Ul;split
  ·rw [Zd,ye tr s0 S t k]
  ·exact ye tr s0 S t k
theorem yX (tr:List Rec) (s0:ab) (S:Nat→Bool) (id:Nat):∀ k,(sig tr s0 S k).ob id=Ul (fun k=>yE (tr.getD k default).wr id) S (s0.ob id) k
 | 0 => rfl
 | k+1 => by
  unfold sig Ul;split
  ·rw [Ym,yX tr s0 S id k]
  ·exact yX tr s0 S id k
def fD:List Oper→List (List Nat)→List (List Nat)
 | [], acc => acc
 | o :: l, acc => fD l (acc ++ [o.after.toList.flatMap fun e => if Region.binds .any e then e.on :: acc.getD e.on [] else []])
def yq (ops:Array Oper) (r q:Rec):Bool:=
 r.o.apart ops q.o && (r.wr.all fun p=>!q.ft.contains p.1 && !(q.wr.map (·.1)).contains p.1) && (q.wr.all fun p=>!r.ft.contains p.1)
def UJ (ops:Array Oper) (tr:List Rec) (A:List (List Nat)):Bool:=
 (List.range tr.length).all fun i=>(List.range i).all fun j=>(A.getD i []).contains j || yq ops (tr.getD j default) (tr.getD i default)
def UI (l:List Oper):Bool:=(List.range l.length).all fun i=>(l.getD i default).after.toList.all fun e=>!Region.binds .any e || decide (e.on<i)
def Za (ops:Array Oper) (tr:List Rec):Bool:=UI ops.toList && UJ ops tr (fD ops.toList [])
theorem Xl (S:Nat→Bool):∀ (l:List Oper) (acc:List (List Nat)),(∀ i,i<acc.length→S i=true→∀ j∈acc.getD i [],S j=true)→
  (∀ k,k<l.length→S (acc.length+k)=true→∀ e∈(l.getD k default).after.toList,Region.binds .any e=true→S e.on=true)→(∀ k,k<l.length→∀ e∈(l.getD k default).after.toList,Region.binds .any e=true→e.on<acc.length+k)→
  ∀ i,i<acc.length+l.length→S i=true→∀ j∈(fD l acc).getD i [],S j=true
 | [], acc, ha, _, _, i, hi, hS, j, hj => ha i (by simpa using hi) hS j hj
 | o ::l,acc,ha,hl,hb,i,hi,hS,j,hj=>by
  rw [fD] at hj;refine Xl S l _ (fun i hi hS j hj=>?_) (fun k hk hS e he jI=>?_) (fun k hk e he jI=>?_) i (by simp at hi ⊢;omega) hS j hj
  ·rcases xb i acc.length with h|h
   ·rw [yj,Zi h,← yj] at hj;exact ha i h hS j hj
   ·have df:i=acc.length:=by simp at hi;omega
    subst df;rw [yj,ZS (zi _),Nat.sub_self] at hj;simp only [List.getElem?_cons_zero,ZM,List.mem_flatMap] at hj;obtain ⟨e,he,hj⟩:=hj;split at hj
    ·rename_i jI;have ec:=hl 0 zd (by simpa using hS) e he jI;rcases zM.1 hj with h|h
     ·rw [h];exact ec
     ·exact ha e.on (by have:=hb 0 zd e he jI;omega) ec j h
    ·simp at hj
  ·refine hl (k+1) (by simpa using hk) ?_ e he jI;simp only [zT,yK,WI] at hS;rwa [show acc.length+(k+1)=acc.length+(0+1)+k by omega]
  ·have:=hb (k+1) (by simpa using hk) e he jI;simp;omega
theorem qm {o:Oper} {s s' : ab} (h:∀ t∈o.looksAt ops,s'.get t=s.get t):∀ x∈o.op.operands.toList,s'.ev x=s.ev x:=by
 intro x hx;cases x with
 | tmp t => exact h t (List.mem_append_left _ (xF.2 ⟨.tmp t, hx, rfl⟩))
 | const v => rfl
 | global g => rfl
 | func f => rfl
theorem xn.loc {o:Oper} {s s' : ab} (hw:xn ops s o b) (h:∀ t∈o.looksAt ops,s'.get t=s.get t):xn ops s' o b:=by
 unfold xn at *;cases hg:o.guard with
 | none => rw [hg] at hw; exact hw
 | some p =>
  obtain ⟨j,want⟩:=p;rw [hg] at hw;obtain ⟨d,v,h1,h2,h3⟩:=hw;refine ⟨d,v,h1,?_,h3⟩;rw [h d (List.mem_append_right _ (by simp [hg,h1]))];exact h2
theorem Wb.loc {s s' : ab} {r:Rec} (hr:Wb c ops s r) (h:∀ t∈r.o.looksAt ops,s'.get t=s.get t) (ho:∀ id∈r.ft,s'.ob id=s.ob id):Wb c ops s' r:=by
 obtain ⟨hN,hr⟩:=hr;refine ⟨hN,?_⟩;have iX:=qm h;rcases hr with ⟨hw,d,hd,he,hf⟩|⟨hw,h1,h2,h3⟩
 ·refine .inl ⟨hw.loc h,d,hd,he.loc iX (by rw [← hf];exact ho),?_⟩;rw [hf];unfold Yf;congr 2;have key:∀ l:List Operand,(∀ x∈l,s'.ev x=s.ev x)→(l.filterMap fun x=>(s.ev x).hand.map (·.1))=l.filterMap fun x=>(s'.ev x).hand.map (·.1):=by
   intro l
   induction l with
   | nil => intro _; rfl
   | cons x l ih => intro h; rw [Zh, Zh, h x zd, ih (fun y hy => h y (by simp [hy]))]
  exact key _ iX
 ·exact .inr ⟨hw.loc h,h1,h2,h3⟩
section
variable {c:Ctx} {w0:World} {J:JJ} {ops:Array Oper} {Q:Exit→Act→World→Prop}
theorem xn.model {s:ab} (hF:FR c.N w0 J s a w β) {o:Oper} (hw:xn ops s o b):Region.wanted o (yielded ops a.tmps)=b:=by
 unfold xn at hw;unfold Region.wanted;cases hg:o.guard with
 | none => rw [hg] at hw; rw [hw]
 | some p=>
  obtain ⟨j,want⟩:=p;rw [hg] at hw;obtain ⟨d,v,h1,h2,h3⟩:=hw;rcases rO h3 with ⟨v,rfl,h4⟩|⟨rfl,rfl⟩
  ·have hv:a.tmps.getD d undef=.bool v:=hF.ch (x:=.tmp d) (b:=v) h2;have hy:yielded ops a.tmps j=some v:=by
    unfold yielded;rw [h1];simp only [xT];rw [ZC] at hv;cases ha:a.tmps[d]? with
    | none => rw [ha] at hv; simp [undef] at hv
    | some u => rw [ha] at hv; simp only [ZM] at hv; rw [hv]
   simp only [hy];rw [← h4];cases v <;> cases want <;> rfl
  ·have hv:a.tmps.getD d undef=.tuple #[]:=by
    have:=hF.ev (.tmp d);rw [show s.ev (.tmp d)=.bw [] from h2] at this;have:=VR.rd this rfl;have e:a.eval (.tmp d)=a.tmps.getD d undef:=rfl;rw [e] at this;generalize a.tmps.getD d undef=v at this;cases this with
    | bw us fs hl hr=>
     have:us=[]:=by cases us with
      | nil => rfl
      | cons u us => simp at hl
     subst this;rfl
   have hy:yielded ops a.tmps j=none:=by
    unfold yielded;rw [h1];simp only [xT];rw [ZC] at hv;cases ha:a.tmps[d]? with
    | none => rfl
    | some u => rw [ha] at hv; simp only [ZM] at hv; rw [hv]
   simp only [hy];cases want <;> rfl
theorem Wb.wpOp {s:ab} (hF:FR c.N w0 J s a w β) {r:Rec} (hi:ops[i]? = some r.o) (hr:Wb c ops s r) (hK:∀ a' w' aJ,FR c.N w0 J (s.fG r) a' w' aJ→K a' w') :
  wpOp c.P ops Q i K a w:=by
 obtain ⟨hN,hr⟩:=hr;unfold Go.wpOp;simp only [hi];rcases hr with ⟨hw,d,hd,he,hf⟩|⟨hw,h1,h2,h3⟩
 ·rw [if_pos (hw.model hF)];exact .inl (he.sound hF r.o rfl hd hN hK)
 ·rw [if_neg (by rw [hw.model hF];decide)];refine hK _ _ β ?_;unfold ab.fG ab.app;rw [h1,h2];cases hd:r.o.dst with
  | none => exact hF
  | some d => exact hF.put (hN d hd) (VR.a9 (Rd.bw [] [] rfl zd) rfl) (fun id aa e => by cases e)
def Uw (S:Nat→Bool):Nat→Nat
 | 0 => 0
 | k+1 => Uw S k+if S k then 0 else 1
theorem WO {S:Nat→Bool} {i:Nat} (hS:S i=false):∀ n,i<n→Uw (fun k=>k == i || S k) n+1=Uw S n
 | 0, h => by omega
 | n + 1,h=>by
  unfold Uw;by_cases cn:i=n
  ·subst cn;have key:∀ m,m≤i→Uw (fun k=>k == i || S k) m=Uw S m:=by
    intro m
    induction m with
    | zero => intro _; rfl
    | succ m ih =>
     intro hm;unfold Uw;have:(m == i)=false:=by simp;omega
     rw [ih zc,this];rfl
   rw [key i (zi _),hS];simp
  ·have ih:=WO hS n zc;have:(n == i)=false:=by simp;omega
   rw [this,yI];omega
theorem Xq {S:Nat→Bool}:∀ n,Uw S n=0→∀ k,k<n→S k=true
 | 0, _, k, hk => by omega
 | n+1,h,k,hk=>by
  unfold Uw at h;by_cases o5:k=n
  ·subst o5;cases hS:S k with
   | true => rfl
   | false => rw [hS] at h; simp at h
  ·exact Xq n zc k zc
theorem qs {s0 s' : ab} {tr:List Rec} (hx:fu c ops s0 ops.toList tr s') (dC:Za ops tr=true) (hQ:∀ a w β,FR c.N w0 J s' a w β→Q .normal a w) :
  ∀ (fuel:Nat) (listed:Array Bool) (a:Act) (w:World) (β:Nat→Option Nat),listed.size=ops.size→(∀ i,i<ops.size→listed.getD i false=true→∀ e∈(ops.toList.getD i default).after.toList,Region.binds .any e=true→listed.getD e.on false=true)→
   Uw (fun k=>listed.getD k false) ops.size≤fuel→FR c.N w0 J (sig tr s0 (fun k=>listed.getD k false) ops.size) a w β→wpAny c.P .any ops Q fuel listed a w:=by
 obtain ⟨fZ,la,eA⟩:=hx.at;have hlen:tr.length=ops.size:=by rw [fZ];simp
 rw [WL] at eA;unfold Za at dC;rw [zD] at dC;obtain ⟨dp,cC⟩:=dC;have cB : ∀ i,i<ops.size→∀ e∈(ops.toList.getD i default).after.toList,Region.binds .any e=true→e.on<i:=by
  intro i hi e he hb;unfold UI at dp;rw [zC] at dp;have:=dp i (by simpa using hi);rw [zC] at this;have:=this e he;simpa [hb] using this
 have cM : ∀ i,i<ops.size→∀ j,j<i→j∈(fD ops.toList []).getD i []∨yq ops (tr.getD j default) (tr.getD i default)=true:=by
  intro i hi j hj;unfold UJ at cC;rw [zC] at cC;have:=cC i (by simp [hlen];exact hi);rw [zC] at this;have:=this j (by simpa using hj);rw [Bool.or_eq_true] at this;exact this.imp (fun h=>by simpa using h) id
 have eM:∀ (listed:Array Bool) (i:Nat),i<listed.size→listed.getD i true=listed.getD i false:=fun listed i hi=>by simp [hi]
 have fT:∀ (listed:Array Bool) (a:Act) (w:World) (β:Nat→Option Nat),(∀ k,k<ops.size→listed.getD k false=true)→FR c.N w0 J (sig tr s0 (fun k=>listed.getD k false) ops.size) a w β→Q .normal a w:=by
  intro listed a w β bz hF;refine hQ a w β (hF.ext (fun k=>?_) (fun k=>?_))
  ·rw [la,hlen,ye,ye];exact yg _ _ _ _ _ (fun k hk _=>(bz k hk).symm)
  ·rw [la,hlen,yX,yX];exact yg _ _ _ _ _ (fun k hk _=>(bz k hk).symm)
 have dH:∀ (listed:Array Bool),listed.size=ops.size→Region.ready .any ops listed=[]→∀ k,k<ops.size→listed.getD k false=true:=by
  intro listed aA hr k
  induction k using Nat.strongRecOn with
  | _ k ih=>
   intro hk;cases hl:listed.getD k false with
   | true => rfl
   | false=>
    exfalso;have:k∈Region.ready .any ops listed:=by
     rw [mem_ready];refine ⟨by rw [eM listed k zc];exact hl,ops.toList.getD k default,by simp [hk],fun e he hb=>?_⟩;have aK:=cB k hk e (by simpa using he) hb;exact ih e.on aK zc
    rw [hr] at this;simp at this
 intro fuel
 induction fuel with
 | zero=>
  intro listed a w β aA bQ iV hF;have bz:=Xq (S:=fun k=>listed.getD k false) ops.size zc;refine ⟨?_,fT listed a w β bz hF⟩;cases hr:Region.ready .any ops listed with
  | nil => rfl
  | cons i l =>
   exfalso;have:i∈Region.ready .any ops listed:=by rw [hr];simp
   rw [mem_ready] at this;obtain ⟨h0,o,ho,_⟩:=this;have hi:i<ops.size:=(yC.1 ho).1;rw [eM listed i zc,bz i hi] at h0;cases h0
 | succ fuel ih=>
  intro listed a w β aA bQ iV hF;refine ⟨fun hr=>fT listed a w β (dH listed aA hr) hF,fun i hi=>?_⟩;rw [mem_ready] at hi;obtain ⟨h0,o,ho,bz⟩:=hi;have cW:i<ops.size:=(yC.1 ho).1;rw [eM listed i zc] at h0;have je:ops.toList.getD i default=o:=by simp [yj,ho]
  obtain ⟨eB,my⟩:=eA i cW;rw [je] at eB;have cb : ∀ k,k<ops.size→(k == i || listed.getD k false)=true→∀ e∈(ops.toList.getD k default).after.toList,Region.binds .any e=true→(e.on == i || listed.getD e.on false)=true:=by
   intro k hk hS e he hb;by_cases fe:k=i
   ·subst fe;rw [je] at he;rw [bz e (by simpa using he) hb,YQ]
   ·have:(k == i)=false:=by simpa using fe
    rw [this,yI] at hS;rw [bQ k hk hS e he hb,YQ]
  have iR:∀ j∈(fD ops.toList []).getD i [],(j == i || listed.getD j false)=true:=
   Xl (fun k=>k == i || listed.getD k false) ops.toList [] (fun i hi=>by simp at hi) (fun k hk hS e he hb=>cb k (by simpa using hk) (by simpa using hS) e he hb) (fun k hk e he hb=>by simpa using cB k (by simpa using hk) e he hb) i (by simpa using cW) zd
  have fO:∀ k,listed.getD k false=true→k<ops.size→∀ j∈(fD ops.toList []).getD k [],listed.getD j false=true:=fun k hS hk=>
   Xl (fun k=>listed.getD k false) ops.toList [] (fun i hi=>by simp at hi) (fun k hk hS e he hb=>bQ k (by simpa using hk) (by simpa using hS) e he hb) (fun k hk e he hb=>by simpa using cB k (by simpa using hk) e he hb) k (by simpa using hk) hS
  have iT:∀ k,k<ops.size→∀ j∈(fD ops.toList []).getD k [],j<k∨j=k→True:=fun _ _ _ _ _=>trivial;have cI:∀ k,k<i→yq ops (tr.getD k default) (tr.getD i default)=true∨listed.getD k false=true:=by
   intro k hk;rcases cM i cW k hk with h|h
   ·have:=iR k h;have bK:(k == i)=false:=by simp;omega
    rw [bK,yI] at this;exact .inr this
   ·exact .inl h
  have bB:∀ k,i<k→k<ops.size→listed.getD k false=true→yq ops (tr.getD i default) (tr.getD k default)=true:=by
   intro k hk dG hS;rcases cM k dG i hk with h|h
   ·rw [fO k hS dG i h] at h0;cases h0
   ·exact h
  have e9:∀ {r q:Rec},yq ops r q=true→(∀ d,r.o.dst=some d→d∉q.o.looksAt ops)∧(∀ d,r.o.dst=some d→q.o.dst≠some d)∧(∀ d,q.o.dst=some d→d∉r.o.looksAt ops)∧
    (∀ id,(yE r.wr id).isSome→id∉q.ft∧yE q.wr id=none)∧(∀ id,(yE q.wr id).isSome→id∉r.ft):=by
   intro r q h;unfold yq at h;rw [zD,zD] at h;obtain ⟨⟨h1,h2⟩,h3⟩:=h;obtain ⟨k1,k2,k3⟩:=Oper.apart_spec h1;rw [zC] at h2 h3;refine ⟨k1,k2,k3,fun id hid=>?_,fun id hid=>?_⟩
   ·obtain ⟨p,hp,rfl⟩:=zK.1 (yU hid);have:=h2 p hp;rw [zD] at this;refine ⟨by simpa using this.1,?_⟩;cases hl:yE q.wr p.1 with
    | none => rfl
    | some b =>
     have hm:=yU (l:=q.wr) (id:=p.1) (by rw [hl];rfl);have h4:=this.2;simp only [WD,WF,decide_eq_false_iff_not] at h4;exact absurd hm h4
   ·obtain ⟨p,hp,rfl⟩:=zK.1 (yU hid);have:=h3 p hp;simpa using this
  have cz:∀ t∈(tr.getD i default).o.looksAt ops,(sig tr s0 (fun k=>listed.getD k false) ops.size).get t=(sig tr s0 (fun _=>true) i).get t:=by
   intro t ht;rw [ye,ye];obtain ⟨m,hm⟩:∃ m,ops.size=i+m:=⟨ops.size - i,by omega⟩
   rw [hm,yA _ _ _ i m]
   ·refine yg _ _ _ _ _ (fun k hk hu=>?_);rcases cI k hk with h|h
    ·exfalso;unfold Vm at hu;split at hu
     ·rename_i hd;exact (e9 h).1 t hd ht
     ·simp at hu
    ·exact h
   ·intro k cR dG hS;rcases Xd cR with e|aK
    ·subst e;rw [h0] at hS;cases hS
    ·unfold Vm;rw [if_neg];intro hd;exact (e9 (bB k aK zc hS)).2.2.1 t hd ht
  have fg:∀ id∈(tr.getD i default).ft,(sig tr s0 (fun k=>listed.getD k false) ops.size).ob id=(sig tr s0 (fun _=>true) i).ob id:=by
   intro id hid;rw [yX,yX];obtain ⟨m,hm⟩:∃ m,ops.size=i+m:=⟨ops.size - i,by omega⟩
   rw [hm,yA _ _ _ i m]
   ·refine yg _ _ _ _ _ (fun k hk hu=>?_);rcases cI k hk with h|h
    ·exact absurd hid ((e9 h).2.2.2.1 id hu).1
    ·exact h
   ·intro k cR dG hS;rcases Xd cR with e|aK
    ·subst e;rw [h0] at hS;cases hS
    ·cases hl:yE (tr.getD k default).wr id with
     | none => rfl
     | some b => exact absurd hid ((e9 (bB k aK zc hS)).2.2.2.2 id (by rw [hl]; rfl))
  have kC:=my.loc cz fg;refine kC.wpOp hF (by rw [eB];exact ho) (fun a' w' aJ eK=>?_);have eQ:∀ k,(listed.setIfInBounds i true).getD k false=(k == i || listed.getD k false):=by
   intro k;by_cases fe:k=i
   ·subst fe;have:k<listed.size:=by omega
    simp [this]
   ·have bK:(k == i)=false:=by simpa using fe
    rw [bK,yI];simp [n2 (fun e=>fe e.symm)]
  have fV:(fun k=>(listed.setIfInBounds i true).getD k false)=(fun k=>k == i || listed.getD k false):=funext eQ;refine ih _ a' w' aJ (by simp [aA]) (fun k hk hS e he hb=>?_) ?_ ?_
  ·rw [eQ] at hS ⊢;exact cb k hk hS e he hb
  ·rw [fV];have:=WO (S:=fun k=>listed.getD k false) h0 ops.size cW;omega
  ·rw [fV];refine eK.ext (fun t=>?_) (fun id=>?_)
   ·rw [Zd,ye,ye];refine Ys _ _ _ i h0 ops.size cW (fun k cR dG hS hu=>?_);cases gx:Vm (tr.getD i default) t with
    | none => rfl
    | some v=>
     exfalso;unfold Vm at hu gx;split at gx
     ·rename_i jJ;split at hu
      ·rename_i ie;exact (e9 (bB k cR dG hS)).2.1 t jJ ie
      ·simp at hu
     ·cases gx
   ·rw [Ym,yX,yX];refine Ys _ _ _ i h0 ops.size cW (fun k cR dG hS hu=>?_);cases gx:yE (tr.getD i default).wr id with
    | none => rfl
    | some v =>
     exfalso;have:=((e9 (bB k cR dG hS)).2.2.2.1 id (by rw [gx];rfl)).2;rw [this] at hu;cases hu
theorem VU {s0 s' : ab} {tr:List Rec} (hx:fu c ops s0 ops.toList tr s') (dC:Za ops tr=true) (hQ:∀ a w β,FR c.N w0 J s' a w β→Q .normal a w) (hF:FR c.N w0 J s0 a w β) :
  wpAny c.P .any ops Q ops.size (Array.replicate ops.size false) a { w with drawn:=w.drawn+1 }:=by
 refine qs hx dC hQ ops.size _ a _ β zd (fun i hi hS=>?_) ?_ ?_
 ·have:(Array.replicate ops.size false).getD i false=false:=by simp [hi]
  rw [this] at hS;cases hS
 ·have key:∀ n,Uw (fun k=>(Array.replicate ops.size false).getD k false) n≤n:=by
   intro n
   induction n with
   | zero => exact zi _
   | succ n ih => unfold Uw; split <;> omega
  exact key _
 ·have hD:FR c.N w0 J s0 a { w with drawn:=w.drawn+1 } β:=hF.grow ⟨rfl,rfl,rfl,zi _,fun _ _=>rfl⟩;refine hD.ext (fun t=>?_) (fun id=>?_)
  ·have key:=yA (fun k=>Vm (tr.getD k default) t) (fun k=>(Array.replicate ops.size false).getD k false) (s0.get t) 0 ops.size (fun k _ hk hS=>by
    have:(Array.replicate ops.size false).getD k false=false:=by
     rw [ZC];cases h:(Array.replicate ops.size false)[k]? with
     | none => rfl
     | some b => rw [Us] at h; split at h <;> simp_all
    rw [this] at hS;cases hS)
   rw [zY] at key;rw [ye,key];rfl
  ·have key:=yA (fun k=>yE (tr.getD k default).wr id) (fun k=>(Array.replicate ops.size false).getD k false) (s0.ob id) 0 ops.size (fun k _ hk hS=>by
    have:(Array.replicate ops.size false).getD k false=false:=by
     rw [ZC];cases h:(Array.replicate ops.size false)[k]? with
     | none => rfl
     | some b => rw [Us] at h; split at h <;> simp_all
    rw [this] at hS;cases hS)
   rw [zY] at key;rw [yX,key];rfl
end
def UR (K:Act→World→Prop):Exit→Act→World→Prop
 | .normal, a, w => K a w
 | _, _, _ => False
def gK (P:Program):Code→(Exit→Act→World→Prop)→Act→World→Prop
 | .skip, Q, a, w => Q .normal a w
 | .label _, Q, a, w => Q .normal a w
 | .exit id, Q, a, w => Q (.exit id) a w
 | .ret, Q, a, w => Q .ret a w
 | .seq x y, Q, a, w => gK P x (Exit.then (gK P y Q) Q) a w
 | .block id x, Q, a, w => gK P x (Exit.inBlock id Q) a w
 | .cond c x y, Q, a, w => ∃ t, a.eval c=.bool t ∧ (t=true → gK P x Q a w) ∧ (t=false → gK P y Q a w)
 | .loop x, Q, a, w => ∃ (I:Nat → Act → World → Prop) (n:Nat), I n a w ∧ ∀ n a w, I n a w → gK P x (Exit.then (fun a w => ∃ m, m<n ∧ I m a w) Q) a w
 | .region _ ops false, Q, a, w => wpList P ops (UR (Q .normal)) ops.toList a w
 | .region _ ops true, Q, a, w => wpAny P .any ops (UR (Q .normal)) ops.size (Array.replicate ops.size false) a { w with drawn := w.drawn+1 }
 | _, _, _, _ => False
section
variable {P:Program}
theorem XJ (K:Act→World→Prop):¬ LetsOut (UR K):=fun ⟨_,_,h⟩=>h
theorem XL {o:Oper} {K' G G' : Act→World→Prop} (h:∀ a w,K a w→K' a w) (hg:∀ a w,G a w→G' a w) (hh:o.wp P a w K (UR G)):o.wp P a w K' (UR G'):=by
 unfold Oper.wp at *;generalize (execOp a.eval o).run P w=r at *;cases r with
 | ok n w'=>
  cases n <;> simp only [Oper.upon] at hh ⊢ <;>
   first
    | exact h _ _ hh
    | exact Calls.mono hh (fun e s9 he => by cases e <;> first|exact h _ _ he|exact he.elim|(obtain ⟨_, _, q⟩ := he; exact q.elim))
    | exact Rows.mono hh (fun _ _ he => h _ _ he)
 | halt x w' => cases x <;> simp only [Oper.upon] at hh ⊢ <;> exact hh.elim
theorem Ze {ops:Array Oper} {K K' : Act→World→Prop} (h:∀ a w,K a w→K' a w):∀ {l:List Oper} {a:Act} {w:World},wpList P ops (UR K) l a w→wpList P ops (UR K') l a w
 | [], a, w, hh => h a w hh
 | o::l,a,w,hh=>by
  unfold wpList at hh ⊢;split
  ·rename_i hw;rw [if_pos hw] at hh;rcases hh with hh|hh
   ·exact .inl (XL (fun a w q=>Ze h q) h hh)
   ·exact absurd hh.2 (XJ _)
  ·rename_i hw;rw [if_neg hw] at hh;exact Ze h hh
theorem qG {K' G G' : Act→World→Prop} (h:∀ a w,K a w→K' a w) (hg:∀ a w,G a w→G' a w) (hh:wpOp P ops (UR G) i K a w):wpOp P ops (UR G') i K' a w:=by
 unfold wpOp at *;split
 ·rename_i ho;rw [ho] at hh;exact h _ _ hh
 ·rename_i o ho;rw [ho] at hh;dsimp only at hh;split
  ·rename_i hw;rw [if_pos hw] at hh;rcases hh with hh|hh
   ·exact .inl (XL h hg hh)
   ·exact absurd hh.2 (XJ _)
  ·rename_i hw;rw [if_neg hw] at hh;exact h _ _ hh
theorem XW {ops:Array Oper} {K K' : Act→World→Prop} (h:∀ a w,K a w→K' a w):∀ {fuel:Nat} {listed:Array Bool} {a:Act} {w:World},wpAny P .any ops (UR K) fuel listed a w→wpAny P .any ops (UR K') fuel listed a w
 | 0, _, a, w, hh => ⟨hh.1, h a w hh.2⟩
 | fuel+1, listed, a, w, hh => ⟨fun e => h a w (hh.1 e), fun i hi => qG (fun a w q => XW h q) h (hh.2 i hi)⟩
theorem yN:∀ {c:Code} {Q Q' : Exit→Act→World→Prop} {a:Act} {w:World},gK P c Q a w→(∀ e a w,Q e a w→Q' e a w)→gK P c Q' a w
 | .skip, _, _, _, _, h, hq => hq _ _ _ h
 | .label _, _, _, _, _, h, hq => hq _ _ _ h
 | .exit _, _, _, _, _, h, hq => hq _ _ _ h
 | .ret, _, _, _, _, h, hq => hq _ _ _ h
 | .seq x y,Q,Q',a,w,h,hq=>yN (c:=x) h fun e a w q=>by
   cases e <;> first|exact yN (c:=y) q hq|exact hq _ _ _ q
 | .block id x,Q,Q',a,w,h,hq=>yN (c:=x) h fun e a w q=>by
   cases e with
   | exit aQ =>
    simp only [Exit.inBlock] at q ⊢;split
    ·rename_i e;rw [if_pos e] at q;exact hq _ _ _ q
    ·rename_i e;rw [if_neg e] at q;exact hq _ _ _ q
   | _ => exact hq _ _ _ q
 | .cond c x y, Q, Q', a, w, ⟨t, h, h1, h2⟩, hq => ⟨t, h, fun e => yN (c := x) (h1 e) hq, fun e => yN (c := y) (h2 e) hq⟩
 | .loop x,Q,Q',a,w,⟨I,n,h0,h⟩,hq=>⟨I,n,h0,fun n a w hi=>yN (c:=x) (h n a w hi) fun e a w q=>by
   cases e <;> first|exact q|exact hq _ _ _ q⟩
 | .region _ ops false, _, _, _, _, h, hq => Ze (fun a w q => hq _ _ _ q) h
 | .region _ ops true, _, _, _, _, h, hq => XW (fun a w q => hq _ _ _ q) h
theorem Xs (hm:P.follows .mixedOrders=true):∀ {c:Code} {Q:Exit→Act→World→Prop} {a:Act} {w:World},gK P c Q a w→c.wp P Q a w
 | .skip, _, _, _, h => wp_skip h
 | .label _, _, _, _, h => wp_label h
 | .exit _, _, _, _, h => wp_exit h
 | .ret, _, _, _, h => wp_ret h
 | .seq x y, Q, a, w, h => wp_seq (Xs hm (yN (c := x) h fun e a w q => by cases e <;> first|exact Xs hm (c := y) q|exact q))
 | .block id x, Q, a, w, h => wp_block (Xs hm (c := x) h)
 | .cond c x y, Q, a, w, ⟨t, h, h1, h2⟩ => by
  cases t with
  | true => exact wp_cond_true h (Xs hm (c := x) (h1 rfl))
  | false => exact wp_cond_false h (Xs hm (c := y) (h2 rfl))
 | .loop x, Q, a, w, ⟨I, n, h0, h⟩ => wp_loop_ghost I n h0 fun n a w hi => Xs hm (c := x) (h n a w hi)
 | .region _ ops false, Q, _, _, h => wp_mono (wp_region_list h) fun e a w q => by cases e <;> first|exact q|exact q.elim
 | .region _ ops true, Q, _, _, h => wp_mono (wp_region_any hm h) fun e a w q => by cases e <;> first|exact q|exact q.elim
/-! in a round -/
section
variable {l n:Nat}
end
/-! the slots that the code does not write -/
end
end
end Go.Proofs.YtedkppfghdipdaaDoor
