/-
  Lemmas, in parts.
-/
import Derived.Test.YtedkppfghdipdaaGreatDoorZA
import Derived.ArgAppend
import Derived.Laws.CopyRow
import Derived.Laws.IdiomCopy
import Derived.Laws.StructEq
import Derived.Orders
import Derived.Deep.LoopGhost
import Derived.RangeFuncRecord
import Derived.OrdersIn
import Derived.TacticsIn
import Derived.RangeFuncCalls
namespace Go.Proofs.YtedkppfghdipdaaGreatDoor
set_option linter.unusedVariables false
set_option maxHeartbeats 16000000
variable {w:World} {I:Nat→Prop} {N T clock d i j aa:Nat} {k ty:TypeId} {b bb found:Bool} {aq:Array MapEntry} {x y:Operand} {α:Type} {xs:Array Operand} {c:Ctx} {J:JJ} {a:Act} {β:Nat→Option Nat} {dst:Option Nat} {pos:String} {after:Array Edge} {g:Option (Nat×Bool)} {K:Act→World→Prop} {op:Op} {Q:Exit→Act→World→Prop} {lo:Option Operand} {ops:Array Oper}
section
open Go.RowKit Go.Maps Go.MapKept Go.ChangeMaps
theorem Rd.bR {v:Value} {f:FV} (h:Rd w I v f) (hf:f.simple=true):v=f.val:=by
 have one:∀ {u:Value} {g:FV},Rd w I u g→g.aB=true→u=g.bW:=by
  intro u g hu hg;cases hu <;> first|rfl|(simp [FV.aB] at hg)
 cases h with
 | agg us fs hl hr=>
  show Value.agg us.toArray=Value.agg (fs.map FV.bW).toArray;congr 2;refine List.ext_getElem? fun j=>?_;rw [yW];rcases xa j us.length with hj|hj
  ·have eU:j<fs.length:=by rw [← hl];exact hj
   have e1:us[j]? = some us[j]:=by simp [hj]
   have e2:fs[j]? = some fs[j]:=by simp [eU]
   rw [e1,e2,xe];congr 1;exact one (hr j _ _ e1 e2) (zG.1 hf _ (yt eU))
  ·have eU:fs.length≤j:=by rw [← hl];exact hj
   simp [hj,eU]
 | int k n => rfl
 | bool b => rfl
 | str s => rfl
 | _ => simp [FV.simple, FV.aB] at hf
theorem XL {f g:FV} (hf:f.aB=true) (hg:g.aB=true) (h:f.bW=g.bW):f=g:=by
 cases f <;> simp [FV.aB] at hf <;> cases g <;> simp [FV.aB] at hg <;> simp [FV.bW] at h <;> first|(obtain ⟨rfl,rfl⟩:=h;rfl)|(subst h;rfl)
theorem Xc:∀ {fs gs:List FV},fs.all FV.aB=true→gs.all FV.aB=true→fs.map FV.bW=gs.map FV.bW→fs=gs
 | [], [], _, _, _ => rfl
 | [], _ :: _, _, _, h => by simp at h
 | _ :: _, [], _, _, h => by simp at h
 | f :: fs, g :: gs, hf, hg, h => by
  simp only [Zg,zC] at hf hg;simp only [yf,List.cons.injEq] at h;rw [XL hf.1 hg.1 h.1,Xc hf.2 hg.2 h.2]
theorem ve {f g:FV} (hf:f.simple=true) (hg:g.simple=true) (h:f.val=g.val):f=g:=by
 cases f with
 | agg cs=>
  cases g with
  | agg ds =>
   have:(cs.map FV.bW).toArray=(ds.map FV.bW).toArray:=by simpa [FV.val] using h
   rw [Xc hf hg (by simpa using congrArg Array.toList this)]
  | _ => first|(simp [FV.simple, FV.aB] at hg; done)|(simp [FV.val, FV.bW] at h)
 | int k n =>
  cases g <;> first|(simp [FV.simple,FV.aB] at hg;done)|(simp [FV.val,FV.bW] at h;done)|exact XL hf hg h
 | bool b =>
  cases g <;> first|(simp [FV.simple,FV.aB] at hg;done)|(simp [FV.val,FV.bW] at h;done)|exact XL hf hg h
 | str b =>
  cases g <;> first|(simp [FV.simple,FV.aB] at hg;done)|(simp [FV.val,FV.bW] at h;done)|exact XL hf hg h
 | _ => simp [FV.simple, FV.aB] at hf
def ZV (P:Program) (k:TypeId) (kf:FV):Prop:=kf.simple=true∧∃ l,keyOf P k kf.val=some l
def TS.iR (ts:TS):FV:=
 match ts.k.aQ with
 | some true => .agg ts.zero
 | _ => ts.zero.headD .undef
def WE (es:List (List FV)) (kf z:FV) (vf:FV) (b:Bool):Prop:=(b=true∧[kf,vf]∈es)∨(b=false∧vf=z∧∀ row∈es,row.head?≠some kf)
def lV (es:List (List FV)) (kf vf:FV) (aS : List (List FV)):Prop:=
 (∃ (j:Nat) (v0:FV),es[j]? = some [kf,v0]∧aS=es.set j [kf,vf])∨((∀ row∈es,row.head?≠some kf)∧aS=es++[[kf,vf]])
structure Mp (w:World) (I:Nat→Prop) (b clock:Nat) (aq:Array MapEntry) (es:List (List FV)):Prop where
 hb:w.heap[b]? = some (.map aq clock)
 st:Stamped aq clock
 sz:aq.size=es.length
 ks:∀ (j:Nat) e row,aq[j]? = some e→es[j]? = some row→∃ kf vf,row=[kf,vf]∧kf.simple=true∧e.key=kf.val
 vs:∀ (j:Nat) e row f,aq[j]? = some e→es[j]? = some row→row[1]? = some f→Rd w I e.val f
section
variable {w:World} {I:Nat→Prop} {b clock:Nat} {aq:Array MapEntry} {es:List (List FV)} {P:Program}
theorem Mp.row (h:Mp w I b clock aq es) {e:MapEntry} (he:aq[j]? = some e):∃ kf vf,es[j]? = some [kf,vf]∧kf.simple=true∧e.key=kf.val∧Rd w I e.val vf:=by
 have hj:j<es.length:=by rw [← h.sz];exact (yQ.1 he).1
 have hr:es[j]? = some es[j]:=by simp [hj]
 obtain ⟨kf,vf,e1,e2,e3⟩:=h.ks j e _ he hr;refine ⟨kf,vf,by rw [hr,e1],e2,e3,h.vs j e _ vf he hr (by rw [e1];rfl)⟩
theorem Mp.oH (h:Mp w I b clock aq es) {row:List FV} (hr:es[j]? = some row):∃ e,aq[j]? = some e:=by
 have hj:j<aq.size:=by rw [h.sz];exact (zK.1 hr).1
 exact ⟨aq[j],by simp [hj]⟩
theorem Mp.keys (h:Mp w I b clock aq es) (hk:∀ row∈es,∀ kf,row.head? = some kf→ZV P k kf):∀ e∈aq.toList,∃ l,keyOf P k e.key=some l:=fun e he=>by
 obtain ⟨j,hj⟩:=Vl he;have iq : aq[j]? = some e:=by simpa using hj
 obtain ⟨kf,vf,e1,_,e3,_⟩:=h.row iq;obtain ⟨_,l,hl⟩:=hk _ (zH e1) kf rfl;exact ⟨l,by rw [e3];exact hl⟩
theorem Mp.find (h:Mp w I b clock aq es) (K:Keyed P k) (hk:∀ row∈es,∀ kf,row.head? = some kf→ZV P k kf) {kf:FV} (bZ:ZV P k kf) :
  ((Instr.findKey k kf.val aq.toList).run P w=.ok none w∧(∀ e∈aq.toList,e.key≠kf.val)∧∀ row∈es,row.head?≠some kf)∨
  ∃ (j:Nat) (e:MapEntry) (vf:FV),(Instr.findKey k kf.val aq.toList).run P w=.ok (some (j,e.val)) w∧aq[j]? = some e∧e.key=kf.val∧es[j]? = some [kf,vf]∧Rd w I e.val vf∧∀ i v,es[i]? = some [kf,v]→i=j:=by
 obtain ⟨hs,l,hl⟩:=bZ;rcases K.find w hl aq.toList (h.keys hk) with ⟨h1,h2⟩|⟨j,e0,h1,h2,h3⟩
 ·refine .inl ⟨h1,h2,fun row hr hh=>?_⟩;obtain ⟨j,hj⟩:=Vl hr;obtain ⟨e,he⟩:=h.oH hj;obtain ⟨mj,vf,e1,_,e3,_⟩:=h.row he;rw [hj] at e1;injection e1 with e1
  subst e1;injection hh with hh
  subst hh;exact h2 e (zH (by simpa using he)) e3
 ·have ko : aq[j]? = some e0:=by simpa using h2
  obtain ⟨mj,vf,e1,e2,e3,e4⟩:=h.row ko;have:mj=kf:=ve e2 hs (by rw [← e3,h3]);subst this;refine .inr ⟨j,e0,vf,h1,ko,h3,e1,e4,fun i v hi=>?_⟩;obtain ⟨e,he⟩:=h.oH hi;obtain ⟨rP,nU,q1,_,q3,_⟩:=h.row he;rw [hi] at q1;injection q1 with q1
  injection q1 with q1 _
  subst q1;have hd:=((stamped_iff aq clock).1 h.st).2.2;have iG:i<aq.toList.length:=by have:=(yQ.1 he).1;simpa using this
  have ir:j<aq.toList.length:=by have:=(yQ.1 ko).1;simpa using this
  have ei:aq.toList[i].key=mj.val:=by have:=(yQ.1 he).2;simp only [Array.getElem_toList];rw [this,q3]
  have ej:aq.toList[j].key=mj.val:=by have:=(yQ.1 ko).2;simp only [Array.getElem_toList];rw [this,h3]
  rcases Nat.lt_trichotomy i j with aM|heq|m5
  ·exact absurd (ei.trans ej.symm) (Xw.1 hd i j iG ir aM)
  ·exact heq
  ·exact absurd (ej.trans ei.symm) (Xw.1 hd j i ir iG m5)
end
section
variable {c:Ctx} {w0 w:World} {J:JJ} {s:ab} {a:Act} {β:Nat→Option Nat} {dst:Option Nat} {ty:TypeId} {pos:String} {after:Array Edge} {g:Option (Nat×Bool)}
theorem ui {c:Ctx} (hk:(c.ty T).k.aQ = some bb) (w:World) (I:Nat→Prop):∃ z,(zeroValue T).run c.P w=.ok z w∧Rd w I z (c.ty T).iR:=by
 obtain ⟨d,i,z,h⟩:=c.get rfl (qa hk);refine ⟨z,by simp [zeroValue,typeInfo,h.info,h.zo],?_⟩;have hz:=az.zeros (w:=w) (I:=I) h.zr;have kE:=h.zk;unfold oc at kE;unfold TS.iR;rw [hk] at kE ⊢;cases bb with
 | true =>
  dsimp only at kE ⊢;cases z <;> simp at kE
  rename_i cs;have:=Rd.agg (w:=w) (I:=I) cs.toList (c.ty T).zero hz.1 hz.2;simpa using this
 | false=>
  dsimp only at kE ⊢;have hc:z.cells.toList=[z]:=by
   cases z <;> first|rfl|(simp at kE)
  rw [hc] at hz;cases po:(c.ty T).zero with
  | nil => rw [po] at hz; have := hz.1; simp at this
  | cons f fs => rw [po] at hz; exact hz.2 0 z f rfl rfl
theorem US {k e:Nat} (hT:(c.ty T).k=.map k e) (he:(c.ty e).k.aQ = some bb) (K:Keyed c.P k) {b:Nat} {es:List (List FV)} (h:Mp w I b clock aq es)
  (hk:∀ row∈es,∀ kf,row.head? = some kf→ZV c.P k kf) {kf:FV} (bZ:ZV c.P k kf) (ok:Bool) {vf:FV} (hl:WE es kf (c.ty e).iR vf found) :
  ∃ v,(Instr.lookup T (.map (some b)) kf.val ok).run c.P w=.ok v w∧Rd w I v (if ok then .bG [vf,.bool found] else vf):=by
 obtain ⟨d,ii,z,ht⟩:=c.get hT zd;have hd:=ht.k;rw [hT] at hd;obtain rfl:=VG hd;obtain ⟨l,iv⟩:=bZ.2;obtain ⟨zv,hz,kF⟩:=ui he w I;rcases h.find K hk bZ with ⟨h1,_,h2⟩|⟨j,e0,nU,h1,h2,h3,h4,h5,h6⟩
 ·have hv:vf=(c.ty e).iR∧found=false:=by
   rcases hl with ⟨_,hm⟩|⟨hb,hv,_⟩
   ·exact absurd rfl (h2 _ hm)
   ·exact ⟨hv,hb⟩
  obtain ⟨rfl,rfl⟩:=hv;cases ok
  ·exact ⟨zv,by simp [Instr.lookup,run_underlying ht.u,yY h.hb,K.check w _ iv,h1,hz,Result.andThen],kF⟩
  ·refine ⟨.tuple #[zv,.bool false],by simp [Instr.lookup,run_underlying ht.u,yY h.hb,K.check w _ iv,h1,hz,Result.andThen],?_⟩;have:=az.cons kF (az.cons (Rd.bool (w:=w) (I:=I) false) az.nil);exact .bG [zv,.bool false] _ this.1 this.2
 ·have hv:vf=nU∧found=true:=by
   rcases hl with ⟨hb,hm⟩|⟨_,_,hm⟩
   ·obtain ⟨i,hi⟩:=Vl hm;have:=h6 i vf hi;subst this;rw [h4] at hi;simp at hi;exact ⟨hi.symm,hb⟩
   ·exact absurd rfl (hm _ (zH h4))
  obtain ⟨rfl,rfl⟩:=hv;cases ok
  ·exact ⟨e0.val,by simp [Instr.lookup,run_underlying ht.u,yY h.hb,K.check w _ iv,h1,Result.andThen],h5⟩
  ·refine ⟨.tuple #[e0.val,.bool true],by simp [Instr.lookup,run_underlying ht.u,yY h.hb,K.check w _ iv,h1,Result.andThen],?_⟩;have:=az.cons h5 (az.cons (Rd.bool (w:=w) (I:=I) true) az.nil);exact .bG [e0.val,.bool true] _ this.1 this.2
theorem FR.mp (h:FR c.N w0 J s a w β) {id:Nat} (ex:s.ev x=.omap id aa) (hl:s.live id aa) (hm:(s.ob id).ag≠.bB):∃ b clock aq,a.eval x=.map (some b)∧β id=some b∧Mp w (aK J w β s) b clock aq (s.ob id).es:=by
 obtain ⟨aw,b,hb,hv⟩:=h.er ex hl.1 hl.2;obtain ⟨b',clock,aq,h1,h2,h3,h4,h5,h6,h7⟩:=((h.obj id hl.1).fY aw hm).ex;rw [hb] at h1;injection h1 with h1
 subst h1;exact ⟨b,clock,aq,hv,hb,h3,h4,h5,h6,h7⟩
theorem FR.rY (h:FR c.N w0 J s a w β) {es:List (List FV)} (ex:s.ev x=.smap es):∃ b clock aq,a.eval x=.map (some b)∧Mp w (aK J w β s) b clock aq es:=by
 have hr:=h.aV ex rfl;generalize a.eval x=v at hr;cases hr with
 | smap b clock aq es hI hb bF hl hk hr => exact ⟨b, clock, aq, rfl, hb, bF, hl, hk, hr⟩
theorem uF (h:FR c.N w0 J s a w β) {k e:Nat} (hT:(c.ty T).k=.map k e) (he:(c.ty e).k.aQ = some bb) (K:Keyed c.P k) (x y:Operand) (ok:Bool) {es:List (List FV)}
  (ex:(∃ id aa,s.ev x=.omap id aa∧(s.live id aa∧(s.ob id).ag≠.bB)∧(s.ob id).es=es)∨s.ev x=.smap es) {kf:FV} (ey:s.ev y=kf) (hk:∀ row∈es,∀ kf,row.head? = some kf→ZV c.P k kf) (bZ:ZV c.P k kf)
  {vf:FV} (hl:WE es kf (c.ty e).iR vf found) (hn:vf.hand=none) :
  yy c w0 J s a ⟨dst,.lookup T x y ok,ty,pos,after,g⟩ w (if ok then .bG [vf,.bool found] else vf) []:=by
 obtain ⟨b,clock,aq,hx,hm⟩:∃ b clock aq,a.eval x=.map (some b)∧Mp w (aK J w β s) b clock aq es:=by
  rcases ex with ⟨id,aa,e1,e2,rfl⟩|e1
  ·obtain ⟨b,clock,aq,h1,_,h2⟩:=h.mp e1 e2.1 e2.2;exact ⟨b,clock,aq,h1,h2⟩
  ·exact h.rY e1
 have hy:a.eval y=kf.val:=(h.aV ey (by have:=bZ.1;cases kf <;> first|rfl|(simp [FV.simple,FV.aB] at this))).bR bZ.1;obtain ⟨v,h1,h2⟩:=US (w:=w) hT he K hm hk bZ ok hl;refine .rd h (v:=v) (by simp [execOp,hx,hy,h1]) h2 ?_;cases ok
 ·exact hn
 ·rfl
theorem FR.j7 (h:FR c.N w0 J s a w β) (d T:Nat):FR c.N w0 J (s.set d ⟨(s.ob d).aa+1,.aX,T,0,[]⟩) a (w.alloc (.map #[] 0)) (YY β d (some w.heap.size)):=by
 have hb:=sv w (.map #[] 0);have hI:∀ b,aK J w β s b→aK J (w.alloc (.map #[] 0)) (YY β d (some w.heap.size)) (s.set d ⟨(s.ob d).aa+1,.aX,T,0,[]⟩) b∧(w.alloc (.map #[] 0)).heap[b]? = w.heap[b]?:=fun b aE=>by
  refine ⟨⟨xO aE.1 hb.size,aE.2.1,fun id hl=>?_⟩,hb.block b aE.1⟩;rw [ab.ao] at hl;unfold YY;split at hl
  ·rename_i hh;rw [if_pos hh.symm];intro e;injection e with e;have:=aE.1;omega
  ·rename_i hh;rw [if_neg (fun e=>hh e.symm)];exact aE.2.2 id hl
 refine h.step (C:=fun id=>id=d) h.size h.defers (h.bN.trans (hb.mono h.bN.size)) hI (fun k=>.inl ⟨rfl,rfl⟩) (fun id hC=>?_) (fun id hC=>?_) (fun id hC hl dV=>?_) (fun id hC hl _=>?_) ?_ ?_
 ·refine ⟨by rw [ab.ao,if_neg (fun e=>hC e.symm)],by unfold YY;rw [if_neg hC],fun hl b aE=>hb.block b ((h.obj id hl).lt aE).2⟩
 ·subst hC;rw [ab.ao,if_pos rfl];exact Nat.le_succ _
 ·subst hC;rw [ab.ao,if_pos rfl] at dV;simp at dV
 ·subst hC;rw [ab.ao,if_pos rfl,yP];exact .ofMap ⟨w.heap.size,0,#[],rfl,h.bN.size,heap_alloc_new w _,stamped_empty _,rfl,by simp,by simp⟩ rfl (fun e=>by cases e)
 ·intro id aN b hl bf e e';rw [ab.ao] at hl bf;unfold YY at e e';by_cases h1:id=d
  ·by_cases h2:aN=d
   ·rw [h1,h2]
   ·rw [if_pos h1] at e;rw [if_neg h2] at e';rw [if_neg (fun e=>h2 e.symm)] at bf;injection e with e;have:=((h.obj aN bf).lt e').2;omega
  ·by_cases h2:aN=d
   ·rw [if_neg h1] at e;rw [if_pos h2] at e';rw [if_neg (fun e=>h1 e.symm)] at hl;injection e' with e';have:=((h.obj id hl).lt e).2;omega
   ·rw [if_neg h1] at e;rw [if_neg h2] at e';rw [if_neg (fun e=>h1 e.symm)] at hl;rw [if_neg (fun e=>h2 e.symm)] at bf;exact h.inj id aN b hl bf e e'
 ·intro b aM hn;refine ⟨hb.block b aM,fun id hl e=>?_⟩;rw [ab.ao] at hl;unfold YY at e;by_cases h1:id=d
  ·rw [if_pos h1] at e;injection e with e;omega
  ·rw [if_neg h1] at e;rw [if_neg (fun e=>h1 e.symm)] at hl;exact hn id hl e
theorem Xa (h:FR c.N w0 J s a w β) (d T:Nat):yy c w0 J s a ⟨some d,.makeMap T none,ty,pos,after,g⟩ w (.omap d ((s.ob d).aa+1)) [(d,⟨(s.ob d).aa+1,.aX,T,0,[]⟩)]:=by
 have bE:(s.wr [(d,(⟨(s.ob d).aa+1,.aX,T,0,[]⟩:yb))]).ob d=⟨(s.ob d).aa+1,.aX,T,0,[]⟩:=(ab.ao s d _ d).trans (if_pos rfl);refine ⟨.map (some w.heap.size),w.alloc (.map #[] 0),YY β d (some w.heap.size),?_,h.j7 d T,fun _ _=>⟨by rw [bE];rfl,w.heap.size,yP _ _ _,rfl⟩,fun id aa e=>?_⟩
 ·have:=run_makeMap (P:=c.P) T w;simp [execOp,this]
 ·simp only [FV.hands,yg,yi] at e;obtain ⟨e1,e2⟩:=e;replace e1:=e1.symm;replace e2:=e2.symm;subst e1;subst e2;rw [bE];exact zm _
theorem FR.ba (h:FR c.N w0 J s a w β) {id b c7 : Nat} {cO : Array MapEntry} {aS : List (List FV)} (hl:(s.ob id).ag=.aX) (hb:β id=some b) (l7:w.heap[b]? = some (.map aq clock)) (st:Stamped cO c7) (sz:cO.size=aS.length)
  (ks:∀ (j:Nat) e row,cO[j]? = some e→aS[j]? = some row→∃ kf vf,row=[kf,vf]∧kf.simple=true∧e.key=kf.val)
  (vs:∀ (j:Nat) e row f,cO[j]? = some e→aS[j]? = some row→row[1]? = some f→Rd w (aK J w β s) e.val f) :
  FR c.N w0 J (s.set id { s.ob id with es:=aS }) a (setBlock w b (.map cO c7)) β:=by
 have ai:(s.ob id).ag≠.dead:=by rw [hl];decide
 have aM:=(h.obj id ai).lt hb;have hg:w.grownBy (setBlock w b (.map cO c7)) (some b):=⟨rfl,rfl,rfl,by simp [setBlock],fun i _ hi=>heap_setBlock_other l7 _ (fun e=>hi (by rw [e]))⟩
 have hI:∀ b',aK J w β s b'→aK J (setBlock w b (.map cO c7)) β (s.set id { s.ob id with es:=aS }) b'∧(setBlock w b (.map cO c7)).heap[b']? = w.heap[b']?:=fun b' aE=>by
  refine ⟨⟨xO aE.1 hg.size,aE.2.1,fun aN bf=>?_⟩,hg.block b' aE.1 (fun e=>aE.2.2 id (by rw [hl];rfl) (by rw [hb];exact e.symm))⟩;rw [ab.ao] at bf;split at bf
  ·rename_i e;subst e;exact aE.2.2 id (by rw [hl];rfl)
  ·exact aE.2.2 aN bf
 refine h.step (C:=fun k=>k=id) h.size h.defers (h.bN.grown hg h.bN.size (fun k hk=>by injection hk with hk;subst hk;exact aM.1)) hI (fun k=>.inl ⟨rfl,rfl⟩) (fun k hC=>?_) (fun k hC=>?_) (fun k hC bc dV=>?_) (fun k hC bc _=>?_) ?_ (fun b' gV hn=>⟨hg.block b' gV (fun e=>hn id ai (by rw [hb];exact e.symm)),fun k bc=>hn k (by rw [ab.ao] at bc;split at bc;(· rename_i e;subst e;exact ai);(· exact bc))⟩)
 ·refine ⟨by rw [ab.ao,if_neg (fun e=>hC e.symm)],rfl,fun bc b' aE=>hg.block b' ((h.obj k bc).lt aE).2 (fun e=>hC (h.inj k id b' bc ai aE (by rw [hb];exact e.symm)))⟩
 ·subst hC;rw [ab.ao,if_pos rfl];exact zm _
 ·subst hC;refine ⟨ai,rfl,by rw [ab.ao,if_pos rfl],by rw [ab.ao,if_pos rfl],fun v o n hv=>?_⟩;have:=hv.row;rw [hl] at this;cases this
 ·subst hC;rw [ab.ao,if_pos rfl];exact .ofMap ⟨b,c7,cO,hb,aM.1,heap_setBlock_same l7 _,st,sz,ks,fun j e row f h1 h2 h3=>(vs j e row f h1 h2 h3).mono hI⟩ (by show (s.ob k).ag.bz=false;rw [hl];rfl) (by show (s.ob k).ag≠.bB;rw [hl];decide)
 ·intro k k' b' bc cu e e';refine h.inj k k' b' ?_ ?_ e e'
  ·rw [ab.ao] at bc;split at bc
   ·rename_i e;subst e;exact ai
   ·exact bc
  ·rw [ab.ao] at cu;split at cu
   ·rename_i e;subst e;exact ai
   ·exact cu
theorem Wf (h:FR c.N w0 J s a w β) {k e:Nat} (hT:(c.ty T).k=.map k e) (K:Keyed c.P k) (x y z:Operand) {id:Nat} (ex:s.ev x=.omap id aa) (aW:(s.ob id).ag=.aX) (aA:(s.ob id).aa=aa)
  {kf vf:FV} (ey:s.ev y=kf) (ez:s.ev z=vf) (hk:∀ row∈(s.ob id).es,∀ kf,row.head? = some kf→ZV c.P k kf) (bZ:ZV c.P k kf) (hn:vf.hand=none) {aS : List (List FV)} (hs:lV (s.ob id).es kf vf aS) :
  ∃ w',(execOp a.eval ⟨dst,.mapUpdate T x y z,ty,pos,after,g⟩).run c.P w=.ok .skip w'∧FR c.N w0 J (s.wr [(id,{ s.ob id with es:=aS })]) a w' β:=by
 have ai:s.live id aa:=⟨by rw [aW];decide,aA⟩
 obtain ⟨d,ii,zz,ht⟩:=c.get hT zd;have hd:=ht.k;rw [hT] at hd;obtain rfl:=VG hd;obtain ⟨l,iv⟩:=bZ.2;obtain ⟨b,clock,aq,hx,hb,hm⟩:=h.mp ex ai (by rw [aW];decide);have hy:a.eval y=kf.val:=(h.aV ey (by have:=bZ.1;cases kf <;> first|rfl|(simp [FV.simple,FV.aB] at this))).bR bZ.1;have kF:=h.aV ez hn;generalize pn:a.eval z=u at kF;generalize kv:(s.ob id).es=es at hm hk hs;rcases hm.find K hk bZ with ⟨h1,h2,h3⟩|⟨j,e0,nU,h1,h2,h3,h4,h5,h6⟩
 ·have fT : aS=es++[[kf,vf]]:=by
   rcases hs with ⟨j,v0,hj,_⟩|⟨_,he⟩
   ·exact absurd rfl (h3 _ (zH hj))
   ·exact he
  subst fT;refine ⟨setBlock w b (.map (aq.push ⟨kf.val,u,clock⟩) (clock+1)),?_,?_⟩
  ·have:(Instr.mapUpdate T (.map (some b)) kf.val u).run c.P w=.ok () (setBlock w b (.map (aq.push ⟨kf.val,u,clock⟩) (clock+1))):=by
    simp [Instr.mapUpdate,run_underlying ht.u,yY hm.hb,K.check w false iv,h1,Xy _ hm.hb,Result.andThen,setBlock]
   simp [execOp,hx,hy,pn,this]
  ·have dD:∀ (j:Nat) e row,(aq.push ⟨kf.val,u,clock⟩)[j]? = some e→(es++[[kf,vf]])[j]? = some row→(aq[j]? = some e∧es[j]? = some row)∨(e=⟨kf.val,u,clock⟩∧row=[kf,vf]):=by
    intro j e row he hr;rcases Nat.lt_trichotomy j aq.size with hj|hj|hj
    ·left;rw [nY,if_neg zc] at he;rw [xo (by rw [← hm.sz];exact hj)] at hr;exact ⟨he,hr⟩
    ·right;subst hj;rw [nY,if_pos rfl] at he;rw [hm.sz,xL (zm _),Nat.sub_self] at hr;injection he with he
     injection hr with hr
     exact ⟨he.symm,hr.symm⟩
    ·rw [nY,if_neg zc] at he;rw [Array.getElem?_eq_none zc] at he;cases he
   refine h.ba aW hb hm.hb (stamped_push hm.st h2) (by simp [hm.sz]) (fun j e row he hr=>?_) (fun j e row f he hr hf=>?_)
   ·rcases dD j e row he hr with ⟨q1,q2⟩|⟨rfl,rfl⟩
    ·exact hm.ks j e row q1 q2
    ·exact ⟨kf,vf,rfl,bZ.1,rfl⟩
   ·rcases dD j e row he hr with ⟨q1,q2⟩|⟨rfl,rfl⟩
    ·exact hm.vs j e row f q1 q2 hf
    ·simp at hf;subst hf;exact kF
 ·have fT : aS=es.set j [kf,vf]:=by
   rcases hs with ⟨i,v0,hi,he⟩|⟨cU,_⟩
   ·rw [h6 i v0 hi] at he;exact he
   ·exact absurd rfl (cU _ (zH h4))
  subst fT;have gS:∀ e',aq[j]? = some e'→({ e' with key:=kf.val,val:=u }:MapEntry).key=e'.key:=fun e' fT=>by rw [h2] at fT;cases fT;exact h3.symm
  refine ⟨setBlock w b (.map (aq.modify j (fun e'=>{ e' with key:=kf.val,val:=u })) clock),?_,?_⟩
  ·have:(Instr.mapUpdate T (.map (some b)) kf.val u).run c.P w=.ok () (setBlock w b (.map (aq.modify j (fun e'=>{ e' with key:=kf.val,val:=u })) clock)):=by
    simp [Instr.mapUpdate,run_underlying ht.u,yY hm.hb,K.check w false iv,h1,h2,h3,K.stays w iv,Xy _ hm.hb,Result.andThen,setBlock]
   simp [execOp,hx,hy,pn,this]
  ·have dD:∀ (i:Nat) e row,(aq.modify j (fun e'=>{ e' with key:=kf.val,val:=u }))[i]? = some e→(es.set j [kf,vf])[i]? = some row→(aq[i]? = some e∧es[i]? = some row)∨(e.key=kf.val∧e.val=u∧row=[kf,vf]):=by
    intro i e row he hr;rw [UZ] at he;rw [Xr] at hr;by_cases im:j=i
    ·subst im;right;rw [if_pos rfl,h2] at he;rw [if_pos rfl,if_pos (zK.1 h4).1] at hr;simp only [xe,zI] at he hr;subst he;exact ⟨rfl,rfl,hr.symm⟩
    ·left;rw [if_neg im] at he hr;exact ⟨he,hr⟩
   refine h.ba aW hb hm.hb (stamped_modify hm.st _ _ (fun _ _=>rfl) (fun e' _ fT=>gS e' fT)) (by simp [hm.sz]) (fun i e row he hr=>?_) (fun i e row f he hr hf=>?_)
   ·rcases dD i e row he hr with ⟨q1,q2⟩|⟨q1,q2,rfl⟩
    ·exact hm.ks i e row q1 q2
    ·exact ⟨kf,vf,rfl,bZ.1,q1⟩
   ·rcases dD i e row he hr with ⟨q1,q2⟩|⟨q1,q2,rfl⟩
    ·exact hm.vs i e row f q1 q2 hf
    ·simp at hf;subst hf;rw [q2];exact kF
end
end
section
open Go.RowKit
theorem Vd {X:List α} {p:Nat} (x:α) (h:p<X.length):ah X p [x]=X.set p x:=by
 unfold ah;rw [pE,if_pos h];simp
theorem uJ {w' : World} (h:w.grownBy w' none) (r:Option Nat):w.grownBy w' r:={ h with block:=fun k hk _=>h.block k hk zd }
theorem Yn (P:Program) (w:World) (t ty e:TypeId) (i:TypeInfo) (ht:P.underlying t=some (.slice e)) (hi:P.info? e=some i) (g off gb kd:Nat) (cur:Array Value) (hg:w.heap[g]? = some (.cells cur e (0,0)))
  (a:Addr) (m c:Nat) (news:List Value) (hl:news.length=m * i.size) (lx:∀ (j:Nat) u,news[j]? = some u→w.cell? (a.add j)=some u) (h1:∀ u∈news,u.oneCell'=true) (cW:gb+m≤kd) (eu:off+gb * i.size+news.length≤cur.size) :
  (Builtin.append_ #[t,t] ty #[.slice (some ⟨g,off,none⟩) gb kd,.slice (some a) m c]).run P w=.ok (.slice (some ⟨g,off,none⟩) (gb+m) kd) (w.setRow g (ah cur.toList (off+gb * i.size) news).toArray):=by
 have hf:=run_firstCells_some (P:=P) w i.size m a m c news hl lx;have bF:=run_storeCells_at P g (off+gb * i.size) e news 0 cur w hg (by simpa using eu) h1;simp only [xN] at bF;simp [Builtin.append_,run_underlying ht,sizeOf,typeInfo,hi,Builtin.lenOf,cW,hf,Addr.add_lit,bF,ah]
section
variable {c:Ctx} {w0 w:World} {J:JJ} {s:ab} {a:Act} {β:Nat→Option Nat} {dst:Option Nat} {ty:TypeId} {pos:String} {after:Array Edge} {g:Option (Nat×Bool)}
theorem mo (s:ab) (id d:Nat) (b1 b2:yb) (k:Nat):(s.wr [(id,b1),(d,b2)]).ob k=if d=k then b2 else if id=k then b1 else s.ob k:=by
 show (ab.set (ab.set s id b1) d b2).ob k=_;rw [ab.ao,ab.ao]
theorem Src.jv (h:FR c.N w0 J s a w β) {f2:FV} {sz:Nat} {ay:List (List FV)} (ey:s.ev y=f2) (h2:Src s f2 sz ay) (h1:ay.length=1) :
  (∀ e∈ay,e.length=sz)∧(∀ f∈ay.flatten,f.one=true)∧∃ ad cc us,a.eval y=.slice (some ad) 1 cc∧us.length=1 * sz∧az w (aK J w β s) us ay.flatten∧(∀ (j:Nat) u,us[j]? = some u→w.cell? (ad.add j)=some u)∧∀ u∈us,u.oneCell'=true:=by
 obtain ⟨hw,ho,A,cc,us,hy,hc,hr,hA,aO⟩:=h.src ey h2;refine ⟨hw,ho,?_⟩;cases A with
 | none => have := (hA rfl).2; rw [this] at h1; simp at h1
 | some ad =>
  refine ⟨ad,cc,us,by rw [hy,h1],by rw [hr.1,yq hw,h1],hr,aO ad rfl,fun u hu=>?_⟩;obtain ⟨j,hj,rfl⟩:=yu hu;have eU:j<ay.flatten.length:=by rw [← hr.1];exact hj
  exact (hr.2 j _ ay.flatten[j] (by simp [hj]) zd).dB (ho _ (yt eU))
theorem Uj (h:FR c.N w0 J s a w β) (d:Nat) {e:Nat} (hT:(c.ty T).k=.slice e) (he:(c.ty e).k≠.other) (bh:0<(c.ty e).size) (x y:Operand) {id o n:Nat} (ex:s.ev x=.own id aa o n) (aW:(s.ob id).ag=.roomy) (aA:(s.ob id).aa=aa)
  (hE:(s.ob id).E=e) (aF:(s.ob id).sz=(c.ty e).size) (eM:o+n=(s.ob id).es.length) {f2:FV} {ay:List (List FV)} (ey:s.ev y=f2) (h2:Src s f2 (c.ty e).size ay) (h1:ay.length=1) :
  yy c w0 J s a ⟨some d,.call { callee:=.builtin .append,args:=#[x,y],argTypes:=#[T,T] },ty,pos,after,g⟩ w (.own d ((s.ob d).aa+1) o (n+1)) [(id,{ s.ob id with ag:=.dead }),(d,⟨(s.ob d).aa+1,.own,e,(c.ty e).size,(s.ob id).es++ay⟩)]:=by
 obtain ⟨dd,ii,z,ht⟩:=c.get hT zd;have hd:=ht.k;rw [hT] at hd;obtain rfl:=zZ hd;obtain ⟨d',i',z',bU⟩:=c.get rfl he;obtain ⟨hZ,iI,ad,c2,cD,hy,bc,g5,cq,g3⟩:=Src.jv h ey h2 h1;have ai:(s.ob id).ag≠.dead:=by rw [aW];decide
 have a9:(s.ob id).ag.row=true:=by rw [aW];rfl
 have hO:=h.obj id ai;have cW:=hO.fK a9;unfold Yf at cW;rw [aW] at cW;obtain ⟨b,cur,hb,aR,eu⟩:=cW;obtain ⟨v1,eN,r1,r2,r3⟩:=(hO.bl a9).row;have ix:=(hO.bl a9).wide;have kC:=(hO.bl a9).one;have aM:=hO.lt hb;obtain ⟨A,cc,e1,e2,e3,e4,e5⟩:=(h.bu ex ai aA).ex;obtain ⟨o',rfl,k2,k3⟩:=e5 b hb;have iD:=k3 cur aR;rw [hE,aF] at r1;rw [hE] at aR;rw [aF] at k2 iD ix eu;generalize kv:(s.ob id).es=es at eM r1 r3 ix kC eu;generalize j0:(c.ty e).size=sz at bh ix eu r1 hZ bc iD k2;rcases r1.2 with ⟨rfl,_⟩|⟨g',cap,dT,rfl,_,dx,hn,oW,aY,kD⟩
 ·rw [← r2] at hb;simp [Value.ownBlock] at hb
 have iF:g'=b:=by rw [← r2] at hb;simpa [Value.ownBlock] using hb
 subst iF;rw [aR] at dx;injection dx with dx
 injection dx with dx _ _
 subst dx;have rf:o+cc=cap:=XA bh (by rw [← iD,aY]);have cH:es.length+1≤cap:=Nat.le_of_mul_le_mul_right (by rw [← aY];exact eu) bh;have dI : o'=o * sz:=k2 (.inl zc);subst dI;have hlen:o * sz+n * sz=es.length * sz:=by rw [← eM,zE]
 have nc:es.length * sz+sz≤cur.size:=by rw [zE] at eu;omega
 have bm:=Yn c.P w T ty e i' ht.u bU.info g' (o * sz) n cc cur aR ad 1 c2 cD (by rw [bU.size,j0];exact bc) cq g3 zc (by rw [bU.size,j0,hlen];omega);rw [bU.size,j0,hlen] at bm;have bO:cur.toList.length=cur.size:=by simp
 have iL:eN.length=es.length * sz:=r1.1;obtain ⟨W,hW⟩:∃ W,W=w.setRow g' (ah cur.toList (es.length * sz) cD).toArray:=⟨_,rfl⟩
 rw [← hW] at bm;have fC:W.heap[g']? = some (.cells (ah cur.toList (es.length * sz) cD).toArray e (0,0)):=by rw [hW];exact yj w g' _ cur _ aR
 have oQ:(ah cur.toList (es.length * sz) cD).toArray.size=cur.size:=by
  rw [Yz,yx (by rw [bO];omega),bO]
 have ld:w.grownBy W (some g'):=by
  subst hW;exact ⟨rfl,rfl,rfl,by simp [World.setRow],fun k hk bM=>yB w g' k _ (fun e=>bM (by rw [e]))⟩
 have ew:(es++ay).length=es.length+1:=by rw [ye,h1]
 have bX : W.ownsRow w0.heap.size e sz (.slice (some ⟨g',0,none⟩) (es.length+1) cap) (es++ay).length (eN++cD):=by
  rw [ew];refine ⟨by rw [ye,iL,bc,zE],.inr ⟨g',cap,_,rfl,aM.1,fC,cH,oW,by rw [oQ,aY],?_⟩⟩;show (ah cur.toList (es.length * sz) cD).take ((es.length+1) * sz)=eN++cD;unfold ah;rw [← kD,zD,YA,YB,XR (by rw [zE];omega),zT,yI zc,show (es.length+1) * sz - es.length * sz=sz by rw [zE];omega,
   Xx zc,ya (by omega:cD.length≤sz)]
 have eT:(execOp a.eval ⟨some d,.call { callee:=.builtin .append,args:=#[x,y],argTypes:=#[T,T] },ty,pos,after,g⟩).run c.P w=.ok (.value (.slice (some ⟨g',o * sz,none⟩) (n+1) cc)) W:=by
  simp [execOp,resolve,invoke,builtin,e1,hy,bm]
 have kW:=h.make (some id) d (E:=e) (sz:=sz) (es:=es++ay) (v:=.slice (some ⟨g',0,none⟩) (es.length+1) cap) (xs:=eN++cD) (fun k hk=>by injection hk with hk;subst hk;rw [aW];rfl) (by rw [Zv,hb];exact ld)
  (fun q hq=>by
   rcases yJ.1 hq with h'|h'
   ·exact ix q h'
   ·exact hZ q h')
  (fun f hf=>by
   rw [xK] at hf;rcases yJ.1 hf with h'|h'
   ·exact kC f h'
   ·exact iI f h') bX (by rw [xK];exact r3.append g5) (.inl (by rw [Zv,hb];rfl)) (s':=s.wr [(id,{ s.ob id with ag:=.dead }),(d,⟨(s.ob d).aa+1,.own,e,sz,es++ay⟩)]) (fun k=>by
    rw [mo];split
    ·rfl
    ·by_cases gR:id=k
     ·subst gR;simp
     ·rw [if_neg gR,if_neg (by simpa using gR)]) (fun k=>ab.cg _ _ _)
 have cE:(s.wr [(id,{ s.ob id with ag:=.dead }),(d,(⟨(s.ob d).aa+1,.own,e,sz,es++ay⟩:yb))]).ob d=⟨(s.ob d).aa+1,.own,e,sz,es++ay⟩:=by rw [mo,if_pos rfl]
 refine ⟨_,W,_,eT,kW,fun _ _=>?_,fun aN bo e=>?_⟩
 ·rw [cE,yP];refine ⟨rfl,some ⟨g',o * sz,none⟩,cc,rfl,by omega,by show o+(n+1)≤(es++ay).length;omega,(fun hb=>by simp [Value.ownBlock] at hb),fun b' bD=>?_⟩;obtain rfl:g'=b':=by simpa [Value.ownBlock] using bD
  refine ⟨o * sz,rfl,fun _=>rfl,fun dT dw=>?_⟩;rw [fC] at dw;injection dw with dw
  injection dw with dw _ _
  rw [← dw,oQ,iD]
 ·simp only [FV.hands,yg,yi] at e;obtain ⟨e1,e2⟩:=e;replace e1:=e1.symm;replace e2:=e2.symm;subst e1;subst e2;rw [cE];exact zm _
theorem Ui (h:FR c.N w0 J s a w β) (d:Nat) {e:Nat} (hT:(c.ty T).k=.slice e) (he:(c.ty e).k≠.other) (bh:0<(c.ty e).size) (x y:Operand) {id o n:Nat} (ex:s.ev x=.own id aa o n) (aW:(s.ob id).ag=.full) (aA:(s.ob id).aa=aa)
  (hE:(s.ob id).E=e) (aF:(s.ob id).sz=(c.ty e).size) (eM:o+n=(s.ob id).es.length) {f2:FV} {ay:List (List FV)} (ey:s.ev y=f2) (h2:Src s f2 (c.ty e).size ay) (h1:ay.length=1)
  (hb:(n+1) * (c.ty e).bytes≤140737488355328) (hm:n+1≤140737488355328) :
  yy c w0 J s a ⟨some d,.call { callee:=.builtin .append,args:=#[x,y],argTypes:=#[T,T] },ty,pos,after,g⟩ w (.own d ((s.ob d).aa+1) 0 (n+1)) [(id,{ s.ob id with ag:=.dead }),(d,⟨(s.ob d).aa+1,.own,e,(c.ty e).size,(s.ob id).es.drop o++ay⟩)]:=by
 obtain ⟨dd,ii,z,ht⟩:=c.get hT zd;have hd:=ht.k;rw [hT] at hd;obtain rfl:=zZ hd;obtain ⟨d',i',z',bU⟩:=c.get rfl he;have mh:z'.cells.size=(c.ty e).size:=by
  have:=(az.zeros (w:=w) (I:=aK J w β s) bU.zr).1;rw [bU.zl] at this;simpa using this
 obtain ⟨hZ,iI,ad,c2,cD,hy,bc,g5,cq,g3⟩:=Src.jv h ey h2 h1;have ai:(s.ob id).ag≠.dead:=by rw [aW];decide
 have a9:(s.ob id).ag.row=true:=by rw [aW];rfl
 have hO:=h.obj id ai;have cW:=hO.fK a9;unfold Yf at cW;rw [aW] at cW;obtain ⟨v1,eN,r1,r2,r3⟩:=(hO.bl a9).row;have ix:=(hO.bl a9).wide;have kC:=(hO.bl a9).one;obtain ⟨A,cc,e1,e2,e3,e4,e5⟩:=(h.bu ex ai aA).ex;rw [hE,aF] at r1;rw [aF] at ix;have ew:((s.ob id).es.drop o++ay).length=n+1:=by rw [ye,ZM,h1];omega
 have iy:∀ q∈(s.ob id).es.drop o++ay,q.length=(c.ty e).size:=fun q hq=>by
  rcases yJ.1 hq with h'|h'
  ·exact ix q (yK h')
  ·exact hZ q h'
 have bJ:((s.ob id).es.drop o).flatten=(s.ob id).es.flatten.drop (o * (c.ty e).size):=xv _ ix o;have cn:∀ f∈((s.ob id).es.drop o++ay).flatten,f.one=true:=fun f hf=>by
  rw [xK] at hf;rcases yJ.1 hf with h'|h'
  ·rw [bJ] at h';exact kC f (yK h')
  ·exact iI f h'
 have g6:az w (aK J w β s) (eN.drop (o * (c.ty e).size)++cD) ((s.ob id).es.drop o++ay).flatten:=by
  rw [xK,bJ];exact (r3.drop _).append g5
 obtain ⟨v',w',bm,bX,ld,aR⟩:∃ v' w',(Builtin.append_ #[T,T] ty #[a.eval x,a.eval y]).run c.P w=.ok v' w'∧w'.ownsRow w0.heap.size e (c.ty e).size v' (n+1) (eN.drop (o * (c.ty e).size)++cD)∧w.grownBy w' none∧
   (v'.ownBlock=none∨∃ b,v'.ownBlock=some b∧w.heap.size≤b):=by
  rw [e1,hy];cases fD:β id with
  | none=>
   obtain ⟨rfl,rfl⟩:=e4 fD;obtain rfl:n=0:=by omega
   rcases r1.2 with ⟨rfl,nJ⟩|⟨g',cap,dT,rfl,_⟩
   ·have rC:eN=[]:=xJ (by rw [r1.1,nJ,xy]);subst rC;obtain ⟨v',w',q1,q2,q3,_,q5⟩:=run_append_own_at (P:=c.P) w w0.heap.size T ty e i' z' (c.ty e).size (c.ty e).bytes ht.u bU.info bU.zo bU.size bU.bytes mh bh (.slice none 0 0) 0 [] (Yu _ _ _ _) ad 1 c2 cD bc cq g3 zb (by simpa using hb) h.bN.size;refine ⟨v',w',q1,by simpa using q2,q3,?_⟩;rcases q5 with e|e
    ·exact .inl e
    ·exact .inr ⟨_,e,zm _⟩
   ·rw [fD] at r2;simp [Value.ownBlock] at r2
  | some b=>
   obtain ⟨o',rfl,k2,k3⟩:=e5 b fD;rcases r1.2 with ⟨rfl,_⟩|⟨g',cap,cur,rfl,_,dx,hn,oW,aY,kD⟩
   ·rw [fD] at r2;simp [Value.ownBlock] at r2
   have iF:g'=b:=by rw [fD] at r2;simpa [Value.ownBlock] using r2
   subst iF;have eS:=cW g' cur fD (by rw [hE];exact dx);have fR:=k3 cur (by rw [hE];exact dx);rw [aF] at eS fR k2;have rf:o+cc=(s.ob id).es.length:=XA bh (by rw [← fR,eS]);obtain rfl:cc=n:=by omega
   have bO:eN.length=(s.ob id).es.length * (c.ty e).size:=r1.1;obtain ⟨v',w',q1,q2,q3⟩:=run_append_arg_grows (P:=c.P) w T ty e i' z' (c.ty e).size (c.ty e).bytes ht.u bU.info bU.zo bU.size bU.bytes mh bh ⟨g',o',none⟩ cc cc (eN.drop (o * (c.ty e).size)) (by rw [ZM,bO,← eM,zE];omega)
    (fun j u hu=>by
     rw [yV] at hu;have hj:=(zK.1 hu).1;have mU:cc≠0:=by rintro rfl;rw [bO,← eM,xN] at hj;omega
     have:=k2 (.inl mU);subst this;have aO:=r1.cells (g:=g') rfl _ u hu;rw [yD] at aO ⊢;rwa [zR] at aO) ad 1 c2 cD bc cq zc (by unfold maxLen;omega) hb
   refine ⟨v',w',q1,pN q2 h.bN.size,q3,?_⟩;cases nE:v'.ownBlock with
   | none => exact .inl rfl
   | some b2 => exact .inr ⟨b2, rfl, (q2.lt b2 nE).1⟩
 have eT:(execOp a.eval ⟨some d,.call { callee:=.builtin .append,args:=#[x,y],argTypes:=#[T,T] },ty,pos,after,g⟩).run c.P w=.ok (.value v') w':=by
  simp [execOp,resolve,invoke,builtin,bm]
 rw [← ew] at bX;have kW:=h.make (some id) d (E:=e) (sz:=(c.ty e).size) (es:=(s.ob id).es.drop o++ay) (v:=v') (xs:=eN.drop (o * (c.ty e).size)++cD) (fun k hk=>by injection hk with hk;subst hk;rw [aW];rfl) (uJ ld _) iy cn bX g6 (.inr aR)
  (s' :=s.wr [(id,{ s.ob id with ag:=.dead }),(d,⟨(s.ob d).aa+1,.own,e,(c.ty e).size,(s.ob id).es.drop o++ay⟩)]) (fun k=>by
      rw [mo];split
      ·rfl
      ·by_cases gR:id=k
       ·subst gR;simp
       ·rw [if_neg gR,if_neg (by simpa using gR)]) (fun k=>ab.cg _ _ _)
 have cE:(s.wr [(id,{ s.ob id with ag:=.dead }),(d,(⟨(s.ob d).aa+1,.own,e,(c.ty e).size,(s.ob id).es.drop o++ay⟩:yb))]).ob d=⟨(s.ob d).aa+1,.own,e,(c.ty e).size,(s.ob id).es.drop o++ay⟩:=by rw [mo,if_pos rfl]
 refine ⟨v',w',_,eT,kW,fun _ _=>?_,fun aN bo e=>?_⟩
 ·rw [cE,yP];rw [← ew];exact WA.eG bX rfl rfl rfl rfl
 ·simp only [FV.hands,yg,yi] at e;obtain ⟨e1,e2⟩:=e;replace e1:=e1.symm;replace e2:=e2.symm;subst e1;subst e2;rw [cE];exact zm _
theorem FR.eg (h:FR c.N w0 J s a w β) {id:Nat} (aW:(s.ob id).ag=.aw) {b:Nat} (hb:β id=some b) :
  ∃ cur cap,w.heap[b]? = some (.cells cur (s.ob id).E (0,0))∧(s.ob id).es.length≤cap∧cap≤maxLen∧cur.size=cap * (s.ob id).sz∧(cur.toList.take ((s.ob id).es.length * (s.ob id).sz)).length=(s.ob id).es.flatten.length∧
   ∀ (j:Nat) u f,(cur.toList.take ((s.ob id).es.length * (s.ob id).sz))[j]? = some u→(s.ob id).es.flatten[j]? = some f→VR w (aK J w β s) β s u f:=by
 have ai:(s.ob id).ag≠.dead:=by rw [aW];decide
 obtain ⟨v,us,r1,r2,r3,r4⟩:=((h.obj id ai).eH (by rw [aW];rfl) (by rw [aW];rfl)).row;rcases r1.2 with ⟨rfl,_⟩|⟨g',cap,cur,rfl,_,dx,hn,hm,aY,kD⟩
 ·rw [← r2] at hb;simp [Value.ownBlock] at hb
 ·have iF:g'=b:=by rw [← r2] at hb;simpa [Value.ownBlock] using hb
  subst iF;subst kD;exact ⟨cur,cap,dx,hn,hm,aY,r3,r4⟩
theorem Uc {α:Type}:∀ (es:List (List α)),(∀ e∈es,e.length=1)→∀ (j:Nat) f,es[j]? = some [f]→es.flatten[j]? = some f
 | [], _, j, f, h => by simp at h
 | e :: es, he, 0, f, h => by simp at h; subst h; simp
 | e :: es, he, j+1, f, h => by
  have h1:=he e zd;obtain ⟨x,rfl⟩:=Xs.1 h1;simp at h;simpa using Uc es (fun q hq=>he q (by simp [hq])) j f h
theorem Ud {α:Type}:∀ (es:List (List α)),(∀ e∈es,e.length=1)→∀ (j:Nat) f,(es.set j [f]).flatten=es.flatten.set j f
 | [], _, j, f => by simp
 | e :: es, he, 0, f => by
  obtain ⟨x,rfl⟩:=Xs.1 (he e zd);simp
 | e :: es, he, j+1, f => by
  obtain ⟨x,rfl⟩:=Xs.1 (he e zd);simpa using Ud es (fun q hq=>he q (by simp [hq])) j f
theorem tB (h:FR c.N w0 J s a w β) (hk:(c.ty T).k.aQ = some false) (hz:(c.ty T).size=1) (x:Operand) {id:Nat} (ex:s.ev x=.ptr id aa j 0) (aW:(s.ob id).ag=.aw) (aA:(s.ob id).aa=aa) (aF:(s.ob id).sz=1) {f:FV} (hj:(s.ob id).es[j]? = some [f]) :
  yy c w0 J s a ⟨dst,.load T x,ty,pos,after,g⟩ w f []:=by
 have ai:(s.ob id).ag≠.dead:=by rw [aW];decide
 obtain ⟨_,b,hb,hv⟩:=h.bL ex ai aA;obtain ⟨cur,cap,aR,hn,hm,aY,hl,hr⟩:=h.eg aW hb;have hH:=(h.obj id ai).eH (by rw [aW];rfl) (by rw [aW];rfl);have hw:=hH.wide;rw [aF] at hv aY hl hr hw;have ir:=(zK.1 hj).1;have jS:=Uc _ hw j f hj;have ky:j<cur.size:=by omega
 have hu:(cur.toList.take ((s.ob id).es.length * 1))[j]? = some cur[j]:=by
  rw [yr,if_pos zc];simp [ky]
 have aO:w.cell? ⟨b,j,none⟩=some cur[j]:=by
  have:=cell_of_row w b j cur (s.ob id).E (0,0) aR;rw [this];simp [ky]
 refine .pure h (v:=cur[j]) ?_ (hr j _ f hu jS) (fun aN bo e=>hH.cm f (zH jS) aN bo e);have:(loadVar T ⟨b,j,none⟩).run c.P w=.ok cur[j] w:=by simp [loadVar,ZI hk,load,Sem.run,aO]
 simp [execOp,Instr.loadAt,hv,Instr.sureAddr,this]
def UV (s:ab) (f:FV):Prop:=f.one=true∨(∃ id aa o n,f=.own id aa o n∧s.live id aa)∨(∃ id aa j o,f=.ptr id aa j o∧s.live id aa)∨(∃ k fs,f=.wrap (.fn k) fs)∨∃ id aa,f=.omap id aa∧s.live id aa
theorem UV.val (h:FR c.N w0 J s a w β) {f:FV} (ey:s.ev y=f) (hf:UV s f):(a.eval y).cells=#[a.eval y]∧(a.eval y).oneCell'=true:=by
 rcases hf with h1|⟨id,aa,o,n,rfl,hl⟩|⟨id,aa,j,o,rfl,hl⟩|⟨k,fs,rfl⟩|⟨id,aa,rfl,hl⟩
 ·have hn:f.hand=none:=by cases f <;> first|rfl|(simp [FV.one] at h1)
  have hr:=h.aV ey hn;generalize a.eval y=v at hr;cases hr <;> first|exact ⟨rfl,rfl⟩|(simp [FV.one] at h1)
 ·obtain ⟨A,cc,e,_⟩:=(h.bu ey hl.1 hl.2).ex;rw [e];exact ⟨rfl,rfl⟩
 ·obtain ⟨_,b,_,e⟩:=h.bL ey hl.1 hl.2;rw [e];exact ⟨rfl,rfl⟩
 ·have hv:=h.ev y;rw [ey] at hv;obtain ⟨us,e,_⟩:=hv;rw [e];exact ⟨rfl,rfl⟩
 ·obtain ⟨_,b,_,e⟩:=h.er ey hl.1 hl.2;rw [e];exact ⟨rfl,rfl⟩
theorem sC (h:FR c.N w0 J s a w β) (hk:(c.ty T).k≠.other) (hz:(c.ty T).size=1) (x y:Operand) {id:Nat} (ex:s.ev x=.ptr id aa j 0) (aW:(s.ob id).ag=.aw) (aA:(s.ob id).aa=aa) (aF:(s.ob id).sz=1) {f:FV} (ey:s.ev y=f)
  (hf:UV s f) (hj:j<(s.ob id).es.length) :
  ∃ w',(execOp a.eval ⟨dst,.store T x y,ty,pos,after,g⟩).run c.P w=.ok .skip w'∧FR c.N w0 J (s.wr [(id,{ s.ob id with es:=(s.ob id).es.set j [f] })]) a w' β:=by
 have ai:(s.ob id).ag≠.dead:=by rw [aW];decide
 obtain ⟨_,b,hb,jt⟩:=h.bL ex ai aA;obtain ⟨cur,cap,aR,hn,hm,aY,hl,hr⟩:=h.eg aW hb;have hH:=(h.obj id ai).eH (by rw [aW];rfl) (by rw [aW];rfl);have hw:=hH.wide;obtain ⟨eS,fR⟩:=UV.val h ey hf;have hU:=h.ev y;have dV:∀ aN bo,(aN,bo)∈f.hands→bo≤(s.ob aN).aa:=fun aN bo e=>h.cj y (by rw [ey];exact e);rw [ey] at hU;generalize hy:a.eval y=v at eS fR hU;rw [aF] at jt aY hl hr hw;have bF:=run_storeCells_at c.P b j (s.ob id).E [v] 0 cur w aR zV (by simpa using fR);simp only [xN] at bF;have ky:j<cur.toList.length:=by simp;omega
 obtain ⟨W,hW⟩:∃ W,W=w.setRow b (ah cur.toList j [v]).toArray:=⟨_,rfl⟩
 have fC:W.heap[b]? = some (.cells (cur.toList.set j v).toArray (s.ob id).E (0,0)):=by rw [hW,Vd v ky];exact yj w b _ cur _ aR
 have hg:w.grownBy W (some b):=by
  subst hW;exact ⟨rfl,rfl,rfl,by simp [World.setRow],fun k hk bM=>yB w b k _ (fun e=>bM (by rw [e]))⟩
 have aM:=(h.obj id ai).lt hb;refine ⟨W,?_,?_⟩
 ·have hs:=yl (c:=c) hk w;have g9 : (storeCells ⟨b,j,none⟩ [v]).run c.P w=.ok () W:=by rw [hW];exact bF
  simp [execOp,Instr.storeAt,storeVar,jt,hy,Instr.sureAddr,hs,hz,eS,g9]
 ·have bE:∀ k,(s.wr [(id,{ s.ob id with es:=(s.ob id).es.set j [f] })]).ob k=if id=k then { s.ob id with es:=(s.ob id).es.set j [f] } else s.ob k:=fun k=>ab.ao s id _ k
  have hI:∀ b',aK J w β s b'→aK J W β (s.wr [(id,{ s.ob id with es:=(s.ob id).es.set j [f] })]) b'∧W.heap[b']? = w.heap[b']?:=fun b' aE=>by
   refine ⟨⟨xO aE.1 hg.size,aE.2.1,fun aN bf=>?_⟩,hg.block b' aE.1 (fun e=>aE.2.2 id (by rw [aW];rfl) (by rw [hb];exact e.symm))⟩;rw [bE] at bf;split at bf
   ·rename_i e;subst e;exact aE.2.2 id (by rw [aW];rfl)
   ·exact aE.2.2 aN bf
  refine h.step (C:=fun k=>k=id) h.size h.defers (h.bN.grown hg h.bN.size (fun k hk=>by injection hk with hk;subst hk;exact aM.1)) hI (fun k=>.inl ⟨rfl,rfl⟩) (fun k hC=>?_) (fun k hC=>?_) (fun k hC bc nG=>?_) (fun k hC bc T'=>?_) ?_ (fun b' gV hn=>⟨hg.block b' gV (fun e=>hn id ai (by rw [hb];exact e.symm)),fun k bc=>hn k (by rw [bE] at bc;split at bc;(· rename_i e;subst e;exact ai);(· exact bc))⟩)
  ·refine ⟨by rw [bE,if_neg (fun e=>hC e.symm)],rfl,fun bc b' aE=>hg.block b' ((h.obj k bc).lt aE).2 (fun e=>hC (h.inj k id b' bc ai aE (by rw [hb];exact e.symm)))⟩
  ·subst hC;rw [bE,if_pos rfl];exact zm _
  ·subst hC;refine ⟨ai,rfl,by rw [bE,if_pos rfl],by rw [bE,if_pos rfl],fun v2 o n hL=>?_⟩;rw [bE,if_pos rfl];obtain ⟨A,cc,q1,q2,q3,q4,q5⟩:=hL.ex;refine ⟨hL.row,A,cc,q1,q2,by simpa using q3,q4,fun b2 aE=>?_⟩;obtain ⟨o',k1,k2,k3⟩:=q5 b2 aE;refine ⟨o',k1,k2,fun dT dw=>?_⟩;rw [hb] at aE;injection aE with aE
   subst aE;dsimp only at dw;rw [fC] at dw;injection dw with dw
   injection dw with dw _ _
   rw [← dw];have:=k3 cur aR;simpa using this
  ·subst hC;rw [bE,if_pos rfl];have dK:∀ aN,(s.ob aN).aa≤((s.wr [(k,{ s.ob k with es:=(s.ob k).es.set j [f] })]).ob aN).aa:=fun aN=>by
    rw [bE];split
    ·rename_i e;subst e;exact zm _
    ·exact zm _
   have bJ:=Ud _ hw j f;have jQ:(s.ob k).es.flatten.length=(s.ob k).es.length:=by have:=yq hw;omega
   refine .lK ⟨fun e he=>?_,fun f' bw aN bo e=>?_,.slice (some ⟨b,0,none⟩) (s.ob k).es.length cap,(cur.toList.take ((s.ob k).es.length * 1)).set j v,?_,by rw [hb];rfl,?_,fun i u f' hu bw=>?_⟩ aW
   ·rw [aF];rcases ZN he with h'|h'
    ·exact hw e h'
    ·subst h';rfl
   ·dsimp only at bw;rw [bJ] at bw;refine yZ ?_ (dK aN);rcases ZN bw with h'|h'
    ·exact hH.cm f' h' aN bo e
    ·subst h';exact dV aN bo e
   ·rw [aF];simp only [ym];refine ⟨by rw [ym,hl,jQ,xd],.inr ⟨b,cap,_,rfl,aM.1,fC,hn,hm,by simpa using aY,?_⟩⟩;simp only [List.take_set]
   ·dsimp only;rw [ym,hl,bJ,ym]
   ·dsimp only at bw;rw [bJ] at bw;rw [Xr] at hu bw;by_cases im:j=i
    ·subst im;rw [if_pos rfl] at hu bw;split at hu
     ·split at bw
      ·injection hu with hu
       injection bw with bw
       subst hu;subst bw;exact T' _ _ hU dV
      ·cases bw
     ·cases hu
    ·rw [if_neg im] at hu bw;exact T' _ _ (hr i u f' hu bw) (hH.cm f' (zH bw))
  ·intro k k' b' bc cu e e';refine h.inj k k' b' ?_ ?_ e e'
   ·rw [bE] at bc;split at bc
    ·rename_i e;subst e;exact ai
    ·exact bc
   ·rw [bE] at cu;split at cu
    ·rename_i e;subst e;exact ai
    ·exact cu
end
end
section
open Go.RowKit Go.Maps
section
variable {c:Ctx} {w0 w:World} {J:JJ} {s:ab} {a:Act} {β:Nat→Option Nat} {dst:Option Nat} {ty:TypeId} {pos:String} {after:Array Edge} {g:Option (Nat×Bool)}
theorem FR.mH {s' : ab} (h:FR N w0 J s a w β) (hg:∀ k,s'.get k=s.get k) (ho:∀ k,s'.ob k=s.ob k):FR N w0 J s' a w β:=by
 refine h.step (C:=fun _=>False) h.size h.defers h.bN (fun b hb=>⟨⟨hb.1,hb.2.1,fun id hl=>hb.2.2 id (by rw [← ho];exact hl)⟩,rfl⟩) (fun k=>.inl ⟨rfl,hg k⟩) (fun id _=>⟨ho id,rfl,fun _ _ _=>rfl⟩) (fun _ h=>h.elim) (fun _ h=>h.elim) (fun _ h=>h.elim) ?_ (fun b _ hn=>⟨rfl,fun id hl=>hn id (by rw [← ho];exact hl)⟩);intro id aN b hl bf;rw [ho] at hl bf;exact h.inj id aN b hl bf
theorem sW (L:List α) (o:Nat):ah L o []=L:=by
 unfold ah;simp
theorem Yl {α:Type}:∀ {es:List (List α)},(∀ e∈es,e.length=1)→es.flatten.length=es.length
 | [], _ => rfl
 | e :: es, h => by
  rw [zS,ye,Yl (fun q hq=>h q (by simp [hq])),h e zd];simp;omega
theorem Ug {es ds:List (List α)} (he:∀ e∈es,e.length=1) (hd:∀ e∈ds,e.length=1) (o:Nat):(ah es o ds).flatten=ah es.flatten o ds.flatten:=by
 unfold ah;rw [xK,xK,Za es he,xv es he,Yl hd,xd,xd]
theorem uC (h:FR c.N w0 J s a w β) {T2 e:Nat} (hT:(c.ty T).k=.slice e) (he:(c.ty e).k≠.other) (hz:(c.ty e).size=1) (x y:Operand) {id o m:Nat} (ex:s.ev x=.own id aa o m) (hl:(s.ob id).ag=.own) (hv:(s.ob id).aa=aa) (aF:(s.ob id).sz=1)
  {f2:FV} {ay:List (List FV)} (ey:s.ev y=f2) (h2:Src s f2 1 ay) :
  yy c w0 J s a ⟨dst,.call { callee:=.builtin .copy,args:=#[x,y],argTypes:=#[T,T2] },ty,pos,after,g⟩ w (.int .i64 ((ay.take m).length:Nat)) [(id,{ s.ob id with es:=ah (s.ob id).es o (ay.take m) })]:=by
 have ai:(s.ob id).ag≠.dead:=by rw [hl];decide
 have a9:(s.ob id).ag.row=true:=by rw [hl];rfl
 obtain ⟨dd,ii,z,ht⟩:=c.get hT zd;have hd:=ht.k;rw [hT] at hd;obtain rfl:=zZ hd;obtain ⟨d',i',z',bU⟩:=c.get rfl he;have pd:(c.P.info? e).map (·.size)=some 1:=by rw [bU.info,← hz,← bU.size];rfl
 obtain ⟨hZ,iI,A2,c2,cD,hy,fR,g5,jG,cq⟩:=h.src ey h2;obtain ⟨A,cc,e1,e2,e3,e4,e5⟩:=(h.bu ex ai hv).ex;have gU:cD.length=ay.length:=by rw [g5.1,Yl hZ]
 have lp:(ay.take m).length=Nat.min ay.length m:=by rw [zT,Nat.min_comm]
 by_cases h0:ay.take m=[]
 ·have hn:Nat.min ay.length m=0:=by rw [← lp,h0];rfl
  have bm:=run_copy_none (P:=c.P) w T T2 ty e A A2 m cc ay.length c2 ht.u pd hn;refine ⟨goInt 0,w,β,?_,?_,?_,fun _ _ hm=>(FV.aU rfl hm).elim⟩
  ·simp [execOp,resolve,invoke,builtin,e1,hy,bm]
  ·refine h.mH (fun k=>ab.cg _ _ _) (fun k=>?_);rw [h0,sW];show (ab.set s id _).ob k=_;rw [ab.ao];split
   ·rename_i e;subst e;rfl
   ·rfl
  ·rw [h0];exact Rd.int _ _
 ·have kA:0<(ay.take m).length:=by
   rcases XC (ay.take m).length with h'|h'
   ·exact absurd (xJ h') h0
   ·exact h'
  have wm:0<m:=by rw [zT] at kA;omega
  obtain ⟨b,hb⟩:∃ b,β id=some b:=by
   cases aE:β id with
   | none => obtain ⟨q1, q2⟩ := e4 aE; omega
   | some b => exact ⟨b, rfl⟩
  obtain ⟨o',rfl,k2,k3⟩:=e5 b hb;have:=k2 (.inl zc);subst this;obtain ⟨ad,rfl⟩:∃ ad,A2=some ad:=by
   cases hA:A2 with
   | none => obtain ⟨_, q⟩ := jG hA; subst q; simp at kA
   | some ad => exact ⟨ad, rfl⟩
  obtain ⟨cur,cap,aR,hn,hm,aY,hr,aw⟩:=h.block ai a9 hb;have hw:=((h.obj id ai).bl a9).wide;have bj:=((h.obj id ai).bl a9).one;rw [aF] at hw aY hr aw e1;simp only [xd] at aY hr aw e1;generalize kv:(s.ob id).es=es at hn hr aw hw bj e3;have ku:∀ q∈ay.take m,q.length=1:=fun q hq=>hZ q (yF hq);have jO:(cD.take m).length=(ay.take m).length:=by rw [zT,zT,gU]
  have bJ:(ay.take m).flatten=ay.flatten.take m:=by rw [Za ay hZ,xd]
  have nw:az w (aK J w β s) (cD.take m) (ay.take m).flatten:=by rw [bJ];exact g5.take m
  have cK:∀ f∈(ay.take m).flatten,f∈ay.flatten:=fun f hf=>by rw [bJ] at hf;exact yF hf
  have mK:∀ u∈cD.take m,u.oneCell'=true:=fun u hu=>by
   obtain ⟨j,hj,rfl⟩:=yu hu;have eU:j<(ay.take m).flatten.length:=by rw [← nw.1];exact hj
   exact (nw.2 j _ (ay.take m).flatten[j] (by simp only [xp hj]) (by simp only [xp eU])).dB (iI _ (cK _ (yt eU)))
  have hle:(ay.take m).length≤m:=by rw [zT];omega
  have eu:o+(cD.take m).length≤cur.size:=by rw [jO,aY];omega
  have bm:=run_copy_row (P:=c.P) w T T2 ty e b o m cc ad ay.length c2 cur (s.ob id).E (cD.take m) ht.u pd aR (by rw [jO,lp]) (fun j u hu=>cq ad rfl j u (by rw [yr] at hu;split at hu;exact hu;cases hu)) eu mK;obtain ⟨W,hW⟩:∃ W,W=w.setRow b (ah cur.toList o (cD.take m)).toArray:=⟨_,rfl⟩
  have fC:W.heap[b]? = some (.cells (ah cur.toList o (cD.take m)).toArray (s.ob id).E (0,0)):=by rw [hW];exact yj w b _ cur _ aR
  have fg:w.grownBy W (β id):=by
   subst hW;refine ⟨rfl,rfl,rfl,by simp [World.setRow],fun k hk bM=>yB w b k _ (fun e=>bM (by rw [e,hb]))⟩
  have bO:cur.toList.length=cap:=by simpa using aY
  have nC:(cur.toList.take es.length).length=es.length:=by rw [zT,bO];omega
  have jq:(ah es o (ay.take m)).length=es.length:=yx zc;have bX : W.ownsRow w0.heap.size (s.ob id).E 1 (.slice (some ⟨b,0,none⟩) es.length cap) (ah es o (ay.take m)).length (ah (cur.toList.take es.length) o (cD.take m)):=by
   rw [jq];refine ⟨?_,.inr ⟨b,cap,_,rfl,((h.obj id ai).lt hb).1,fC,hn,hm,?_,?_⟩⟩
   ·rw [yx zc,nC,xd]
   ·simp only [Yz];rw [yx zc,bO,xd]
   ·rw [xd];have key:∀ (L p:Nat) (cs ds:List Value),p+ds.length≤L→L≤cs.length→(ah cs p ds).take L=ah (cs.take L) p ds:=by
     intro L p cs ds h1 h2;unfold ah;rw [zD,zD,YA,zT,yI zc,YA,YB,YB,XR zc,yI zc,ya (by omega:ds.length≤L - p),List.drop_take];congr 3;omega
    exact key _ _ _ _ zc zc
  refine ⟨goInt (cD.take m).length,W,β,?_,?_,?_,fun _ _ hm=>(FV.aU rfl hm).elim⟩
  ·have jm : (Builtin.copy_ #[T,T2] ty #[.slice (some ⟨b,o,none⟩) m cc,.slice (some ad) ay.length c2]).run c.P w=.ok (goInt (cD.take m).length) W:=by rw [hW];exact bm
   obtain ⟨V,hV⟩:∃ V,V=goInt ((cD.take m).length:Nat):=⟨_,rfl⟩
   rw [← hV] at jm ⊢;simp [execOp,resolve,invoke,builtin,e1,hy,jm]
  ·refine h.write id (es:=ah es o (ay.take m)) (v:=.slice (some ⟨b,0,none⟩) es.length cap) (xs:=ah (cur.toList.take es.length) o (cD.take m)) hl fg ?_ ?_ ?_ hb.symm ?_ ?_ ?_ (fun k=>?_) (fun k=>ab.cg _ _ _)
   ·rw [aF];intro q hq;rcases YU hq with hq|hq
    ·exact hw q hq
    ·exact ku q hq
   ·intro f hf;obtain ⟨q,hq,lb⟩:=yv.1 hf;rcases YU hq with hq|hq
    ·exact bj f (yv.2 ⟨q,hq,lb⟩)
    ·exact iI f (yv.2 ⟨q,yF hq,lb⟩)
   ·rw [aF];exact bX
   ·rw [Ug hw ku];exact hr.ah nw _
   ·rw [kv,jq]
   ·intro b' mE mF bD h1 h2;rw [hb] at bD;injection bD with bD
    subst bD;rw [aR] at h1;injection h1 with h1
    injection h1 with h1 _ _
    subst h1;rw [fC] at h2;injection h2 with h2
    injection h2 with h2 _ _
    rw [← h2];simp only [Yz];rw [yx zc,bO,aY]
   ·rw [← kv];exact ab.ao s id _ k
  ·rw [← jO];exact Rd.int _ _
def Zn (P:Program) (T:Nat):Bool:=
 match P.underlying T with
 | some (.interface _) => true
 | _ => false
theorem Wv (hk:(c.ty T).k≠.other) (di:Zn c.P T=false) (x:Operand):(execOp a.eval ⟨dst,.makeInterface T x,ty,pos,after,g⟩).run c.P w=.ok (.value (.iface T (a.eval x))) w:=by
 obtain ⟨d,i,z,ht⟩:=c.get rfl hk;unfold Zn at di;rw [ht.u] at di;cases d <;> first|(cases di;done)|(simp [execOp,Instr.makeInterface,run_underlying ht.u];done)
theorem Up (h:FR c.N w0 J s a w β) (hk:(c.ty T).k≠.other) (di:Zn c.P T=false) (x:Operand) {f:FV} (ex:s.ev x=f) (hn:f.hand=none) :
  yy c w0 J s a ⟨dst,.makeInterface T x,ty,pos,after,g⟩ w (.iface T f) []:=
 .rd h (v:=.iface T (a.eval x)) (Wv hk di x) (.iface T _ _ (h.aV ex hn)) rfl
def FV.bV:FV→Bool
 | .wrap _ _ => false
 | _ => true
theorem FV.fq {f:FV} (h:f.bV=true):∀ k fs,f≠.wrap k fs:=by rintro k fs rfl;cases h
theorem tF {k:Wk} {fs:List FV} {id:Nat} (h:(id,aa)∈(FV.wrap k fs).hands):∃ f∈fs,f.hand=some (id,aa):=Zi.1 h
theorem Wg (h:FR c.N w0 J s a w β) {k:Wk} {xs:List Operand} {fs:List FV} (hx:xs.map s.ev=fs) (hn:fs.all FV.bV=true) {o:Oper} (hr:(execOp a.eval o).run c.P w=.ok (.value (k.mk (xs.map a.eval))) w):yy c w0 J s a o w (.wrap k fs) []:=by
 subst hx;refine .pure h hr ⟨xs.map a.eval,rfl,by simp,fun j u f hu hf=>?_⟩ fun id aa hm=>?_
 ·rw [yW] at hu hf;cases hj:xs[j]? with
  | none => rw [hj] at hu; cases hu
  | some x =>
   rw [hj] at hu hf;injection hu with hu;injection hf with hf
   subst hu;subst hf;have hm:s.ev x∈xs.map s.ev:=zM.2 ⟨x,zH hj,rfl⟩;exact (h.ev x).nT (FV.fq (zG.1 hn _ hm))
 ·obtain ⟨f,hf,e⟩:=tF hm;obtain ⟨x,wq,rfl⟩:=zM.1 hf;refine h.cj x ?_;have hw:=zG.1 hn _ hf;generalize s.ev x=q at e hw;cases q with
  | own|ptr|omap => injection e with e; rw [← e]; exact yg.2 rfl
  | wrap => cases hw
  | _ => cases e
theorem Vx (h:FR c.N w0 J s a w β) (hk:(c.ty T).k≠.other) (di:Zn c.P T=false) (x:Operand) {f:FV} (ex:s.ev x=f) (hn:f.bV=true) :
  yy c w0 J s a ⟨dst,.makeInterface T x,ty,pos,after,g⟩ w (.wrap (.mi T) [f]) []:=
 Wg h (k:=.mi T) (xs:=[x]) (by simp [ex]) (by simpa using hn) (Wv hk di x)
theorem Uo (h:FR c.N w0 J s a w β) {f:Nat} {aI:List FV} (hx:xs.toList.map s.ev=aI) (hn:aI.all FV.bV=true) :
  yy c w0 J s a ⟨dst,.makeFunc (.func f) #[] xs,ty,pos,after,g⟩ w (.wrap (.fn f) aI) []:=by
 refine Wg h (k:=.fn f) (xs:=xs.toList) hx hn ?_;have:(xs.toList.map a.eval).toArray=xs.map a.eval:=by apply Yg;simp
 simp [execOp,Instr.makeFunc,Wk.mk,this]
theorem tv (h:FR c.N w0 J s a w β) {f:Nat} {aI:List FV} (hx:xs.toList.map s.ev=aI) (hn:aI.all FV.bV=true) :
  yy c w0 J s a ⟨dst,.makeFunc (.func f) xs #[],ty,pos,after,g⟩ w (.wrap (.bound f) aI) []:=by
 refine Wg h (k:=.bound f) (xs:=xs.toList) hx hn ?_;have:(xs.toList.map a.eval).toArray=xs.map a.eval:=by apply Yg;simp
 simp [execOp,Instr.makeFunc,Wk.mk,this]
theorem Ur (h:FR c.N w0 J s a w β) {T2:Nat} (hk:(c.ty T).k≠.other) (di:Zn c.P T=false) (x:Operand) {f:FV} (ex:s.ev x=.iface T f) (hn:f.hand=none) :
  yy c w0 J s a ⟨dst,.typeAssert x T2 T false,ty,pos,after,g⟩ w f []:=by
 have hr:=h.aV ex rfl;generalize hx:a.eval x=v at hr;cases hr with
 | iface t v f hr =>
  refine .rd h (v:=v) ?_ hr hn;obtain ⟨d,i,z,ht⟩:=c.get rfl hk;unfold Zn at di;rw [ht.u] at di;cases d <;> first|(cases di;done)|(simp [execOp,Instr.typeAssert,run_underlying ht.u,hx];done)
inductive UX (s:ab):FV→Bool→Prop where
 | nil:UX s .nil true
 | own (id aa o n:Nat) (hl:s.live id aa) (hn:0<n):UX s (.own id aa o n) false
 | list (sz:Nat) (es:List (List FV)) (hn:es ≠ []):UX s (.list sz es) false
theorem FR.lJ (h:FR c.N w0 J s a w β) {f:FV} (ex:s.ev x=f) (hb:UX s f b):∃ A n cc,a.eval x=.slice A n cc∧A.isNone=b:=by
 cases hb with
 | nil => exact ⟨none, 0, 0, h.cp ex, rfl⟩
 | own id aa o n hl hn =>
  obtain ⟨A,cc,e1,e2,e3,e4,e5⟩:=(h.bu ex hl.1 hl.2).ex;refine ⟨A,n,cc,e1,?_⟩;cases hb:β id with
  | none => obtain ⟨_, q⟩ := e4 hb; omega
  | some b => obtain ⟨o', rfl, _⟩ := e5 b hb; rfl
 | list sz es hn=>
  have hr:=h.aV ex rfl;generalize hx:a.eval x=v at hr;cases hr with
  | list A m cc sz es us hm hc hw ho hA hl iw =>
   refine ⟨A,m,cc,rfl,?_⟩;obtain ⟨b,off,rfl,_⟩:=hA (fun e=>hn (xJ zc));rfl
theorem tA (h:FR c.N w0 J s a w β) (op:BinOp) {T2 e:Nat} (hT:(c.ty T).k=.slice e) (x y:Operand) {f:FV} (ex:s.ev x=f) (hb:UX s f b) (ey:s.ev y=.nil) (bK:op=.eql∨op=.neq) :
  yy c w0 J s a ⟨dst,.binOp op T x y T2,ty,pos,after,g⟩ w (.bool (if op=.eql then b else !b)) []:=by
 obtain ⟨dd,ii,z,ht⟩:=c.get hT zd;have hd:=ht.k;rw [hT] at hd;obtain rfl:=zZ hd;obtain ⟨A,n,cc,e1,rfl⟩:=h.lJ ex hb;have e2:=h.cp ey;have heq:(Op.equalIn Op.maxDepth T (.slice A n cc) (.slice none 0 0)).run c.P w=.ok A.isNone w:=by
  show (Op.equalIn (9999+1) T (.slice A n cc) (.slice none 0 0)).run c.P w=_;unfold Op.equalIn;cases A <;> simp [run_underlying ht.u]
 refine .rd h (v:=.bool (if op=.eql then A.isNone else !A.isNone)) ?_ (.bool _) rfl;rcases bK with rfl|rfl
 ·simp [execOp,e1,e2,eqGuard,binOp,Op.equal,heq]
 ·simp [execOp,e1,e2,eqGuard,binOp,Op.equal,heq]
end
def p9 (P:Program) (T:Nat) (X Y:List FV) (b:Bool):Prop:=P.eqGuardType P.depth T=false∧∀ w:World,(Op.equalIn 10000 T (.agg (X.map FV.bW).toArray) (.agg (Y.map FV.bW).toArray)).run P w=.ok b w
theorem tz {w0:World} {s:ab} (h:FR c.N w0 J s a w β) (op:BinOp) {T T2:TypeId} (x y:Operand) {X Y:List FV} (ex:s.ev x=.agg X) (hX:X.all FV.aB=true) (ey:s.ev y=.agg Y) (hY:Y.all FV.aB=true) (hl:p9 c.P T X Y b) (bK:op=.eql∨op=.neq) :
  yy c w0 J s a ⟨dst,.binOp op T x y T2,ty,pos,after,g⟩ w (.bool (if op=.eql then b else !b)) []:=by
 have e1:a.eval x=.agg (X.map FV.bW).toArray:=(h.aV ex rfl).bR hX;have e2:a.eval y=.agg (Y.map FV.bW).toArray:=(h.aV ey rfl).bR hY;obtain ⟨h1,h2⟩:=hl;have h3:=fun op=>run_eqGuard_agg (P:=c.P) (w:=w) op T x y (X.map FV.bW).toArray (Y.map FV.bW).toArray h1;rcases bK with rfl|rfl
 ·refine .rd h (v:=.bool b) ?_ (.bool _) rfl;simp only [execOp,e1,e2,xf,h3,xW,run_eql_struct,h2,xg]
 ·refine .rd h (v:=.bool (!b)) ?_ (.bool _) rfl;simp only [execOp,e1,e2,xf,h3,xW,run_neq_struct,h2,xg]
def lW (P:Program) (f:Nat):Bool:=
 match P.funcs[f]? with
 | some fn => fn.body.isSome && fn.name != "runtime.NumGoroutine"
 | none => false
inductive VP where
 | fr|sh|ow (E sz:Nat)
 deriving DecidableEq,Inhabited
def mr (w w' : World) (I:Nat→Prop):VP→Value→FV→Prop
 | .fr, v, f => Rd w' (fun b => w.heap.size ≤ b ∧ b<w'.heap.size) v f
 | .sh, v, f => Rd w' (fun b => I b ∨ (w.heap.size ≤ b ∧ b<w'.heap.size)) v f
 | .ow E sz, v, f => ∃ es us, f=.list sz es ∧ (∀ e ∈ es, e.length=sz) ∧ (∀ f ∈ es.flatten, f.one=true) ∧ w'.ownsRow w.heap.size E sz v es.length us ∧ az w' (fun b => w.heap.size ≤ b ∧ b<w'.heap.size ∧ v.ownBlock ≠ some b) us es.flatten
structure zQ (P:Program) (f:Nat) (args:List FV) (m:VP) (res:FV):Prop where
 go:lW P f=true
 hand:res.hand=none
 calls:∀ (w:World) (I:Nat→Prop) (vs:List Value),(∀ b,I b→b<w.heap.size)→az w I vs args→Calls P f vs.toArray w fun e w'=>∃ v,e=.returned v∧Below w.heap.size w w'∧mr w w' I m v res
inductive FV.le:FV→FV→Prop where
 | refl (f:FV):FV.le f f
 | undef (f:FV):FV.le f .undef
 | nil (sz:Nat):FV.le .nil (.list sz [])
 | kR {fs gs:List FV} (hl:fs.length=gs.length) (h:∀ (j:Nat) f g, fs[j]? = some f → gs[j]? = some g → FV.le f g):FV.le (.agg fs) (.agg gs)
 | lO {fs gs:List FV} (hl:fs.length=gs.length) (h:∀ (j:Nat) f g, fs[j]? = some f → gs[j]? = some g → FV.le f g):FV.le (.bG fs) (.bG gs)
inductive ea:List FV→List FV→Prop where
 | nil:ea [] []
 | cons {f g:FV} {fs gs:List FV} (h:FV.le f g) (hs:ea fs gs):ea (f :: fs) (g :: gs)
theorem ea.get {fs gs:List FV} (h:ea fs gs):fs.length=gs.length∧∀ (j:Nat) f g,fs[j]? = some f→gs[j]? = some g→FV.le f g:=by
 induction h with
 | nil => exact ⟨rfl, by simp⟩
 | cons h hs ih =>
  refine ⟨by simp [ih.1],fun j f g hf hg=>?_⟩;cases j with
  | zero => simp at hf hg; subst hf; subst hg; exact h
  | succ j => exact ih.2 j f g (by simpa using hf) (by simpa using hg)
theorem FV.le.agg {fs gs:List FV} (h:ea fs gs):FV.le (.agg fs) (.agg gs):=.kR h.get.1 h.get.2
theorem FV.le.bG {fs gs:List FV} (h:ea fs gs):FV.le (.bG fs) (.bG gs):=.lO h.get.1 h.get.2
theorem Rd.le {f g:FV} (h:FV.le f g):∀ {v:Value},Rd w I v f→Rd w I v g:=by
 induction h with
 | refl f => exact id
 | undef f => exact fun _ => .undef _
 | nil sz => intro v h; cases h; exact .list none 0 0 sz [] [] rfl (zm _) zd zd zd zd zd
 | @kR fs gs hl h ih=>
  intro v hv;cases hv with
  | agg us fs bf hr =>
   refine .agg us gs (bf.trans hl) fun j u g hu hg=>?_;have hj:j<fs.length:=by rw [hl];exact (zK.1 hg).1
   exact ih j fs[j] g (by simp [hj]) hg (hr j u _ hu (by simp [hj]))
 | @lO fs gs hl h ih=>
  intro v hv;cases hv with
  | bG us fs bf hr =>
   refine .bG us gs (bf.trans hl) fun j u g hu hg=>?_;have hj:j<fs.length:=by rw [hl];exact (zK.1 hg).1
   exact ih j fs[j] g (by simp [hj]) hg (hr j u _ hu (by simp [hj]))
inductive Xf (s:ab) (m:VP):FV→FV→Prop where
 | plain (f:FV) (hn:f.hand=none):Xf s m f f
 | nil (sz:Nat):Xf s m .nil (.list sz [])
 | sub (f g:FV) (hn:f.hand=none) (hle:FV.le f g):Xf s m f g
 | own (id aa o n:Nat) (hl:s.live id aa) (a9:(s.ob id).ag.row=true) (hm:m=.sh → (s.ob id).ag=.shut):Xf s m (.own id aa o n) (.list (s.ob id).sz (((s.ob id).es.drop o).take n))
inductive xU (s:ab) (m:VP):List Operand→List FV→Prop where
 | nil:xU s m [] []
 | cons {x:Operand} {xs:List Operand} {g:FV} {gs:List FV} (h:Xf s m (s.ev x) g) (hs:xU s m xs gs):xU s m (x :: xs) (g :: gs)
section
variable {c:Ctx} {w0 w:World} {J:JJ} {s:ab} {a:Act} {β:Nat→Option Nat}
def gq (J:JJ) (w:World) (β:Nat→Option Nat) (s:ab) (m:VP) (b:Nat):Prop:=if m=.sh then aK J w β s b else b<w.heap.size
theorem FR.arg (h:FR c.N w0 J s a w β) {m:VP} {g:FV} (hx:Xf s m (s.ev x) g):Rd w (gq J w β s m) (a.eval x) g:=by
 have lh:∀ b,aK J w β s b→gq J w β s m b∧w.heap[b]? = w.heap[b]?:=fun b hb=>by
  unfold gq;split
  ·exact ⟨hb,rfl⟩
  ·exact ⟨hb.1,rfl⟩
 generalize hf:s.ev x=f at hx;cases hx with
 | plain f hn => exact (h.aV hf hn).mono lh
 | sub f g hn hle => exact ((h.aV hf hn).mono lh).le hle
 | nil sz =>
  rw [h.cp hf];exact .list none 0 0 sz [] [] rfl (zm _) zd zd zd zd zd
 | own id aa o n hl a9 hm=>
  obtain ⟨A,cc,e1,e2,e3,e4,e5⟩:=(h.bu hf hl.1 hl.2).ex;obtain ⟨hw,bj,A',vY,us,lY,v9,hr,wg,aO⟩:=h.src hf (Src.own id aa o n hl a9);rw [e1] at lY ⊢;injection lY with k1 k2 k3
  subst k1;refine .list A n cc _ _ us k2.symm e2 hw bj (fun h0=>?_) hr.1 (hr.mono lh).2;cases hb:β id with
  | none => have := (e4 hb).2; omega
  | some b=>
   obtain ⟨o',rfl,_⟩:=e5 b hb;refine ⟨b,o',rfl,?_,fun j u hu=>by have:=aO _ rfl j u hu;rwa [yD] at this⟩;have aM:=((h.obj id hl.1).lt hb).2;unfold gq;split
   ·rename_i rv;have lF:=hm rv;refine ⟨aM,h.fresh b ((h.obj id hl.1).lt hb).1 (.inr ⟨id,hl.1,hb⟩),fun aN bf e=>?_⟩;have:=h.inj id aN b hl.1 (yT.bg bf) hb e;subst this;rw [lF] at bf;cases bf
   ·exact aM
theorem FR.args (h:FR c.N w0 J s a w β) {m:VP}:∀ {xs:List Operand} {gs:List FV},xU s m xs gs→az w (gq J w β s m) (xs.map a.eval) gs
 | _, _, .nil => az.nil
 | _, _, .cons hx hs => az.cons (h.arg hx) (h.args hs)
theorem Xe {P:Program} {f:Nat} (hg:lW P f=true) (args:Array Value) (w:World):(callFunc f args).run P w=.ok (.enter f args) w:=by
 unfold lW at hg;cases hf:P.funcs[f]? with
 | none => rw [hf] at hg; cases hg
 | some fn =>
  rw [hf] at hg;simp only [zC,bne_iff_ne,ne_eq] at hg;have hb:fn.body≠none:=fun e=>by rw [e] at hg;cases hg.1
  have hp:(program:Sem Program).run P w=.ok P w:=rfl;simp [callFunc,hp,hf,hg.2,hb]
theorem pU (h:FR c.N w0 J s a w β) {f:Nat} {ts:Array TypeId} {m:VP} {gs:List FV} {res:FV} (hs:zQ c.P f gs m res) (hx:xU s m xs.toList gs) {ty:TypeId} {pos:String} {after:Array Edge} {g:Option (Nat×Bool)}
{Q : Exit→Act→World→Prop} (hK:∀ v w',Below w.heap.size w w'→mr w w' (gq J w β s m) m v res→K (a.put dst v) w') :
   (⟨dst,.call { callee:=.value (.func f),args:=xs,argTypes:=ts },ty,pos,after,g⟩:Oper).wp c.P a w K Q:=by
 have lj:∀ b,gq J w β s m b→b<w.heap.size:=fun b hb=>by
  unfold gq at hb;split at hb
  ·exact hb.1
  ·exact hb
 have hc:=hs.calls w (gq J w β s m) (xs.toList.map a.eval) lj (h.args hx);have bB:(xs.toList.map a.eval).toArray=xs.map a.eval:=by
  apply Yg;simp
 rw [bB] at hc;unfold Oper.wp;have bm:(execOp a.eval ⟨dst,.call { callee:=.value (.func f),args:=xs,argTypes:=ts },ty,pos,after,g⟩).run c.P w=.ok (.enter f (xs.map a.eval)) w:=by
  have:=Xe (P:=c.P) hs.go (xs.map a.eval) w;simp [execOp,resolve,Act.eval,Deferred.ofValue,invoke,this]
 rw [bm,Oper.upon_enter];refine hc.mono ?_;rintro e w' ⟨v,rfl,hb,hr⟩;exact hK v w' hb hr
end
section
variable {c:Ctx} {w0 w:World} {J:JJ} {s:ab} {a:Act} {β:Nat→Option Nat}
theorem uv (h:FR c.N w0 J s a w β) {f:Nat} {ts:Array TypeId} {gs aI:List FV} {res:FV} (ex:s.ev x=.fn f aI) (hs:zQ c.P f (gs++aI) .fr res) (hx:xU s .fr xs.toList gs) {ty:TypeId} {pos:String} {after:Array Edge} {g:Option (Nat×Bool)}
{Q : Exit→Act→World→Prop} (hK:∀ v w',Below w.heap.size w w'→mr w w' (fun b=>b<w.heap.size) .fr v res→K (a.put dst v) w') :
   (⟨dst,.call { callee:=.value x,args:=xs,argTypes:=ts },ty,pos,after,g⟩:Oper).wp c.P a w K Q:=by
 have mg:=h.args hx;have hl:∀ b,gq J w β s .fr b→b<w.heap.size:=fun b hb=>by simpa [gq] using hb
 have hv:=VR.rd (by have:=h.ev x;rwa [ex] at this) rfl;generalize j2:a.eval x=v at hv;cases hv with
 | fn f us fs iL rD=>
  have cH:az w (fun b=>b<w.heap.size) us aI:=⟨iL,fun j u q hu hq=>Rd.mono (fun b hb=>⟨hb.1,rfl⟩) (rD j u q hu hq)⟩
  have mN:az w (fun b=>b<w.heap.size) (xs.toList.map a.eval) gs:=⟨mg.1,fun j u q hu hq=>Rd.mono (fun b hb=>⟨hl b hb,rfl⟩) (mg.2 j u q hu hq)⟩
  have hc:=hs.calls w (fun b=>b<w.heap.size) (xs.toList.map a.eval++us) (fun b hb=>hb) (mN.append cH);have bB:(xs.toList.map a.eval++us).toArray=xs.map a.eval++us.toArray:=by
   apply Yg;simp
  rw [bB] at hc;unfold Oper.wp;have bm:(execOp a.eval ⟨dst,.call { callee:=.value x,args:=xs,argTypes:=ts },ty,pos,after,g⟩).run c.P w=.ok (.enter f (xs.map a.eval++us.toArray)) w:=by
   have:=Xe (P:=c.P) hs.go (xs.map a.eval++us.toArray) w;simp [execOp,resolve,j2,Deferred.ofValue,invoke,this]
  rw [bm,Oper.upon_enter];refine hc.mono ?_;rintro e w' ⟨v,rfl,hb,hr⟩;exact hK v w' hb hr
theorem sB (hF:FR c.N w0 J s a w β) {f:Nat} {aI:List FV} (hx:xs.toList.map s.ev=aI) (hc:∀ g∈aI,g.hand=none) :
  yy c w0 J s a ⟨dst,.makeFunc (.func f) #[] xs,ty,pos,after,g⟩ w (.fn f aI) []:=by
 have hl:az w (aK J w β s) (xs.toList.map a.eval) aI:=by
  subst hx;refine ⟨by simp,fun j u q hu hq=>?_⟩;rw [yW] at hu hq;cases nI:xs.toList[j]? with
  | none => rw [nI] at hu; cases hu
  | some y =>
   rw [nI] at hu hq;simp only [xe,zI] at hu hq;subst hu;subst hq;exact VR.rd (hF.ev y) (hc _ (zM.2 ⟨y,zH nI,rfl⟩))
 have hv:(xs.toList.map a.eval).toArray=xs.map a.eval:=by apply Yg;simp
 exact .rd hF (v:=.func (.func f) #[] (xs.map a.eval)) (by simp [execOp,Instr.makeFunc]) (by rw [← hv];exact .fn f _ _ hl.1 hl.2) rfl
end
def Vg (op:Op):Prop:=(∃ T x y,op=.store T x y)∨∃ T x y z,op=.mapUpdate T x y z
def YX:Op→Bool
 | .move _ => true
 | .assign _ => true
 | _ => false
def Zr (s:ab) (d:Nat) (op:Op):List Nat:=d::bif YX op then [] else op.operands.toList.filterMap fun x=>(s.ev x).hand.map (·.1)
theorem uy (s:ab) (d:Nat) (op:Op):d∈Zr s d op:=List.mem_cons_self
theorem XG {s:ab} (bF:YX op=false) (hx:x∈op.operands.toList) {id:Nat} (h:(s.ev x).hand=some (id,aa)):id∈Zr s d op:=by
 unfold Zr;rw [bF];exact Xu _ (Zi.2 ⟨x,hx,by rw [h];rfl⟩)
inductive av (c:Ctx) (s:ab) (d:Nat):Op→FV→List (Nat×yb)→Prop where
 | move (x:Operand):av c s d (.move x) (s.ev x) []
 | assign (x:Operand):av c s d (.assign x) (s.ev x) []
 | pick (eQ x y:Operand) {b:Bool} (hb:s.ev eQ=.bool b):av c s d (.pick eQ x y) (if b then s.ev x else s.ev y) []
 | cd (op:BinOp) (T T2:TypeId) (x y:Operand) {k:IntKind} {m n:Int} {f:FV} (ex:s.ev x=.int k m) (ey:s.ev y=.int k n) (hf:cd op k m n=some f):av c s d (.binOp op T x y T2) f []
 | iM (op:BinOp) (T T2:TypeId) (x y:Operand) {k:IntKind} {m n:Int} (ex:s.ev x=.int k m) (ey:s.ev y=.int k n) (hn:n ≠ 0) (bK:op=.quo ∨ op=.rem):av c s d (.binOp op T x y T2) (.int k (if op=.quo then k.wrap (m.tdiv n) else m.tmod n)) []
 | jF (op:BinOp) {T T2:TypeId} (x y:Operand) {m n:Bool} (hT:(c.ty T).k=.bool) (ex:s.ev x=.bool m) (ey:s.ev y=.bool n) (bK:op=.eql ∨ op=.neq):av c s d (.binOp op T x y T2) (.bool (if op=.eql then m == n else m != n)) []
 | not (T:TypeId) (x:Operand) {b:Bool} (ex:s.ev x=.bool b):av c s d (.unOp .not T x) (.bool (!b)) []
 | shift (op:BinOp) (T T2:TypeId) (x y:Operand) {k yk:IntKind} {m n:Int} (ex:s.ev x=.int k m) (ey:s.ev y=.int yk n) (hn:0 ≤ n) (bK:op=.shl ∨ op=.shr):av c s d (.binOp op T x y T2) (.int k (if op=.shl then k.wrap (m * 2 ^ (min n.toNat k.bits)) else m.fdiv (2 ^ (min n.toNat k.bits)))) []
 | conv {T T2:TypeId} {k2:IntKind} (hT:(c.ty T).k ≠ .other) (jI:(c.ty T2).k=.int k2) (x:Operand) {k:IntKind} {n:Int} (ex:s.ev x=.int k n):av c s d (.convert T T2 x) (.int k2 (k2.wrap n)) []
 | neg (T:TypeId) (x:Operand) {k:IntKind} {n:Int} (ex:s.ev x=.int k n):av c s d (.unOp .neg T x) (.int k (k.wrap (-n))) []
 | min2 (bi:Builtin) (T T2:TypeId) (x y:Operand) {k:IntKind} {m n:Int} (ex:s.ev x=.int k m) (ey:s.ev y=.int k n) (eL:bi=.min∨bi=.max) :
   av c s d (.call { callee:=.builtin bi,args:=#[x,y],argTypes:=#[T,T2] }) (.int k (if bi=.min then (if n<m then n else m) else (if m<n then n else m))) []
 | eB {T e:TypeId} (hT:(c.ty T).k=.slice e) (x:Operand) {id aa o n:Nat} (ex:s.ev x=.own id aa o n) (hl:s.live id aa):av c s d (.call { callee := .builtin .len, args := #[x], argTypes := #[T] }) (.int .i64 n) []
 | dz {T e:TypeId} (hT:(c.ty T).k=.slice e) (x:Operand) {sz:Nat} {es:List (List FV)} (ex:s.ev x=.list sz es):av c s d (.call { callee := .builtin .len, args := #[x], argTypes := #[T] }) (.int .i64 es.length) []
 | eA {T e:TypeId} (hT:(c.ty T).k=.slice e) (x:Operand) (ex:s.ev x=.nil):av c s d (.call { callee := .builtin .len, args := #[x], argTypes := #[T] }) (.int .i64 0) []
 | cP {T ft i off:Nat} {fs:List (Nat×Nat)} (hT:(c.ty T).k=.au fs) (hf:fs[i]? = some (off,ft)) (dG:(c.ty ft).k≠.other) (aF:(c.ty ft).size≠0) (x:Operand) {id aa j o:Nat} (ex:s.ev x=.ptr id aa j o) (hl:s.live id aa) :
   av c s d (.fieldAddr T x i) (.ptr id aa j (o+off)) []
 | cy {T ft i off:Nat} {fs:List (Nat×Nat)} (hT:(c.ty T).k=.au fs) (hf:fs[i]? = some (off,ft)) (dG:(c.ty ft).k≠.other) (aF:(c.ty ft).size≠0) (x:Operand) {sz j o:Nat} {es:List (List FV)} (ex:s.ev x=.aH sz es j o) :
   av c s d (.fieldAddr T x i) (.aH sz es j (o+off)) []
 | cA {T e:Nat} (hT:(c.ty T).k=.slice e) (he:(c.ty e).k≠.other) (x y:Operand) {sz:Nat} {es:List (List FV)} {k:IntKind} {n:Nat} (ex:s.ev x=.list sz es) (aF:(c.ty e).size=sz) (ey:s.ev y=.int k n) (h1:n<es.length) :
   av c s d (.indexAddr T x y) (.aH sz es n 0) []
 | cX {T e:Nat} (hT:(c.ty T).k=.slice e) (he:(c.ty e).k≠.other) (x y:Operand) {id aa o m:Nat} {k:IntKind} {n:Nat} (ex:s.ev x=.own id aa o m) (hl:s.live id aa) (aF:(c.ty e).size=(s.ob id).sz) (ey:s.ev y=.int k n) (h1:n<m) :
   av c s d (.indexAddr T x y) (.ptr id aa (o+n) 0) []
 | dg {T m e:Nat} (hT:(c.ty T).k=.arr m e) (he:(c.ty e).k≠.other) (x y:Operand) {id aa j o:Nat} {k:IntKind} {n:Nat} (ex:s.ev x=.ptr id aa j o) (hl:s.live id aa) (ey:s.ev y=.int k n) (h1:n<m) :
   av c s d (.indexAddr T x y) (.ptr id aa j (o+n * (c.ty e).size)) []
 | cL {T m e:Nat} (hT:(c.ty T).k=.arr m e) (he:(c.ty e).k≠.other) (x y:Operand) {sz j o:Nat} {es:List (List FV)} {k:IntKind} {n:Nat} (ex:s.ev x=.aH sz es j o) (ey:s.ev y=.int k n) (h1:n<m) :
   av c s d (.indexAddr T x y) (.aH sz es j (o+n * (c.ty e).size)) []
 | cw {T:Nat} {bb:Bool} (hk:(c.ty T).k.aQ = some bb) (x:Operand) {sz j o:Nat} {es:List (List FV)} (ex:s.ev x=.aH sz es j o) (hj:j<es.length) (ho:o+(c.ty T).size ≤ sz) (dI : o<sz):av c s d (.load T x) (xB (c.ty T) ((es.getD j []).drop o)) []
 | cY {T:Nat} {bb:Bool} (hk:(c.ty T).k.aQ = some bb) (x:Operand) {id aa j o:Nat} (ex:s.ev x=.ptr id aa j o) (hl:s.live id aa) (a9:(s.ob id).ag.row=true) (hj:j<(s.ob id).es.length) (ho:o+(c.ty T).size≤(s.ob id).sz) (dI : o<(s.ob id).sz) :
   av c s d (.load T x) (xB (c.ty T) (((s.ob id).es.getD j []).drop o)) []
 | store {T:Nat} (hk:(c.ty T).k≠.other) (x y:Operand) {id aa j o:Nat} (ex:s.ev x=.ptr id aa j o) (hl:(s.ob id).ag=.own) (hv:(s.ob id).aa=aa) {f:FV} (ey:s.ev y=f) (hf:f.cells.all FV.one=true) (bJ:f.cells.length=(c.ty T).size)
   (hj:j<(s.ob id).es.length) (ho:o+(c.ty T).size≤(s.ob id).sz):av c s d (.store T x y) .undef [(id,{ s.ob id with es:=(s.ob id).es.set j (ah ((s.ob id).es.getD j []) o f.cells) })]
 | alloc {T:Nat} (hk:(c.ty T).k ≠ .other) (hz:(c.ty T).zero.all FV.one=true):av c s d (.alloc T) (.ptr d ((s.ob d).aa+1) 0 0) [(d, ⟨(s.ob d).aa+1, .own, T, (c.ty T).zero.length, [(c.ty T).zero]⟩)]
 | box {T:Nat} (x:Operand) {f:FV} (ex:s.ev x=f) (hf:f.cells.all FV.one=true):av c s d (.box T x) (.ptr d ((s.ob d).aa+1) 0 0) [(d, ⟨(s.ob d).aa+1, .own, T, f.cells.length, [f.cells]⟩)]
 | build {T:Nat} {fs:List (Nat×Nat)} (hT:(c.ty T).k=.au fs) (gm:∀ p∈fs,(c.ty p.2).k≠.other) (ps:Array (Nat×Operand)) {cs:List FV} (hf:xG (fun i=>(fs[i]?).map fun p=>(p.1,(c.ty p.2).size)) (c.ty T).zero (s.parts ps)=some cs) :
   av c s d (.build T ps) (.agg cs) []
 | e8 {T n e:Nat} (hT:(c.ty T).k=.arr n e) (he:(c.ty e).k ≠ .other) (ps:Array (Nat × Operand)) {cs:List FV} (hf:xG (fun i => some (i * (c.ty e).size, (c.ty e).size)) (c.ty T).zero (s.parts ps)=some cs):av c s d (.build T ps) (.agg cs) []
 | buildSlice {T e n:Nat} (hT:(c.ty T).k=.slice e) (he:(c.ty e).k≠.other) (ps:Array (Nat×Operand)) (es:List (List FV)) (hn:es.length=n) (hw:∀ x∈es,x.length=(c.ty e).size) (ho:∀ f∈es.flatten,f.one=true) (cH:n * (c.ty e).size≤16777216) (gY:n≤16777216)
   (hf:xG (fun i=>some (i * (c.ty e).size,(c.ty e).size)) (List.replicate (n * (c.ty e).size) .undef) (s.parts ps)=some es.flatten):av c s d (.buildSlice T n ps) (.own d ((s.ob d).aa+1) 0 n) [(d,⟨(s.ob d).aa+1,.own,e,(c.ty e).size,es⟩)]
 | bI {T e n:Nat} (hT:(c.ty T).k=.slice e) (he:(c.ty e).k≠.other) (ps:Array (Nat×Operand)) (es:List (List FV)) (hn:es.length=n) (hw:∀ x∈es,x.length=(c.ty e).size) (ho:∀ f∈es.flatten,f.one=true) (cH:n * (c.ty e).size≤16777216) (gY:n≤16777216)
   (hf:xG (fun i=>some (i * (c.ty e).size,(c.ty e).size)) (List.replicate (n * (c.ty e).size) .undef) (s.parts ps)=some es.flatten):av c s d (.buildSlice T n ps) (.list (c.ty e).size es) []
 | makeSlice {T e n:Nat} (hT:(c.ty T).k=.slice e) (he:(c.ty e).k≠.other) (x y:Operand) {k1 k2:IntKind} (ex:s.ev x=.int k1 n) (ey:s.ev y=.int k2 n) (ho:(c.ty e).zero.all FV.one=true) (hb:(c.ty e).bytes * n≤281474976710656) (hn:n≤281474976710656) :
   av c s d (.makeSlice T x y) (.own d ((s.ob d).aa+1) 0 n) [(d,⟨(s.ob d).aa+1,.own,e,(c.ty e).size,List.replicate n (c.ty e).zero⟩)]
 | dR {T e:Nat} (hT:(c.ty T).k=.slice e) (he:(c.ty e).k≠.other) (x:Operand) (lo hi:Option Operand) {id aa o m l u:Nat} (ex:s.ev x=.own id aa o m) (hl:s.live id aa) (aF:(c.ty e).size=(s.ob id).sz) (cS:s.lo lo l) (ct:s.hi hi m u) (h1:l≤u) (h2:u≤m) :
   av c s d (.slice T x lo hi none) (.own id aa (o+l) (u - l)) []
 | cC {T e:Nat} (hT:(c.ty T).k=.slice e) (he:(c.ty e).k≠.other) (x:Operand) (lo hi:Option Operand) {sz l u:Nat} {es:List (List FV)} (ex:s.ev x=.list sz es) (aF:(c.ty e).size=sz) (cS:s.lo lo l) (ct:s.hi hi es.length u) (h1:l≤u) (h2:u≤es.length) :
   av c s d (.slice T x lo hi none) (.list sz ((es.drop l).take (u - l))) []
 | dQ {T e:Nat} (hT:(c.ty T).k=.slice e) (he:(c.ty e).k ≠ .other) (x:Operand) (lo hi:Option Operand) (ex:s.ev x=.nil) (cS:s.lo lo 0) (ct:s.hi hi 0 0):av c s d (.slice T x lo hi none) .nil []
 | extract (x:Operand) {i:Nat} {fs:List FV} {f:FV} (ex:s.ev x=.bG fs) (hf:fs[i]? = some f) (hn:f.hand=none):av c s d (.extract x i) f []
 | nilPtr (x:Operand) {id aa i o:Nat} (ex:s.ev x=.ptr id aa i o) (hl:s.live id aa):av c s d (.nilCheck x) (.ptr id aa i o) []
 | eF (x:Operand) {sz i o:Nat} {es:List (List FV)} (ex:s.ev x=.aH sz es i o):av c s d (.nilCheck x) (.aH sz es i o) []
 | append {T e:Nat} (hT:(c.ty T).k=.slice e) (he:(c.ty e).k≠.other) (bh:0<(c.ty e).size) (x y:Operand) {f1 f2:FV} {bC ay:List (List FV)} {i:Option Nat} (ex:s.ev x=f1) (ey:s.ev y=f2) (h1:gy s f1 (c.ty e).size bC i) (hE:∀ k,i=some k→(s.ob k).E=e)
   (h2:Src s f2 (c.ty e).size ay) (hb:(bC.length+ay.length) * (c.ty e).bytes≤140737488355328) (hm:bC.length+ay.length≤140737488355328) :
   av c s d (.call { callee:=.builtin .append,args:=#[x,y],argTypes:=#[T,T] }) (.own d ((s.ob d).aa+1) 0 (bC++ay).length) (Zf s d e (c.ty e).size (bC++ay) i)
 | ef {T e:Nat} (hT:(c.ty T).k=.slice e) (he:(c.ty e).k≠.other) (bh:0<(c.ty e).size) (x y:Operand) {f1 f2:FV} {bC ay:List (List FV)} {i:Option Nat} (ex:s.ev x=f1) (ey:s.ev y=f2) (h1:gy s f1 (c.ty e).size bC i) (hE:∀ k,i=some k→(s.ob k).E=e)
   (h2:Src s f2 (c.ty e).size ay) (hb:(bC.length+ay.length) * (c.ty e).bytes≤140737488355328) (hm:bC.length+ay.length≤140737488355328) :
   av c s d (.call { callee:=.builtin .append,args:=#[x,y],argTypes:=#[T,T] }) (.list (c.ty e).size (bC++ay)) (Zf s d e (c.ty e).size (bC++ay) i++[(d,⟨(s.ob d).aa+1,.dead,e,(c.ty e).size,bC++ay⟩)])
 | call {f:Nat} {xs:Array Operand} {ts:Array TypeId} {m:VP} {gs:List FV} {res:FV} (hs:zQ c.P f gs m res) (hm:m=.fr ∨ m=.sh) (hx:xU s m xs.toList gs):av c s d (.call { callee := .value (.func f), args := xs, argTypes := ts }) res []
 | eP {f:Nat} {x:Operand} {xs:Array Operand} {ts:Array TypeId} {gs aI:List FV} {res:FV} (ex:s.ev x=.fn f aI) (hs:zQ c.P f (gs ++ aI) .fr res) (hx:xU s .fr xs.toList gs):av c s d (.call { callee := .value x, args := xs, argTypes := ts }) res []
 | dL {f:Nat} {xs:Array Operand} {aI:List FV} (hx:xs.toList.map s.ev=aI) (hc:∀ g ∈ aI, g.hand=none):av c s d (.makeFunc (.func f) #[] xs) (.fn f aI) []
 | eh {f:Nat} {xs:Array Operand} {ts:Array TypeId} {E sz:Nat} {gs:List FV} {es:List (List FV)} (hs:zQ c.P f gs (.ow E sz) (.list sz es)) (hx:xU s (.ow E sz) xs.toList gs) :
   av c s d (.call { callee:=.value (.func f),args:=xs,argTypes:=ts }) (.own d ((s.ob d).aa+1) 0 es.length) [(d,⟨(s.ob d).aa+1,.own,E,sz,es⟩)]
 | ee {T e:Nat} (hT:(c.ty T).k=.slice e) (he:(c.ty e).k≠.other) (bh:0<(c.ty e).size) (x y:Operand) {id aa o n:Nat} (ex:s.ev x=.own id aa o n) (aW:(s.ob id).ag=.roomy) (aA:(s.ob id).aa=aa)
   (hE:(s.ob id).E=e) (aF:(s.ob id).sz=(c.ty e).size) (eM:o+n=(s.ob id).es.length) {f2:FV} {ay:List (List FV)} (ey:s.ev y=f2) (h2:Src s f2 (c.ty e).size ay) (h1:ay.length=1) :
   av c s d (.call { callee:=.builtin .append,args:=#[x,y],argTypes:=#[T,T] }) (.own d ((s.ob d).aa+1) o (n+1)) [(id,{ s.ob id with ag:=.dead }),(d,⟨(s.ob d).aa+1,.own,e,(c.ty e).size,(s.ob id).es++ay⟩)]
 | ec {T e:Nat} (hT:(c.ty T).k=.slice e) (he:(c.ty e).k≠.other) (bh:0<(c.ty e).size) (x y:Operand) {id aa o n:Nat} (ex:s.ev x=.own id aa o n) (aW:(s.ob id).ag=.full) (aA:(s.ob id).aa=aa)
   (hE:(s.ob id).E=e) (aF:(s.ob id).sz=(c.ty e).size) (eM:o+n=(s.ob id).es.length) {f2:FV} {ay:List (List FV)} (ey:s.ev y=f2) (h2:Src s f2 (c.ty e).size ay) (h1:ay.length=1)
   (hb:(n+1) * (c.ty e).bytes≤140737488355328) (hm:n+1≤140737488355328) :
   av c s d (.call { callee:=.builtin .append,args:=#[x,y],argTypes:=#[T,T] }) (.own d ((s.ob d).aa+1) 0 (n+1)) [(id,{ s.ob id with ag:=.dead }),(d,⟨(s.ob d).aa+1,.own,e,(c.ty e).size,(s.ob id).es.drop o++ay⟩)]
 | h9 {T:Nat} (hk:(c.ty T).k.aQ = some false) (hz:(c.ty T).size=1) (x:Operand) {id aa j:Nat} (ex:s.ev x=.ptr id aa j 0) (aW:(s.ob id).ag=.aw) (aA:(s.ob id).aa=aa) (aF:(s.ob id).sz=1) {f:FV} (hj:(s.ob id).es[j]? = some [f]):av c s d (.load T x) f []
 | eI {T:Nat} (hk:(c.ty T).k≠.other) (hz:(c.ty T).size=1) (x y:Operand) {id aa j:Nat} (ex:s.ev x=.ptr id aa j 0) (aW:(s.ob id).ag=.aw) (aA:(s.ob id).aa=aa) (aF:(s.ob id).sz=1) {f:FV} (ey:s.ev y=f)
   (hf:UV s f) (hj:j<(s.ob id).es.length):av c s d (.store T x y) .undef [(id,{ s.ob id with es:=(s.ob id).es.set j [f] })]
 | copy {T T2 e:Nat} (hT:(c.ty T).k=.slice e) (he:(c.ty e).k≠.other) (hz:(c.ty e).size=1) (x y:Operand) {id aa o m:Nat} (ex:s.ev x=.own id aa o m) (aW:(s.ob id).ag=.own) (aA:(s.ob id).aa=aa) (aF:(s.ob id).sz=1) {f2:FV} {ay:List (List FV)} (ey:s.ev y=f2) (h2:Src s f2 1 ay) :
   av c s d (.call { callee:=.builtin .copy,args:=#[x,y],argTypes:=#[T,T2] }) (.int .i64 ((ay.take m).length:Nat)) [(id,{ s.ob id with es:=ah (s.ob id).es o (ay.take m) })]
 | eE {T:Nat} (hk:(c.ty T).k ≠ .other) (di:Zn c.P T=false) (x:Operand) {f:FV} (ex:s.ev x=f) (hn:f.hand=none):av c s d (.makeInterface T x) (.iface T f) []
 | dM {T:Nat} (hk:(c.ty T).k ≠ .other) (di:Zn c.P T=false) (x:Operand) {f:FV} (ex:s.ev x=f) (hn:f.bV=true):av c s d (.makeInterface T x) (.wrap (.mi T) [f]) []
 | eJ {T T2:Nat} (hk:(c.ty T).k ≠ .other) (di:Zn c.P T=false) (x:Operand) {f:FV} (ex:s.ev x=.iface T f) (hn:f.hand=none):av c s d (.typeAssert x T2 T false) f []
 | eC {f:Nat} {xs:Array Operand} {aI:List FV} (hx:xs.toList.map s.ev=aI) (hn:aI.all FV.bV=true):av c s d (.makeFunc (.func f) #[] xs) (.wrap (.fn f) aI) []
 | bound {f:Nat} {xs:Array Operand} {aI:List FV} (hx:xs.toList.map s.ev=aI) (hn:aI.all FV.bV=true):av c s d (.makeFunc (.func f) xs #[]) (.wrap (.bound f) aI) []
 | gD (op:BinOp) {T T2:Nat} (x y:Operand) {X Y:List FV} {b:Bool} (ex:s.ev x=.agg X) (hX:X.all FV.aB=true) (ey:s.ev y=.agg Y) (hY:Y.all FV.aB=true) (hl:p9 c.P T X Y b) (bK:op=.eql ∨ op=.neq):av c s d (.binOp op T x y T2) (.bool (if op=.eql then b else !b)) []
 | dC (op:BinOp) {T T2 e:Nat} (hT:(c.ty T).k=.slice e) (x y:Operand) {f:FV} {b:Bool} (ex:s.ev x=f) (hb:UX s f b) (ey:s.ev y=.nil) (bK:op=.eql ∨ op=.neq):av c s d (.binOp op T x y T2) (.bool (if op=.eql then b else !b)) []
 | makeMap (T:Nat):av c s d (.makeMap T none) (.omap d ((s.ob d).aa+1)) [(d, ⟨(s.ob d).aa+1, .aX, T, 0, []⟩)]
 | look {T k e:Nat} (hT:(c.ty T).k=.map k e) {bb:Bool} (he:(c.ty e).k.aQ = some bb) (K:Keyed c.P k) (x y:Operand) (ok:Bool) {es:List (List FV)} (ex:(∃ id aa,s.ev x=.omap id aa∧(s.live id aa∧(s.ob id).ag≠.bB)∧(s.ob id).es=es)∨s.ev x=.smap es)
   {kf:FV} (ey:s.ev y=kf) (hk:∀ row∈es,∀ kf,row.head? = some kf→ZV c.P k kf) (bZ:ZV c.P k kf) {vf:FV} {found:Bool} (hl:WE es kf (c.ty e).iR vf found) (hn:vf.hand=none):av c s d (.lookup T x y ok) (if ok then .bG [vf,.bool found] else vf) []
 | update {T k e:Nat} (hT:(c.ty T).k=.map k e) (K:Keyed c.P k) (x y z:Operand) {id aa:Nat} (ex:s.ev x=.omap id aa) (aW:(s.ob id).ag=.aX) (aA:(s.ob id).aa=aa)
   {kf vf:FV} (ey:s.ev y=kf) (ez:s.ev z=vf) (hk:∀ row∈(s.ob id).es,∀ kf,row.head? = some kf→ZV c.P k kf) (bZ:ZV c.P k kf) (hn:vf.hand=none) {aS : List (List FV)} (hs:lV (s.ob id).es kf vf aS) :
   av c s d (.mapUpdate T x y z) .undef [(id,{ s.ob id with es:=aS })]
 | fN {op:Op} {wr:List (Nat×yb)} (bF:YX op=false) (cU:Vg op) (hg:∀ s' : ab,(∀ x∈op.operands.toList,s'.ev x=s.ev x)→(∀ id∈Zr s d op,s'.ob id=s.ob id)→
   ∀ (w0:World) (J:JJ) (a:Act) (w:World) (β:Nat→Option Nat) (dst:Option Nat) (ty:TypeId) (pos:String) (after:Array Edge) (g:Option (Nat×Bool)),FR c.N w0 J s' a w β→
    ∃ w',(execOp a.eval ⟨dst,op,ty,pos,after,g⟩).run c.P w=.ok .skip w'∧FR c.N w0 J (s'.wr wr) a w' β):av c s d op .undef wr
 | ext {op:Op} {f:FV} {wr:List (Nat×yb)} (bF:YX op=false) (cU:¬ Vg op) (hg:∀ s' : ab,(∀ x∈op.operands.toList,s'.ev x=s.ev x)→(∀ id∈Zr s d op,s'.ob id=s.ob id)→
   ∀ (w0:World) (J:JJ) (a:Act) (w:World) (β:Nat→Option Nat) (ty:TypeId) (pos:String) (after:Array Edge) (g:Option (Nat×Bool)),d<c.N→FR c.N w0 J s' a w β→
    ∀ (K:Act→World→Prop) (Q:Exit→Act→World→Prop),(∀ a' w' aP,FR c.N w0 J ((s'.wr wr).put d f) a' w' aP→K a' w')→(⟨some d,op,ty,pos,after,g⟩:Oper).wp c.P a w K Q):av c s d op f wr
def ab.j9 (s:ab):Option Nat→FV→ab
 | some d, f => s.put d f
 | none, _ => s
def ab.app (s:ab) (dst:Option Nat) (f:FV) (wr:List (Nat×yb)):ab:=(s.wr wr).j9 dst f
section
variable {c:Ctx} {w0 w:World} {J:JJ} {s:ab} {a:Act} {β:Nat→Option Nat}
theorem yy.wp {o:Oper} {f:FV} {wr:List (Nat×yb)} (h:yy c w0 J s a o w f wr) (hd:∀ d,o.dst=some d→d<c.N) (hK:∀ a' w' aP,FR c.N w0 J (s.app o.dst f wr) a' w' aP→K a' w'):o.wp c.P a w K Q:=by
 obtain ⟨v,w',aP,hr,hF,hV,aA⟩:=h;unfold Oper.wp;rw [hr,Oper.upon_value];unfold ab.app at hK;cases hdd:o.dst with
 | none => rw [hdd] at hK; exact hK _ _ _ hF
 | some d => rw [hdd] at hK; exact hK _ _ _ (hF.put (hd d hdd) hV aA)
theorem av.sound {f:FV} {wr:List (Nat×yb)} (h:av c s d op f wr) (hF:FR c.N w0 J s a w β) (o:Oper) (ho:o.op=op) (hd:o.dst=some d∨(o.dst=none∧Vg op)) (aZ:∀ d,o.dst=some d→d<c.N)
(hK : ∀ a' w' aP,FR c.N w0 J (s.app o.dst f wr) a' w' aP→K a' w'):o.wp c.P a w K Q:=by
 obtain ⟨dst,ml,ty,pos,after,g⟩:=o;dsimp only at ho hd aZ hK;subst ho;by_cases bF:Vg ml
 ·rcases bF with ⟨T,x,y,rfl⟩|⟨T,x,y,z,rfl⟩
  ·cases h with
   | ext bF cU hg => exact absurd (.inl ⟨_, _, _, rfl⟩) cU
   | fN bF cU hg =>
    obtain ⟨w',h1,h2⟩:=hg s (fun _ _=>rfl) (fun _ _=>rfl) w0 J a w β dst ty pos after g hF;unfold Oper.wp;rw [h1,xV];unfold ab.app at hK;cases dst with
    | none => exact hK _ _ _ h2
    | some d => exact hK _ _ _ (h2.put (aZ d rfl) (VR.bk (.undef _) rfl) (fun id aa e => by cases e))
   | store hk x y ex hl hv ey hf bJ hj ho =>
    obtain ⟨w',h1,h2⟩:=tD (dst:=dst) (ty:=ty) (pos:=pos) (after:=after) (g:=g) hF hk x y ex hl hv ey hf bJ hj ho;unfold Oper.wp;rw [h1,xV];unfold ab.app at hK;cases dst with
    | none => exact hK _ _ _ h2
    | some d => exact hK _ _ _ (h2.put (aZ d rfl) (VR.bk (.undef _) rfl) (fun id aa e => by cases e))
   | eI hk hz x y ex aW aA aF ey hf hj =>
    obtain ⟨w',h1,h2⟩:=sC (dst:=dst) (ty:=ty) (pos:=pos) (after:=after) (g:=g) hF hk hz x y ex aW aA aF ey hf hj;unfold Oper.wp;rw [h1,xV];unfold ab.app at hK;cases dst with
    | none => exact hK _ _ _ h2
    | some d => exact hK _ _ _ (h2.put (aZ d rfl) (VR.bk (.undef _) rfl) (fun id aa e => by cases e))
  ·cases h with
   | ext bF cU hg => exact absurd (.inr ⟨_, _, _, _, rfl⟩) cU
   | fN bF cU hg =>
    obtain ⟨w',h1,h2⟩:=hg s (fun _ _=>rfl) (fun _ _=>rfl) w0 J a w β dst ty pos after g hF;unfold Oper.wp;rw [h1,xV];unfold ab.app at hK;cases dst with
    | none => exact hK _ _ _ h2
    | some d => exact hK _ _ _ (h2.put (aZ d rfl) (VR.bk (.undef _) rfl) (fun id aa e => by cases e))
   | update hT K x y z ex aW aA ey ez hk bZ hn hs =>
    obtain ⟨w',h1,h2⟩:=Wf (dst:=dst) (ty:=ty) (pos:=pos) (after:=after) (g:=g) hF hT K x y z ex aW aA ey ez hk bZ hn hs;unfold Oper.wp;rw [h1,xV];unfold ab.app at hK;cases dst with
    | none => exact hK _ _ _ h2
    | some d => exact hK _ _ _ (h2.put (aZ d rfl) (VR.bk (.undef _) rfl) (fun id aa e => by cases e))
 ·obtain rfl:dst=some d:=by
   rcases hd with h'|⟨_,h'⟩
   ·exact h'
   ·exact absurd h' bF
  cases h with
  | fN ry cU hg => exact absurd cU bF
  | ext bF cU hg => exact hg s (fun _ _ => rfl) (fun _ _ => rfl) w0 J a w β ty pos after g (aZ d rfl) hF K Q hK
  | move x => exact (uH hF x).wp aZ hK
  | assign x => exact (sx hF x).wp aZ hK
  | pick eQ x y hb => exact (uI hF eQ x y hb).wp aZ hK
  | cd op T T2 x y ex ey hf => exact (uD hF op T T2 x y ex ey hf).wp aZ hK
  | iM op T T2 x y ex ey hn bK => exact (uE hF op T T2 x y ex ey hn bK).wp aZ hK
  | jF op x y hT ex ey bK => exact (uA hF op x y hT ex ey bK).wp aZ hK
  | not T x ex => exact (tV hF T x ex).wp aZ hK
  | shift op T T2 x y ex ey hn bK => exact (tC hF op T T2 x y ex ey hn bK).wp aZ hK
  | conv hT jI x ex => exact (uB hF hT jI x ex).wp aZ hK
  | neg T x ex => exact (tU hF T x ex).wp aZ hK
  | min2 bi T T2 x y ex ey eL => exact (uG hF bi T T2 x y ex ey eL).wp aZ hK
  | eB hT x ex hl => exact (Un hF hT x ex hl).wp aZ hK
  | dz hT x ex => exact (Vw hF hT x ex).wp aZ hK
  | eA hT x ex => exact (Um hF hT x ex).wp aZ hK
  | cP hT hf dG aF x ex hl => exact (WH hF hT hf dG aF x ex hl).wp aZ hK
  | cy hT hf dG aF x ex => exact (Wa hF hT hf dG aF x ex).wp aZ hK
  | cA hT he x y ex aF ey h1 => exact (Wc hF hT he x y ex aF ey h1).wp aZ hK
  | cX hT he x y ex hl aF ey h1 => exact (WI hF hT he x y ex hl aF ey h1).wp aZ hK
  | dg hT he x y ex hl ey h1 => exact (Wb hF hT he x y ex hl ey h1).wp aZ hK
  | cL hT he x y ex ey h1 => exact (Xi hF hT he x y ex ey h1).wp aZ hK
  | cw hk x ex hj ho dI => exact (WJ hF hk x ex hj ho dI).wp aZ hK
  | cY hk x ex hl a9 hj ho dI => exact (YE hF hk x ex hl a9 hj ho dI).wp aZ hK
  | store hk x y ex hl hv ey hf bJ hj ho => exact absurd (.inl ⟨_, _, _, rfl⟩) bF
  | eI hk hz x y ex aW aA aF ey hf hj => exact absurd (.inl ⟨_, _, _, rfl⟩) bF
  | h9 hk hz x ex aW aA aF hj => exact (tB hF hk hz x ex aW aA aF hj).wp aZ hK
  | ee hT he bh x y ex aW aA hE aF eM ey h2 h1 => exact (Uj hF d hT he bh x y ex aW aA hE aF eM ey h2 h1).wp aZ hK
  | ec hT he bh x y ex aW aA hE aF eM ey h2 h1 hb hm => exact (Ui hF d hT he bh x y ex aW aA hE aF eM ey h2 h1 hb hm).wp aZ hK
  | update hT K x y z ex aW aA ey ez hk bZ hn hs => exact absurd (.inr ⟨_, _, _, _, rfl⟩) bF
  | makeMap T => exact (Xa hF d T).wp aZ hK
  | look hT he K x y ok ex ey hk bZ hl hn => exact (uF hF hT he K x y ok ex ey hk bZ hl hn).wp aZ hK
  | alloc hk hz => exact (tu hF d hk hz).wp aZ hK
  | box x ex hf => exact (tT hF d x ex hf).wp aZ hK
  | build hT gm ps hf => exact (tx hF hT gm ps hf).wp aZ hK
  | e8 hT he ps hf => exact (sy hF hT he ps hf).wp aZ hK
  | buildSlice hT he ps es hn hw ho cH gY hf => exact (XZ hF d hT he ps es hn hw ho cH gY hf).wp aZ hK
  | bI hT he ps es hn hw ho cH gY hf => exact (Xh hF d hT he ps es hn hw ho cH gY hf).wp aZ hK
  | makeSlice hT he x y ex ey ho hb hn => exact (WK hF d hT he x y ex ey ho hb hn).wp aZ hK
  | dR hT he x lo hi ex hl aF cS ct h1 h2 => exact (WN hF hT he x lo hi ex hl aF cS ct h1 h2).wp aZ hK
  | cC hT he x lo hi ex aF cS ct h1 h2 => exact (We hF hT he x lo hi ex aF cS ct h1 h2).wp aZ hK
  | dQ hT he x lo hi ex cS ct => exact (WM hF hT he x lo hi ex cS ct).wp aZ hK
  | extract x ex hf hn => exact (Ul hF x ex hf hn).wp aZ hK
  | nilPtr x ex hl => exact (YT hF x ex hl).wp aZ hK
  | eF x ex => exact (YG hF x ex).wp aZ hK
  | append hT he bh x y ex ey h1 hE h2 hb hm => exact (XY hF d hT he bh x y ex ey h1 hE h2 hb hm).wp aZ hK
  | ef hT he bh x y ex ey h1 hE h2 hb hm => exact (Uk hF d hT he bh x y ex ey h1 hE h2 hb hm).wp aZ hK
  | call hs hm hx=>
   rename_i fi xs ts m gs;refine pU hF hs hx (fun v w' hb hr=>?_);have hG:=hF.grow hb;have iH:∀ b,w.heap.size≤b∧b<w'.heap.size→aK J w' β s b∧w'.heap[b]? = w'.heap[b]?:=fun b bD=>⟨⟨bD.2,hF.fresh b (yZ hF.bN.size bD.1) (.inl bD.1),fun id hl e=>by
    have:=((hF.obj id (yT.bg hl)).lt e).2;omega⟩,rfl⟩
   have g6:Rd w' (aK J w' β s) v f:=by
    rcases hm with rfl|rfl
    ·exact Rd.mono iH hr
    ·refine Rd.mono (fun b bD=>?_) hr;rcases bD with h1|h1
     ·exact ⟨(aK.grow (by simpa [gq] using h1) hb).1,rfl⟩
     ·exact iH b h1
   exact hK _ _ _ (hG.put (aZ d rfl) (VR.bk g6 hs.hand) (fun id aa e=>(FV.aU hs.hand e).elim))
  | eP ex hs hx=>
   refine uv hF ex hs hx (fun v w' hb hr=>?_);have hG:=hF.grow hb;have g6:Rd w' (aK J w' β s) v _:=Rd.mono (fun b bD=>⟨⟨bD.2,hF.fresh b (yZ hF.bN.size bD.1) (.inl bD.1),fun id hl e=>by
    have:=((hF.obj id (yT.bg hl)).lt e).2;omega⟩,rfl⟩) hr
   exact hK _ _ _ (hG.put (aZ d rfl) (VR.bk g6 hs.hand) (fun id aa e=>(FV.aU hs.hand e).elim))
  | dL hx hc => exact (sB hF hx hc).wp aZ hK
  | copy hT hk hz x y ex aW aA aF ey h2 => exact (uC hF hT hk hz x y ex aW aA aF ey h2).wp aZ hK
  | eE hk di x ex hn => exact (Up hF hk di x ex hn).wp aZ hK
  | dM hk di x ex hn => exact (Vx hF hk di x ex hn).wp aZ hK
  | eJ hk di x ex hn => exact (Ur hF hk di x ex hn).wp aZ hK
  | eC hx hn => exact (Uo hF hx hn).wp aZ hK
  | bound hx hn => exact (tv hF hx hn).wp aZ hK
  | gD op x y ex hX ey hY hl bK => exact (tz hF op x y ex hX ey hY hl bK).wp aZ hK
  | dC op hT x y ex hb ey bK => exact (tA hF op hT x y ex hb ey bK).wp aZ hK
  | eh hs hx=>
   rename_i fi xs ts E sz gs es;refine pU hF hs hx (fun v w' hb hr=>?_);obtain ⟨aS,us,e,hw,ho,aw,a9⟩:=hr;injection e with _ e
   subst e;have hG:=hF.grow hb;have fV:=aw.lt;have qI:∀ b,(w.heap.size≤b∧b<w'.heap.size∧v.ownBlock≠some b)→aK J w' (YY β d v.ownBlock) (s.set d ⟨(s.ob d).aa+1,.own,E,sz,es⟩) b:=fun b bD=>⟨bD.2.1,hF.fresh b (yZ hF.bN.size bD.1) (.inl bD.1),fun id hl e=>by
    rw [ab.ao] at hl;unfold YY at e;split at hl
    ·rename_i hh;rw [if_pos hh.symm] at e;exact bD.2.2 e
    ·rename_i hh;rw [if_neg (fun e=>hh e.symm)] at e;have:=((hF.obj id (yT.bg hl)).lt e).2;omega⟩
   have hM:FR c.N w0 J (s.set d ⟨(s.ob d).aa+1,.own,E,sz,es⟩) a w' (YY β d v.ownBlock):=by
    have hI:∀ b,aK J w β s b→aK J w' (YY β d v.ownBlock) (s.set d ⟨(s.ob d).aa+1,.own,E,sz,es⟩) b∧w'.heap[b]? = w.heap[b]?:=fun b aE=>by
     refine ⟨⟨xO aE.1 hb.size,aE.2.1,fun id hl=>?_⟩,hb.block b aE.1⟩;rw [ab.ao] at hl;unfold YY;split at hl
     ·rename_i hh;rw [if_pos hh.symm];intro e;have:=(fV b e).1;have:=aE.1;omega
     ·rename_i hh;rw [if_neg (fun e=>hh e.symm)];exact aE.2.2 id hl
    refine hF.step (C:=fun id=>id=d) hF.size hF.defers (hF.bN.trans (hb.mono hF.bN.size)) hI (fun k=>.inl ⟨rfl,rfl⟩) (fun id hC=>?_) (fun id hC=>?_) (fun id hC hl dV=>?_) (fun id hC hl _=>?_) ?_ ?_
    ·refine ⟨by rw [ab.ao,if_neg (fun e=>hC e.symm)],by unfold YY;rw [if_neg hC],fun hl b aE=>hb.block b ((hF.obj id hl).lt aE).2⟩
    ·subst hC;rw [ab.ao,if_pos rfl];exact Nat.le_succ _
    ·subst hC;rw [ab.ao,if_pos rfl] at dV;simp at dV
    ·subst hC;rw [ab.ao,if_pos rfl];rw [yP];exact .ofRow ⟨hw,ho,v,us,pN aw hF.bN.size,rfl,a9.mono (fun b bD=>⟨qI b bD,rfl⟩)⟩ (.own rfl) rfl
    ·intro id aN b hl bf e e';rw [ab.ao] at hl bf;unfold YY at e e';by_cases h1:id=d
     ·by_cases h2:aN=d
      ·rw [h1,h2]
      ·rw [if_pos h1] at e;rw [if_neg h2] at e';rw [if_neg (fun e=>h2 e.symm)] at bf;have:=(fV b e).1;have:=((hF.obj aN bf).lt e').2;omega
     ·by_cases h2:aN=d
      ·rw [if_neg h1] at e;rw [if_pos h2] at e';rw [if_neg (fun e=>h1 e.symm)] at hl;have:=(fV b e').1;have:=((hF.obj id hl).lt e).2;omega
      ·rw [if_neg h1] at e;rw [if_neg h2] at e';rw [if_neg (fun e=>h1 e.symm)] at hl;rw [if_neg (fun e=>h2 e.symm)] at bf;exact hF.inj id aN b hl bf e e'
    ·intro b aM hn;refine ⟨hb.block b aM,fun id hl e=>?_⟩;rw [ab.ao] at hl;unfold YY at e;by_cases h1:id=d
     ·rw [if_pos h1] at e;have:=(fV b e).1;omega
     ·rw [if_neg h1] at e;rw [if_neg (fun e=>h1 e.symm)] at hl;exact hn id hl e
   refine hK _ _ _ (hM.put (aZ d rfl) (fun _ _=>?_) (fun id aa e=>?_))
   ·rw [ab.ao,if_pos rfl,yP];exact WA.eG aw rfl rfl rfl rfl
   ·simp only [FV.hands,yg,yi] at e;obtain ⟨e1,e2⟩:=e;replace e1:=e1.symm;replace e2:=e2.symm;subst e1;subst e2;rw [ab.ao,if_pos rfl];exact zm _
end
end
section
open Go.RowKit
section
variable {c:Ctx} {s s' : ab}
theorem Src.loc {f:FV} {sz:Nat} {es:List (List FV)} (h:Src s f sz es) (ho:∀ id aa,f.hand=some (id,aa)→s'.ob id=s.ob id):Src s' f sz es:=by
 cases h with
 | nil sz => exact .nil _
 | list sz es => exact .list _ _
 | own id aa o n hl a9 =>
  have e:=ho id aa rfl;rw [← e];exact .own id aa o n (by unfold ab.live at *;rw [e];exact hl) (by rw [e];exact a9)
theorem gy.loc {f:FV} {sz:Nat} {es:List (List FV)} {i:Option Nat} (h:gy s f sz es i) (ho:∀ id aa,f.hand=some (id,aa)→s'.ob id=s.ob id):gy s' f sz es i:=by
 cases h with
 | nil sz => exact .nil _
 | own id aa hl hv n hn =>
  have e:=ho id aa rfl;rw [← e];exact .own id aa (by rw [e];exact hl) (by rw [e];exact hv) n (by rw [e];exact hn)
theorem Xf.loc {m:VP} {f g:FV} (h:Xf s m f g) (ho:∀ id aa,f.hand=some (id,aa)→s'.ob id=s.ob id):Xf s' m f g:=by
 cases h with
 | plain f hn => exact .plain _ hn
 | sub f g hn hle => exact .sub _ _ hn hle
 | nil sz => exact .nil _
 | own id aa o n hl a9 hm =>
  have e:=ho id aa rfl;rw [← e];exact .own id aa o n (by unfold ab.live at *;rw [e];exact hl) (by rw [e];exact a9) (by rw [e];exact hm)
theorem xU.loc {m:VP}:∀ {xs:List Operand} {gs:List FV},xU s m xs gs→(∀ x∈xs,s'.ev x=s.ev x)→(∀ x∈xs,∀ id aa,(s.ev x).hand=some (id,aa)→s'.ob id=s.ob id)→xU s' m xs gs
 | _, _, .nil, _, _ => .nil
 | _, _, .cons h hs, he, ho => .cons (by rw [he _ zd]; exact h.loc (ho _ zd)) (hs.loc (fun x hx => he x (by simp [hx])) (fun x hx => ho x (by simp [hx])))
theorem n9 {l:Nat} (h:s.lo lo l) (he:∀ x∈lo.toList,s'.ev x=s.ev x):s'.lo lo l:=by
 cases lo with
 | none => exact h
 | some y => obtain ⟨k, hk⟩ := h; exact ⟨k, by rw [he y zd]; exact hk⟩
theorem n8 {l m:Nat} (h:s.hi lo m l) (he:∀ x∈lo.toList,s'.ev x=s.ev x):s'.hi lo m l:=by
 cases lo with
 | none => exact h
 | some y => obtain ⟨k, hk⟩ := h; exact ⟨k, by rw [he y zd]; exact hk⟩
theorem YI {ps:Array (Nat×Operand)} (he:∀ x∈(ps.toList.map (·.2)),s'.ev x=s.ev x):s'.parts ps=s.parts ps:=by
 unfold ab.parts;refine Xt fun p hp=>?_;rw [he p.2 (zM.2 ⟨p,hp,rfl⟩)]
theorem xA {α γ:Type} {f g:α→Option γ}:∀ {l:List α},(∀ x∈l,f x=g x)→l.filterMap f=l.filterMap g
 | [], _ => rfl
 | x :: l, h => by rw [ZK, ZK, h x zd, xA fun y hy => h y (by simp [hy])]
theorem av.loc {f:FV} {wr:List (Nat×yb)} (h:av c s d op f wr) (he:∀ x∈op.operands.toList,s'.ev x=s.ev x) (bE:∀ id∈Zr s d op,s'.ob id=s.ob id):av c s' d op f wr:=by
 have hd:=bE d (uy s d op);cases bF:YX op with
 | true =>
  cases h <;> first|(cases bF;done)|(rename_i h0 _ _;rw [bF] at h0;cases h0;done)|(rename_i x;rw [← he x zf];first|exact .move x|exact .assign x)
 | false =>
 have hh:∀ x∈op.operands.toList,∀ id aa,(s.ev x).hand=some (id,aa)→s'.ob id=s.ob id:=fun x hx id aa hv=>bE id (XG bF hx hv);have ai:∀ id aa,s'.ob id=s.ob id→s.live id aa→s'.live id aa:=fun id aa e hl=>by unfold ab.live at *;rw [e];exact hl
 cases h with
 | move x => rw [← he x zf]; exact .move x
 | assign x => rw [← he x zf]; exact .assign x
 | pick eQ x y hb => rw [← he x zf, ← he y zf]; exact .pick eQ x y (by rw [he eQ zf]; exact hb)
 | cd op T T2 x y ex ey hf => exact .cd op T T2 x y (by rw [he x zf]; exact ex) (by rw [he y zf]; exact ey) hf
 | iM op T T2 x y ex ey hn bK => exact .iM op T T2 x y (by rw [he x zf]; exact ex) (by rw [he y zf]; exact ey) hn bK
 | jF op x y hT ex ey bK => exact .jF op x y hT (by rw [he x zf]; exact ex) (by rw [he y zf]; exact ey) bK
 | not T x ex => exact .not T x (by rw [he x zf]; exact ex)
 | shift op T T2 x y ex ey hn bK => exact .shift op T T2 x y (by rw [he x zf]; exact ex) (by rw [he y zf]; exact ey) hn bK
 | conv hT jI x ex => exact .conv hT jI x (by rw [he x zf]; exact ex)
 | neg T x ex => exact .neg T x (by rw [he x zf]; exact ex)
 | min2 bi T T2 x y ex ey eL => exact .min2 bi T T2 x y (by rw [he x zL]; exact ex) (by rw [he y zL]; exact ey) eL
 | eB hT x ex hl => exact .eB hT x (by rw [he x zL]; exact ex) (ai _ _ (hh x zL _ _ (by rw [ex]; rfl)) hl)
 | dz hT x ex => exact .dz hT x (by rw [he x zL]; exact ex)
 | eA hT x ex => exact .eA hT x (by rw [he x zL]; exact ex)
 | cP hT hf dG aF x ex hl => exact .cP hT hf dG aF x (by rw [he x zf]; exact ex) (ai _ _ (hh x zf _ _ (by rw [ex]; rfl)) hl)
 | cy hT hf dG aF x ex => exact .cy hT hf dG aF x (by rw [he x zf]; exact ex)
 | cA hT hk x y ex aF ey h1 => exact .cA hT hk x y (by rw [he x zf]; exact ex) aF (by rw [he y zf]; exact ey) h1
 | cX hT hk x y ex hl aF ey h1 =>
  have e:=hh x zf _ _ (by rw [ex];rfl);exact .cX hT hk x y (by rw [he x zf];exact ex) (ai _ _ e hl) (by rw [e];exact aF) (by rw [he y zf];exact ey) h1
 | dg hT hk x y ex hl ey h1 => exact .dg hT hk x y (by rw [he x zf]; exact ex) (ai _ _ (hh x zf _ _ (by rw [ex]; rfl)) hl) (by rw [he y zf]; exact ey) h1
 | cL hT hk x y ex ey h1 => exact .cL hT hk x y (by rw [he x zf]; exact ex) (by rw [he y zf]; exact ey) h1
 | cw hk x ex hj ho dI => exact .cw hk x (by rw [he x zf]; exact ex) hj ho dI
 | cY hk x ex hl a9 hj ho dI =>
  have e:=hh x zf _ _ (by rw [ex];rfl);rw [← e];exact .cY hk x (by rw [he x zf];exact ex) (ai _ _ e hl) (by rw [e];exact a9) (by rw [e];exact hj) (by rw [e];exact ho) (by rw [e];exact dI)
 | store hk x y ex hl hv ey hf bJ hj ho =>
  have e:=hh x zf _ _ (by rw [ex];rfl);rw [← e];exact .store hk x y (by rw [he x zf];exact ex) (by rw [e];exact hl) (by rw [e];exact hv) (by rw [he y zf];exact ey) hf bJ (by rw [e];exact hj) (by rw [e];exact ho)
 | alloc hk hz => rw [← hd]; exact .alloc hk hz
 | box x ex hf => rw [← hd]; exact .box x (by rw [he x zf]; exact ex) hf
 | build hT gm ps hf => exact .build hT gm ps (by rw [YI (fun x hx => he x (by simpa [Op.operands] using hx))]; exact hf)
 | e8 hT hk ps hf => exact .e8 hT hk ps (by rw [YI (fun x hx => he x (by simpa [Op.operands] using hx))]; exact hf)
 | buildSlice hT hk ps es hn hw ho cH gY hf => rw [← hd]; exact .buildSlice hT hk ps es hn hw ho cH gY (by rw [YI (fun x hx => he x (by simpa [Op.operands] using hx))]; exact hf)
 | bI hT hk ps es hn hw ho cH gY hf => exact .bI hT hk ps es hn hw ho cH gY (by rw [YI (fun x hx => he x (by simpa [Op.operands] using hx))]; exact hf)
 | makeSlice hT hk x y ex ey ho hb hn => rw [← hd]; exact .makeSlice hT hk x y (by rw [he x zf]; exact ex) (by rw [he y zf]; exact ey) ho hb hn
 | dR hT hk x lo hi ex hl aF cS ct h1 h2 =>
  have e:=hh x zf _ _ (by rw [ex];rfl);exact .dR hT hk x lo hi (by rw [he x zf];exact ex) (ai _ _ e hl) (by rw [e];exact aF) (n9 cS (fun y hy=>he y (by cases lo <;> simp_all [Op.operands]))) (n8 ct (fun y hy=>he y (by cases hi <;> simp_all [Op.operands]))) h1 h2
 | cC hT hk x lo hi ex aF cS ct h1 h2 =>
  exact .cC hT hk x lo hi (by rw [he x zf];exact ex) aF (n9 cS (fun y hy=>he y (by cases lo <;> simp_all [Op.operands]))) (n8 ct (fun y hy=>he y (by cases hi <;> simp_all [Op.operands]))) h1 h2
 | dQ hT hk x lo hi ex cS ct =>
  exact .dQ hT hk x lo hi (by rw [he x zf];exact ex) (n9 cS (fun y hy=>he y (by cases lo <;> simp_all [Op.operands]))) (n8 ct (fun y hy=>he y (by cases hi <;> simp_all [Op.operands])))
 | extract x ex hf hn => exact .extract x (by rw [he x zf]; exact ex) hf hn
 | nilPtr x ex hl => exact .nilPtr x (by rw [he x zf]; exact ex) (ai _ _ (hh x zf _ _ (by rw [ex]; rfl)) hl)
 | eF x ex => exact .eF x (by rw [he x zf]; exact ex)
 | append hT hk bh x y ex ey h1 hE h2 hb hm=>
  rename_i T e f1 f2 bC ay i;have e1:∀ id aa,f1.hand=some (id,aa)→s'.ob id=s.ob id:=fun id aa hv=>hh x zL id aa (by rw [ex];exact hv);have e2:∀ id aa,f2.hand=some (id,aa)→s'.ob id=s.ob id:=fun id aa hv=>hh y zL id aa (by rw [ey];exact hv);have mJ:=h1.loc e1;have hi:∀ k,i=some k→s'.ob k=s.ob k:=fun k hk=>by
   generalize (c.ty e).size=sz at h1;cases h1 with
   | nil => cases hk
   | own id aa hl hv n hn => injection hk with hk; subst hk; exact e1 id aa rfl
  have hw:Zf s d e (c.ty e).size (bC++ay) i=Zf s' d e (c.ty e).size (bC++ay) i:=by
   cases i with
   | none => simp only [Zf, hd]
   | some k => simp only [Zf, hd, hi k rfl]
  rw [← hd,hw];exact .append hT hk bh x y (by rw [he x zL];exact ex) (by rw [he y zL];exact ey) mJ (fun k hk=>by rw [hi k hk];exact hE k hk) (h2.loc e2) hb hm
 | ef hT hk bh x y ex ey h1 hE h2 hb hm=>
  rename_i T e f1 f2 bC ay i;have e1:∀ id aa,f1.hand=some (id,aa)→s'.ob id=s.ob id:=fun id aa hv=>hh x zL id aa (by rw [ex];exact hv);have e2:∀ id aa,f2.hand=some (id,aa)→s'.ob id=s.ob id:=fun id aa hv=>hh y zL id aa (by rw [ey];exact hv);have mJ:=h1.loc e1;have hi:∀ k,i=some k→s'.ob k=s.ob k:=fun k hk=>by
   generalize (c.ty e).size=sz at h1;cases h1 with
   | nil => cases hk
   | own id aa hl hv n hn => injection hk with hk; subst hk; exact e1 id aa rfl
  have hw:Zf s d e (c.ty e).size (bC++ay) i=Zf s' d e (c.ty e).size (bC++ay) i:=by
   cases i with
   | none => simp only [Zf, hd]
   | some k => simp only [Zf, hd, hi k rfl]
  rw [← hd,hw];exact .ef hT hk bh x y (by rw [he x zL];exact ex) (by rw [he y zL];exact ey) mJ (fun k hk=>by rw [hi k hk];exact hE k hk) (h2.loc e2) hb hm
 | ee hT hk bh x y ex aW aA hE aF eM ey h2 h1=>
  have e:=hh x zL _ _ (by rw [ex];rfl);rw [← hd,← e];exact .ee hT hk bh x y (by rw [he x zL];exact ex) (by rw [e];exact aW) (by rw [e];exact aA) (by rw [e];exact hE) (by rw [e];exact aF) (by rw [e];exact eM)
   (by rw [he y zL];exact ey) (h2.loc fun id aa hv=>hh y zL id aa (by rw [ey];exact hv)) h1
 | ec hT hk bh x y ex aW aA hE aF eM ey h2 h1 hb hm=>
  have e:=hh x zL _ _ (by rw [ex];rfl);rw [← hd,← e];exact .ec hT hk bh x y (by rw [he x zL];exact ex) (by rw [e];exact aW) (by rw [e];exact aA) (by rw [e];exact hE) (by rw [e];exact aF) (by rw [e];exact eM)
   (by rw [he y zL];exact ey) (h2.loc fun id aa hv=>hh y zL id aa (by rw [ey];exact hv)) h1 hb hm
 | h9 hk hz x ex aW aA aF hj =>
  have e:=hh x zf _ _ (by rw [ex];rfl);exact .h9 hk hz x (by rw [he x zf];exact ex) (by rw [e];exact aW) (by rw [e];exact aA) (by rw [e];exact aF) (by rw [e];exact hj)
 | eI hk hz x y ex aW aA aF ey hf hj =>
  have e:=hh x zf _ _ (by rw [ex];rfl);rw [← e];refine .eI hk hz x y (by rw [he x zf];exact ex) (by rw [e];exact aW) (by rw [e];exact aA) (by rw [e];exact aF) (by rw [he y zf];exact ey) ?_ (by rw [e];exact hj);rcases hf with h1|⟨aN,bo,o,n,rfl,hl⟩|⟨aN,bo,o,n,rfl,hl⟩|hw|⟨aN,bo,rfl,hl⟩
  ·exact .inl h1
  ·exact .inr (.inl ⟨aN,bo,o,n,rfl,ai _ _ (hh y zf _ _ (by rw [ey];rfl)) hl⟩)
  ·exact .inr (.inr (.inl ⟨aN,bo,o,n,rfl,ai _ _ (hh y zf _ _ (by rw [ey];rfl)) hl⟩))
  ·exact .inr (.inr (.inr (.inl hw)))
  ·exact .inr (.inr (.inr (.inr ⟨aN,bo,rfl,ai _ _ (hh y zf _ _ (by rw [ey];rfl)) hl⟩)))
 | makeMap T => rw [← hd]; exact .makeMap T
 | gD op x y ex hX ey hY hl bK => exact .gD op x y (by rw [he x zf]; exact ex) hX (by rw [he y zf]; exact ey) hY hl bK
 | dC op hT x y ex hb ey bK=>
  rename_i T T2 e f b;have bD : UX s' f b:=by
   cases hb with
   | nil => exact .nil
   | own id aa o n hl hn => exact .own id aa o n (ai _ _ (hh x zf _ _ (by rw [ex]; rfl)) hl) hn
   | list sz es hn => exact .list sz es hn
  exact .dC op hT x y (by rw [he x zf];exact ex) bD (by rw [he y zf];exact ey) bK
 | copy hT hk hz x y ex aW aA aF ey h2=>
  have e:=hh x zL _ _ (by rw [ex];rfl);rw [← e];exact .copy hT hk hz x y (by rw [he x zL];exact ex) (by rw [e];exact aW) (by rw [e];exact aA) (by rw [e];exact aF) (by rw [he y zL];exact ey)
   (h2.loc fun id aa hv=>hh y zL id aa (by rw [ey];exact hv))
 | eE hk di x ex hn => exact .eE hk di x (by rw [he x zf]; exact ex) hn
 | dM hk di x ex hn => exact .dM hk di x (by rw [he x zf]; exact ex) hn
 | eJ hk di x ex hn => exact .eJ hk di x (by rw [he x zf]; exact ex) hn
 | eC hx hn => exact .eC (by rw [← hx]; exact Xt fun y hy => he y (by simp [Op.operands] at hy ⊢; exact hy)) hn
 | bound hx hn => exact .bound (by rw [← hx]; exact Xt fun y hy => he y (by simp [Op.operands] at hy ⊢; exact hy)) hn
 | look hT hk K x y ok ex ey e7 bZ hl hn=>
  refine .look hT hk K x y ok ?_ (by rw [he y zf];exact ey) e7 bZ hl hn;rcases ex with ⟨id,aa,e1,e2,e3⟩|e1
  ·have e:=hh x zf _ _ (by rw [e1];rfl);exact .inl ⟨id,aa,by rw [he x zf];exact e1,⟨ai _ _ e e2.1,by rw [e];exact e2.2⟩,by rw [e];exact e3⟩
  ·exact .inr (by rw [he x zf];exact e1)
 | update hT K x y z ex aW aA ey ez hk bZ hn hs =>
  have e:=hh x zf _ _ (by rw [ex];rfl);rw [← e];exact .update hT K x y z (by rw [he x zf];exact ex) (by rw [e];exact aW) (by rw [e];exact aA) (by rw [he y zf];exact ey) (by rw [he z zf];exact ez) (by rw [e];exact hk) bZ hn (by rw [e];exact hs)
 | call hs hm hx => exact .call hs hm (hx.loc (fun x hx => he x (by simp [Op.operands, Call.operands] at hx ⊢; exact .inr hx)) (fun x hx => hh x (by simp [Op.operands, Call.operands] at hx ⊢; exact .inr hx)))
 | @eP f x xs ts gs aI res ex hs hx => exact .eP (by rw [he x zL]; exact ex) hs (hx.loc (fun y hy => he y (by simp [Op.operands, Call.operands] at hy ⊢; exact .inr hy)) (fun y hy => hh y (by simp [Op.operands, Call.operands] at hy ⊢; exact .inr hy)))
 | dL hx hc => exact .dL (by rw [← hx]; exact Xt fun y hy => he y (by simp [Op.operands] at hy ⊢; exact hy)) hc
 | fN ho hn hg=>
  have il:Zr s' d op=Zr s d op:=by
   unfold Zr;rw [bF];refine congrArg (d::·) (xA fun x hx=>?_);rw [he x hx]
  exact .fN ho hn fun iA h1 h2=>hg iA (fun x hx=>(h1 x hx).trans (he x hx)) (fun id hid=>(h2 id (by rw [il];exact hid)).trans (bE id hid))
 | ext ho hn hg=>
  have il:Zr s' d op=Zr s d op:=by
   unfold Zr;rw [bF];refine congrArg (d::·) (xA fun x hx=>?_);rw [he x hx]
  exact .ext ho hn fun iA h1 h2=>hg iA (fun x hx=>(h1 x hx).trans (he x hx)) (fun id hid=>(h2 id (by rw [il];exact hid)).trans (bE id hid))
 | eh hs hx => rw [← hd]; exact .eh hs (hx.loc (fun x hx => he x (by simp [Op.operands, Call.operands] at hx ⊢; exact .inr hx)) (fun x hx => hh x (by simp [Op.operands, Call.operands] at hx ⊢; exact .inr hx)))
theorem FR.ext {w0:World} (h:FR N w0 J s a w β) (hg:∀ k,s'.get k=s.get k) (ho:∀ k,s'.ob k=s.ob k):FR N w0 J s' a w β:=by
 refine h.step (C:=fun _=>False) h.size h.defers h.bN (fun b hb=>⟨⟨hb.1,hb.2.1,fun id hl=>hb.2.2 id (by rw [← ho];exact hl)⟩,rfl⟩) (fun k=>.inl ⟨rfl,hg k⟩) (fun id _=>⟨ho id,rfl,fun _ _ _=>rfl⟩) (fun _ h=>h.elim) (fun _ h=>h.elim) (fun _ h=>h.elim) ?_ (fun b _ hn=>⟨rfl,fun id hl=>hn id (by rw [← ho];exact hl)⟩);intro id aN b hl bf;rw [ho] at hl bf;exact h.inj id aN b hl bf
end
structure Rec where
 o:Oper
 f:FV
 wr:List (Nat×yb)
 ft:List Nat
 deriving Inhabited
def ab.gB (s:ab) (r:Rec):ab:=s.app r.o.dst r.f r.wr
def ot:FV→Bool→Option Bool
 | .bool v, want => some (v == want)
 | .bG [], _ => some false
 | _, _ => none
theorem sQ {f:FV} {want:Bool} (h:ot f want=some b):(∃ v,f=.bool v∧(v == want)=b)∨(f=.bG []∧b=false):=by
 unfold ot at h;split at h
 ·injection h with h;exact .inl ⟨_,rfl,h⟩
 ·injection h with h;exact .inr ⟨rfl,h.symm⟩
 ·cases h
def xk (ops:Array Oper) (s:ab) (o:Oper) (b:Bool):Prop:=
 match o.guard with
 | none => b=true
 | some (j, want) => ∃ d v, (ops[j]?).bind (·.dst)=some d ∧ s.get d=v ∧ ot v want=some b
inductive gl (c:Ctx) (ops:Array Oper):ab→List Oper→List Rec→ab→Prop where
 | nil (s:ab):gl c ops s [] [] s
 | step {o:Oper} {rest:List Oper} {s s' : ab} {f:FV} {wr:List (Nat×yb)} {tr:List Rec} {d:Nat} (hw:xk ops s o true) (hd:o.dst=some d∨(o.dst=none∧Vg o.op)) (aZ:∀ d,o.dst=some d→d<c.N)
   (he:av c s d o.op f wr) (hs:gl c ops (s.app o.dst f wr) rest tr s'):gl c ops s (o::rest) (⟨o,f,wr,Zr s d o.op⟩::tr) s'
 | skip {o:Oper} {rest:List Oper} {s s' : ab} {tr:List Rec} (hw:xk ops s o false) (aZ:∀ d, o.dst=some d → d<c.N) (hs:gl c ops (s.app o.dst (.bG []) []) rest tr s'):gl c ops s (o :: rest) (⟨o, .bG [], [], []⟩ :: tr) s'
def WF (c:Ctx) (ops:Array Oper) (s:ab) (r:Rec):Prop:=
 (∀ d,r.o.dst=some d→d<c.N)∧((xk ops s r.o true∧∃ d,(r.o.dst=some d∨(r.o.dst=none∧Vg r.o.op))∧av c s d r.o.op r.f r.wr∧r.ft=Zr s d r.o.op)∨(xk ops s r.o false∧r.f=.bG []∧r.wr=[]∧r.ft=[]))
def sig (tr:List Rec) (s0:ab) (S:Nat→Bool):Nat→ab
 | 0 => s0
 | k+1 => if S k then (sig tr s0 S k).gB (tr.getD k default) else sig tr s0 S k
theorem xt (r:Rec) (tr:List Rec) (s0:ab) (S:Nat→Bool):∀ k,sig (r::tr) s0 S (k+1)=sig tr (if S 0 then s0.gB r else s0) (fun j=>S (j+1)) k
 | 0 => by simp [sig]
 | k+1 => by
  rw [sig,xt r tr s0 S k];simp [sig]
theorem gl.at {s:ab} {l:List Oper} {tr:List Rec} {s' : ab} (h:gl c ops s l tr s'):tr.length=l.length∧s'=sig tr s (fun _=>true) tr.length∧
  ∀ k,k<l.length→(tr.getD k default).o=l.getD k default∧WF c ops (sig tr s (fun _=>true) k) (tr.getD k default):=by
 induction h with
 | nil s => exact ⟨rfl, rfl, fun k hk => by simp at hk⟩
 | @step o rest s s' f wr tr d hw hd aZ he hs ih=>
  obtain ⟨h1,h2,h3⟩:=ih;refine ⟨by simp [h1],?_,fun k hk=>?_⟩
  ·rw [yX,xt];exact h2
  ·cases k with
   | zero => exact ⟨rfl, aZ, .inl ⟨hw, d, hd, he, rfl⟩⟩
   | succ k =>
    rw [xt];exact h3 k (by simpa using hk)
 | @skip o rest s s' tr hw aZ hs ih=>
  obtain ⟨h1,h2,h3⟩:=ih;refine ⟨by simp [h1],?_,fun k hk=>?_⟩
  ·rw [yX,xt];exact h2
  ·cases k with
   | zero => exact ⟨rfl, aZ, .inr ⟨hw, rfl, rfl, rfl⟩⟩
   | succ k =>
    rw [xt];exact h3 k (by simpa using hk)
def VQ (r:Rec) (t:Nat):Option FV:=if r.o.dst=some t then some r.f else none
def yR:List (Nat×yb)→Nat→Option yb
 | [], _ => none
 | p :: l, id => match yR l id with|some b => some b|none => if p.1=id then some p.2 else none
theorem lR:∀ (l:List (Nat×yb)) (s:ab) (id:Nat),(s.wr l).ob id=(yR l id).getD (s.ob id)
 | [], _, _ => rfl
 | p :: l, s, id => by
  show (ab.wr (s.set p.1 p.2) l).ob id=_;rw [lR l,yR,ab.ao];cases yR l id with
  | some b => rfl
  | none => by_cases h:p.1=id <;> simp [h]
theorem xi:∀ {l:List (Nat×yb)} {id:Nat},(yR l id).isSome→id∈l.map (·.1)
 | p::l,id,h=>by
  unfold yR at h;cases hl:yR l id with
  | some b => exact Xu _ (xi (by rw [hl]; rfl))
  | none =>
   rw [hl] at h;dsimp only at h;split at h
   ·rename_i e;subst e;simp
   ·simp at h
theorem ZH (s:ab) (r:Rec) (t:Nat):(s.gB r).get t=(VQ r t).getD (s.get t):=by
 unfold ab.gB ab.app VQ;cases h:r.o.dst with
 | none => simp [ab.j9, ab.cg]
 | some d =>
  simp only [ab.j9,ab.du,ab.cg,zI];split <;> rfl
theorem YJ (s:ab) (r:Rec) (id:Nat):(s.gB r).ob id=(yR r.wr id).getD (s.ob id):=by
 unfold ab.gB ab.app;cases r.o.dst with
 | none => exact lR _ _ _
 | some d => exact lR _ _ _
section
variable {α:Type}
def UU (u:Nat→Option α) (S:Nat→Bool) (x0:α):Nat→α
 | 0 => x0
 | k+1 => if S k then (u k).getD (UU u S x0 k) else UU u S x0 k
theorem yC (u:Nat→Option α) (S S' : Nat→Bool) (x0:α):∀ n,(∀ k,k<n→(u k).isSome→S k=S' k)→UU u S x0 n=UU u S' x0 n
 | 0, _ => rfl
 | n+1, h => by
  have ih:=yC u S S' x0 n (fun k hk=>h k zc);have hn:=h n zc;unfold UU;rw [ih];cases hu:u n with
  | none => simp
  | some v => rw [hn (by rw [hu]; rfl)]
theorem yO (u:Nat→Option α) (S:Nat→Bool) (x0:α) (m:Nat):∀ j,(∀ k,m≤k→k<m+j→S k=true→u k=none)→UU u S x0 (m+j)=UU u S x0 m
 | 0, _ => rfl
 | j+1, h => by
  have ih:=yO u S x0 m j (fun k h1 h2=>h k h1 zc);rw [← Xz,UU];split
  ·rename_i hS;rw [h (m+j) zc zc hS,ih];rfl
  ·exact ih
theorem YO (u:Nat→Option α) (S:Nat→Bool) (x0:α) (i:Nat) (hS:S i=false):∀ n,i<n→(∀ k,i<k→k<n→S k=true→(u k).isSome→u i=none)→UU u (fun k=>k == i || S k) x0 n=(u i).getD (UU u S x0 n)
 | 0, h, _ => by omega
 | n + 1,hi,h=>by
  by_cases ck:i=n
  ·subst ck;unfold UU;simp only [beq_self_eq_true,Bool.true_or,if_true,hS,Bool.false_eq_true,if_false];congr 1;refine yC _ _ _ _ _ (fun k hk _=>?_);have:(k == i)=false:=by simp;omega
   rw [this];rfl
  ·have ih:=YO u S x0 i hS n zc (fun k h1 h2=>h k h1 zc);have hn:(n == i)=false:=by simp;omega
   unfold UU;rw [hn,yU,ih];split
   ·rename_i qJ;cases hu:u n with
    | none => rfl
    | some v =>
     have:=h n zc zc qJ (by rw [hu];rfl);rw [this];rfl
   ·rfl
end
theorem yA (tr:List Rec) (s0:ab) (S:Nat→Bool) (t:Nat):∀ k,(sig tr s0 S k).get t=UU (fun k=>VQ (tr.getD k default) t) S (s0.get t) k
 | 0 => rfl
 | k+1 => by
  unfold sig UU;split
  ·rw [ZH,yA tr s0 S t k]
  ·exact yA tr s0 S t k
theorem xm (tr:List Rec) (s0:ab) (S:Nat→Bool) (id:Nat):∀ k,(sig tr s0 S k).ob id=UU (fun k=>yR (tr.getD k default).wr id) S (s0.ob id) k
 | 0 => rfl
 | k+1 => by
  unfold sig UU;split
  ·rw [YJ,xm tr s0 S id k]
  ·exact xm tr s0 S id k
def gv:List Oper→List (List Nat)→List (List Nat)
 | [], acc => acc
 | o :: l, acc => gv l (acc ++ [o.after.toList.flatMap fun e => if Region.binds .any e then e.on :: acc.getD e.on [] else []])
def yH (ops:Array Oper) (r q:Rec):Bool:=
 r.o.apart ops q.o && (r.wr.all fun p=>!q.ft.contains p.1 && !(q.wr.map (·.1)).contains p.1) && (q.wr.all fun p=>!r.ft.contains p.1)
def n4 (ops:Array Oper) (tr:List Rec) (A:List (List Nat)):Bool:=
 (List.range tr.length).all fun i=>(List.range i).all fun j=>(A.getD i []).contains j || yH ops (tr.getD j default) (tr.getD i default)
def n3 (l:List Oper):Bool:=(List.range l.length).all fun i=>(l.getD i default).after.toList.all fun e=>!Region.binds .any e || decide (e.on<i)
def ZD (ops:Array Oper) (tr:List Rec):Bool:=n3 ops.toList && n4 ops tr (gv ops.toList [])
theorem XN (S:Nat→Bool):∀ (l:List Oper) (acc:List (List Nat)),(∀ i,i<acc.length→S i=true→∀ j∈acc.getD i [],S j=true)→
  (∀ k,k<l.length→S (acc.length+k)=true→∀ e∈(l.getD k default).after.toList,Region.binds .any e=true→S e.on=true)→(∀ k,k<l.length→∀ e∈(l.getD k default).after.toList,Region.binds .any e=true→e.on<acc.length+k)→
  ∀ i,i<acc.length+l.length→S i=true→∀ j∈(gv l acc).getD i [],S j=true
 | [], acc, ha, _, _, i, hi, hS, j, hj => ha i (by simpa using hi) hS j hj
 | o ::l,acc,ha,hl,hb,i,hi,hS,j,hj=>by
  rw [gv] at hj;refine XN S l _ (fun i hi hS j hj=>?_) (fun k hk hS e he kt=>?_) (fun k hk e he kt=>?_) i (by simp at hi ⊢;omega) hS j hj
  ·rcases xa i acc.length with h|h
   ·rw [yE,xo h,← yE] at hj;exact ha i h hS j hj
   ·have dy:i=acc.length:=by simp at hi;omega
    subst dy;rw [yE,xL (zm _),Nat.sub_self] at hj;simp only [List.getElem?_cons_zero,Yt,List.mem_flatMap] at hj;obtain ⟨e,he,hj⟩:=hj;split at hj
    ·rename_i kt;have eM:=hl 0 zd (by simpa using hS) e he kt;rcases zU.1 hj with h|h
     ·rw [h];exact eM
     ·exact ha e.on (by have:=hb 0 zd e he kt;omega) eM j h
    ·simp at hj
  ·refine hl (k+1) (by simpa using hk) ?_ e he kt;simp only [ye,yX,Vn] at hS;rwa [show acc.length+(k+1)=acc.length+(0+1)+k by omega]
  ·have:=hb (k+1) (by simpa using hk) e he kt;simp;omega
theorem tH {o:Oper} {s s' : ab} (h:∀ t∈o.looksAt ops,s'.get t=s.get t):∀ x∈o.op.operands.toList,s'.ev x=s.ev x:=by
 intro x hx;cases x with
 | tmp t => exact h t (List.mem_append_left _ (Zi.2 ⟨.tmp t, hx, rfl⟩))
 | const v => rfl
 | global g => rfl
 | func f => rfl
theorem xk.loc {o:Oper} {s s' : ab} (hw:xk ops s o b) (h:∀ t∈o.looksAt ops,s'.get t=s.get t):xk ops s' o b:=by
 unfold xk at *;cases hg:o.guard with
 | none => rw [hg] at hw; exact hw
 | some p =>
  obtain ⟨j,want⟩:=p;rw [hg] at hw;obtain ⟨d,v,h1,h2,h3⟩:=hw;refine ⟨d,v,h1,?_,h3⟩;rw [h d (List.mem_append_right _ (by simp [hg,h1]))];exact h2
theorem WF.loc {s s' : ab} {r:Rec} (hr:WF c ops s r) (h:∀ t∈r.o.looksAt ops,s'.get t=s.get t) (ho:∀ id∈r.ft,s'.ob id=s.ob id):WF c ops s' r:=by
 obtain ⟨hN,hr⟩:=hr;refine ⟨hN,?_⟩;have jP:=tH h;rcases hr with ⟨hw,d,hd,he,hf⟩|⟨hw,h1,h2,h3⟩
 ·refine .inl ⟨hw.loc h,d,hd,he.loc jP (by rw [← hf];exact ho),?_⟩;rw [hf];unfold Zr;congr 2;have key:∀ l:List Operand,(∀ x∈l,s'.ev x=s.ev x)→(l.filterMap fun x=>(s.ev x).hand.map (·.1))=l.filterMap fun x=>(s'.ev x).hand.map (·.1):=by
   intro l
   induction l with
   | nil => intro _; rfl
   | cons x l ih => intro h; rw [ZK, ZK, h x zd, ih (fun y hy => h y (by simp [hy]))]
  exact key _ jP
 ·exact .inr ⟨hw.loc h,h1,h2,h3⟩
section
variable {c:Ctx} {w0:World} {J:JJ} {ops:Array Oper} {Q:Exit→Act→World→Prop}
theorem xk.model {s:ab} (hF:FR c.N w0 J s a w β) {o:Oper} (hw:xk ops s o b):Region.wanted o (yielded ops a.tmps)=b:=by
 unfold xk at hw;unfold Region.wanted;cases hg:o.guard with
 | none => rw [hg] at hw; rw [hw]
 | some p=>
  obtain ⟨j,want⟩:=p;rw [hg] at hw;obtain ⟨d,v,h1,h2,h3⟩:=hw;rcases sQ h3 with ⟨v,rfl,h4⟩|⟨rfl,rfl⟩
  ·have hv:a.tmps.getD d undef=.bool v:=hF.cx (x:=.tmp d) (b:=v) h2;have hy:yielded ops a.tmps j=some v:=by
    unfold yielded;rw [h1];simp only [Zv];rw [Yh] at hv;cases ha:a.tmps[d]? with
    | none => rw [ha] at hv; simp [undef] at hv
    | some u => rw [ha] at hv; simp only [Yt] at hv; rw [hv]
   simp only [hy];rw [← h4];cases v <;> cases want <;> rfl
  ·have hv:a.tmps.getD d undef=.tuple #[]:=by
    have:=hF.ev (.tmp d);rw [show s.ev (.tmp d)=.bG [] from h2] at this;have:=VR.rd this rfl;have e:a.eval (.tmp d)=a.tmps.getD d undef:=rfl;rw [e] at this;generalize a.tmps.getD d undef=v at this;cases this with
    | bG us fs hl hr=>
     have:us=[]:=by cases us with
      | nil => rfl
      | cons u us => simp at hl
     subst this;rfl
   have hy:yielded ops a.tmps j=none:=by
    unfold yielded;rw [h1];simp only [Zv];rw [Yh] at hv;cases ha:a.tmps[d]? with
    | none => rfl
    | some u => rw [ha] at hv; simp only [Yt] at hv; rw [hv]
   simp only [hy];cases want <;> rfl
theorem WF.wpOp {s:ab} (hF:FR c.N w0 J s a w β) {r:Rec} (hi:ops[i]? = some r.o) (hr:WF c ops s r) (hK:∀ a' w' aP,FR c.N w0 J (s.gB r) a' w' aP→K a' w') :
  wpOp c.P ops Q i K a w:=by
 obtain ⟨hN,hr⟩:=hr;unfold Go.wpOp;simp only [hi];rcases hr with ⟨hw,d,hd,he,hf⟩|⟨hw,h1,h2,h3⟩
 ·rw [if_pos (hw.model hF)];exact .inl (he.sound hF r.o rfl hd hN hK)
 ·rw [if_neg (by rw [hw.model hF];decide)];refine hK _ _ β ?_;unfold ab.gB ab.app;rw [h1,h2];cases hd:r.o.dst with
  | none => exact hF
  | some d => exact hF.put (hN d hd) (VR.bk (Rd.bG [] [] rfl zd) rfl) (fun id aa e => by cases e)
def fw (S:Nat→Bool):Nat→Nat
 | 0 => 0
 | k+1 => fw S k+if S k then 0 else 1
theorem Vr {S:Nat→Bool} {i:Nat} (hS:S i=false):∀ n,i<n→fw (fun k=>k == i || S k) n+1=fw S n
 | 0, h => by omega
 | n + 1,h=>by
  unfold fw;by_cases ck:i=n
  ·subst ck;have key:∀ m,m≤i→fw (fun k=>k == i || S k) m=fw S m:=by
    intro m
    induction m with
    | zero => intro _; rfl
    | succ m ih =>
     intro hm;unfold fw;have:(m == i)=false:=by simp;omega
     rw [ih zc,this];rfl
   rw [key i (zm _),hS];simp
  ·have ih:=Vr hS n zc;have:(n == i)=false:=by simp;omega
   rw [this,yU];omega
theorem XT {S:Nat→Bool}:∀ n,fw S n=0→∀ k,k<n→S k=true
 | 0, _, k, hk => by omega
 | n+1,h,k,hk=>by
  unfold fw at h;by_cases qR:k=n
  ·subst qR;cases hS:S k with
   | true => rfl
   | false => rw [hS] at h; simp at h
  ·exact XT n zc k zc
theorem tM {s0 s' : ab} {tr:List Rec} (hx:gl c ops s0 ops.toList tr s') (df:ZD ops tr=true) (hQ:∀ a w β,FR c.N w0 J s' a w β→Q .normal a w) :
  ∀ (fuel:Nat) (listed:Array Bool) (a:Act) (w:World) (β:Nat→Option Nat),listed.size=ops.size→(∀ i,i<ops.size→listed.getD i false=true→∀ e∈(ops.toList.getD i default).after.toList,Region.binds .any e=true→listed.getD e.on false=true)→
   fw (fun k=>listed.getD k false) ops.size≤fuel→FR c.N w0 J (sig tr s0 (fun k=>listed.getD k false) ops.size) a w β→wpAny c.P .any ops Q fuel listed a w:=by
 obtain ⟨gT,jn,eV⟩:=hx.at;have hlen:tr.length=ops.size:=by rw [gT];simp
 rw [Vp] at eV;unfold ZD at df;rw [zC] at df;obtain ⟨dE,cJ⟩:=df;have cI : ∀ i,i<ops.size→∀ e∈(ops.toList.getD i default).after.toList,Region.binds .any e=true→e.on<i:=by
  intro i hi e he hb;unfold n3 at dE;rw [zG] at dE;have:=dE i (by simpa using hi);rw [zG] at this;have:=this e he;simpa [hb] using this
 have cV : ∀ i,i<ops.size→∀ j,j<i→j∈(gv ops.toList []).getD i []∨yH ops (tr.getD j default) (tr.getD i default)=true:=by
  intro i hi j hj;unfold n4 at cJ;rw [zG] at cJ;have:=cJ i (by simp [hlen];exact hi);rw [zG] at this;have:=this j (by simpa using hj);rw [Vj] at this;exact this.imp (fun h=>by simpa using h) id
 have ff:∀ (listed:Array Bool) (i:Nat),i<listed.size→listed.getD i true=listed.getD i false:=fun listed i hi=>by simp [hi]
 have gO:∀ (listed:Array Bool) (a:Act) (w:World) (β:Nat→Option Nat),(∀ k,k<ops.size→listed.getD k false=true)→FR c.N w0 J (sig tr s0 (fun k=>listed.getD k false) ops.size) a w β→Q .normal a w:=by
  intro listed a w β bA hF;refine hQ a w β (hF.ext (fun k=>?_) (fun k=>?_))
  ·rw [jn,hlen,yA,yA];exact yC _ _ _ _ _ (fun k hk _=>(bA k hk).symm)
  ·rw [jn,hlen,xm,xm];exact yC _ _ _ _ _ (fun k hk _=>(bA k hk).symm)
 have dZ:∀ (listed:Array Bool),listed.size=ops.size→Region.ready .any ops listed=[]→∀ k,k<ops.size→listed.getD k false=true:=by
  intro listed aF hr k
  induction k using Nat.strongRecOn with
  | _ k ih=>
   intro hk;cases hl:listed.getD k false with
   | true => rfl
   | false=>
    exfalso;have:k∈Region.ready .any ops listed:=by
     rw [mem_ready];refine ⟨by rw [ff listed k zc];exact hl,ops.toList.getD k default,by simp [hk],fun e he hb=>?_⟩;have aM:=cI k hk e (by simpa using he) hb;exact ih e.on aM zc
    rw [hr] at this;simp at this
 intro fuel
 induction fuel with
 | zero=>
  intro listed a w β aF cb jN hF;have bA:=XT (S:=fun k=>listed.getD k false) ops.size zc;refine ⟨?_,gO listed a w β bA hF⟩;cases hr:Region.ready .any ops listed with
  | nil => rfl
  | cons i l =>
   exfalso;have:i∈Region.ready .any ops listed:=by rw [hr];simp
   rw [mem_ready] at this;obtain ⟨h0,o,ho,_⟩:=this;have hi:i<ops.size:=(yQ.1 ho).1;rw [ff listed i zc,bA i hi] at h0;cases h0
 | succ fuel ih=>
  intro listed a w β aF cb jN hF;refine ⟨fun hr=>gO listed a w β (dZ listed aF hr) hF,fun i hi=>?_⟩;rw [mem_ready] at hi;obtain ⟨h0,o,ho,bA⟩:=hi;have dc:i<ops.size:=(yQ.1 ho).1;rw [ff listed i zc] at h0;have jV:ops.toList.getD i default=o:=by simp [yE,ho]
  obtain ⟨eW,ny⟩:=eV i dc;rw [jV] at eW;have cr : ∀ k,k<ops.size→(k == i || listed.getD k false)=true→∀ e∈(ops.toList.getD k default).after.toList,Region.binds .any e=true→(e.on == i || listed.getD e.on false)=true:=by
   intro k hk hS e he hb;by_cases fU:k=i
   ·subst fU;rw [jV] at he;rw [bA e (by simpa using he) hb,Xm]
   ·have:(k == i)=false:=by simpa using fU
    rw [this,yU] at hS;rw [cb k hk hS e he hb,Xm]
  have jJ:∀ j∈(gv ops.toList []).getD i [],(j == i || listed.getD j false)=true:=
   XN (fun k=>k == i || listed.getD k false) ops.toList [] (fun i hi=>by simp at hi) (fun k hk hS e he hb=>cr k (by simpa using hk) (by simpa using hS) e he hb) (fun k hk e he hb=>by simpa using cI k (by simpa using hk) e he hb) i (by simpa using dc) zd
  have gJ:∀ k,listed.getD k false=true→k<ops.size→∀ j∈(gv ops.toList []).getD k [],listed.getD j false=true:=fun k hS hk=>
   XN (fun k=>listed.getD k false) ops.toList [] (fun i hi=>by simp at hi) (fun k hk hS e he hb=>cb k (by simpa using hk) (by simpa using hS) e he hb) (fun k hk e he hb=>by simpa using cI k (by simpa using hk) e he hb) k (by simpa using hk) hS
  have jK:∀ k,k<ops.size→∀ j∈(gv ops.toList []).getD k [],j<k∨j=k→True:=fun _ _ _ _ _=>trivial;have cQ:∀ k,k<i→yH ops (tr.getD k default) (tr.getD i default)=true∨listed.getD k false=true:=by
   intro k hk;rcases cV i dc k hk with h|h
   ·have:=jJ k h;have bM:(k == i)=false:=by simp;omega
    rw [bM,yU] at this;exact .inr this
   ·exact .inl h
  have bP:∀ k,i<k→k<ops.size→listed.getD k false=true→yH ops (tr.getD i default) (tr.getD k default)=true:=by
   intro k hk dY hS;rcases cV k dY i hk with h|h
   ·rw [gJ k hS dY i h] at h0;cases h0
   ·exact h
  have fQ:∀ {r q:Rec},yH ops r q=true→(∀ d,r.o.dst=some d→d∉q.o.looksAt ops)∧(∀ d,r.o.dst=some d→q.o.dst≠some d)∧(∀ d,q.o.dst=some d→d∉r.o.looksAt ops)∧
    (∀ id,(yR r.wr id).isSome→id∉q.ft∧yR q.wr id=none)∧(∀ id,(yR q.wr id).isSome→id∉r.ft):=by
   intro r q h;unfold yH at h;rw [zC,zC] at h;obtain ⟨⟨h1,h2⟩,h3⟩:=h;obtain ⟨k1,k2,k3⟩:=Oper.apart_spec h1;rw [zG] at h2 h3;refine ⟨k1,k2,k3,fun id hid=>?_,fun id hid=>?_⟩
   ·obtain ⟨p,hp,rfl⟩:=zM.1 (xi hid);have:=h2 p hp;rw [zC] at this;refine ⟨by simpa using this.1,?_⟩;cases hl:yR q.wr p.1 with
    | none => rfl
    | some b =>
     have hm:=xi (l:=q.wr) (id:=p.1) (by rw [hl];rfl);have h4:=this.2;simp only [Vi,Vk,decide_eq_false_iff_not] at h4;exact absurd hm h4
   ·obtain ⟨p,hp,rfl⟩:=zM.1 (xi hid);have:=h3 p hp;simpa using this
  have cG:∀ t∈(tr.getD i default).o.looksAt ops,(sig tr s0 (fun k=>listed.getD k false) ops.size).get t=(sig tr s0 (fun _=>true) i).get t:=by
   intro t ht;rw [yA,yA];obtain ⟨m,hm⟩:∃ m,ops.size=i+m:=⟨ops.size - i,by omega⟩
   rw [hm,yO _ _ _ i m]
   ·refine yC _ _ _ _ _ (fun k hk hu=>?_);rcases cQ k hk with h|h
    ·exfalso;unfold VQ at hu;split at hu
     ·rename_i hd;exact (fQ h).1 t hd ht
     ·simp at hu
    ·exact h
   ·intro k c0 dY hS;rcases XB c0 with e|aM
    ·subst e;rw [h0] at hS;cases hS
    ·unfold VQ;rw [if_neg];intro hd;exact (fQ (bP k aM zc hS)).2.2.1 t hd ht
  have fW:∀ id∈(tr.getD i default).ft,(sig tr s0 (fun k=>listed.getD k false) ops.size).ob id=(sig tr s0 (fun _=>true) i).ob id:=by
   intro id hid;rw [xm,xm];obtain ⟨m,hm⟩:∃ m,ops.size=i+m:=⟨ops.size - i,by omega⟩
   rw [hm,yO _ _ _ i m]
   ·refine yC _ _ _ _ _ (fun k hk hu=>?_);rcases cQ k hk with h|h
    ·exact absurd hid ((fQ h).2.2.2.1 id hu).1
    ·exact h
   ·intro k c0 dY hS;rcases XB c0 with e|aM
    ·subst e;rw [h0] at hS;cases hS
    ·cases hl:yR (tr.getD k default).wr id with
     | none => rfl
     | some b => exact absurd hid ((fQ (bP k aM zc hS)).2.2.2.2 id (by rw [hl]; rfl))
  have lC:=ny.loc cG fW;refine lC.wpOp hF (by rw [eW];exact ho) (fun a' w' aP fP=>?_);have fo:∀ k,(listed.setIfInBounds i true).getD k false=(k == i || listed.getD k false):=by
   intro k;by_cases fU:k=i
   ·subst fU;have:k<listed.size:=by omega
    simp [this]
   ·have bM:(k == i)=false:=by simpa using fU
    rw [bM,yU];simp [pT (fun e=>fU e.symm)]
  have gP:(fun k=>(listed.setIfInBounds i true).getD k false)=(fun k=>k == i || listed.getD k false):=funext fo;refine ih _ a' w' aP (by simp [aF]) (fun k hk hS e he hb=>?_) ?_ ?_
  ·rw [fo] at hS ⊢;exact cr k hk hS e he hb
  ·rw [gP];have:=Vr (S:=fun k=>listed.getD k false) h0 ops.size dc;omega
  ·rw [gP];refine fP.ext (fun t=>?_) (fun id=>?_)
   ·rw [ZH,yA,yA];refine YO _ _ _ i h0 ops.size dc (fun k c0 dY hS hu=>?_);cases hJ:VQ (tr.getD i default) t with
    | none => rfl
    | some v=>
     exfalso;unfold VQ at hu hJ;split at hJ
     ·rename_i ku;split at hu
      ·rename_i ja;exact (fQ (bP k c0 dY hS)).2.1 t ku ja
      ·simp at hu
     ·cases hJ
   ·rw [YJ,xm,xm];refine YO _ _ _ i h0 ops.size dc (fun k c0 dY hS hu=>?_);cases hJ:yR (tr.getD i default).wr id with
    | none => rfl
    | some v =>
     exfalso;have:=((fQ (bP k c0 dY hS)).2.2.2.1 id (by rw [hJ];rfl)).2;rw [this] at hu;cases hu
theorem UG {s0 s' : ab} {tr:List Rec} (hx:gl c ops s0 ops.toList tr s') (df:ZD ops tr=true) (hQ:∀ a w β,FR c.N w0 J s' a w β→Q .normal a w) (hF:FR c.N w0 J s0 a w β) :
  wpAny c.P .any ops Q ops.size (Array.replicate ops.size false) a { w with drawn:=w.drawn+1 }:=by
 refine tM hx df hQ ops.size _ a _ β zd (fun i hi hS=>?_) ?_ ?_
 ·have:(Array.replicate ops.size false).getD i false=false:=by simp [hi]
  rw [this] at hS;cases hS
 ·have key:∀ n,fw (fun k=>(Array.replicate ops.size false).getD k false) n≤n:=by
   intro n
   induction n with
   | zero => exact zm _
   | succ n ih => unfold fw; split <;> omega
  exact key _
 ·have hD:FR c.N w0 J s0 a { w with drawn:=w.drawn+1 } β:=hF.grow ⟨rfl,rfl,rfl,zm _,fun _ _=>rfl⟩;refine hD.ext (fun t=>?_) (fun id=>?_)
  ·have key:=yO (fun k=>VQ (tr.getD k default) t) (fun k=>(Array.replicate ops.size false).getD k false) (s0.get t) 0 ops.size (fun k _ hk hS=>by
    have:(Array.replicate ops.size false).getD k false=false:=by
     rw [Yh];cases h:(Array.replicate ops.size false)[k]? with
     | none => rfl
     | some b => rw [nZ] at h; split at h <;> simp_all
    rw [this] at hS;cases hS)
   rw [zR] at key;rw [yA,key];rfl
  ·have key:=yO (fun k=>yR (tr.getD k default).wr id) (fun k=>(Array.replicate ops.size false).getD k false) (s0.ob id) 0 ops.size (fun k _ hk hS=>by
    have:(Array.replicate ops.size false).getD k false=false:=by
     rw [Yh];cases h:(Array.replicate ops.size false)[k]? with
     | none => rfl
     | some b => rw [nZ] at h; split at h <;> simp_all
    rw [this] at hS;cases hS)
   rw [zR] at key;rw [xm,key];rfl
end
def fL (K:Act→World→Prop):Exit→Act→World→Prop
 | .normal, a, w => K a w
 | _, _, _ => False
def ij (P:Program):Code→(Exit→Act→World→Prop)→Act→World→Prop
 | .skip, Q, a, w => Q .normal a w
 | .label _, Q, a, w => Q .normal a w
 | .exit id, Q, a, w => Q (.exit id) a w
 | .ret, Q, a, w => Q .ret a w
 | .seq x y, Q, a, w => ij P x (Exit.then (ij P y Q) Q) a w
 | .block id x, Q, a, w => ij P x (Exit.inBlock id Q) a w
 | .cond c x y, Q, a, w => ∃ t, a.eval c=.bool t ∧ (t=true → ij P x Q a w) ∧ (t=false → ij P y Q a w)
 | .loop x, Q, a, w => ∃ (I:Nat → Act → World → Prop) (n:Nat), I n a w ∧ ∀ n a w, I n a w → ij P x (Exit.then (fun a w => ∃ m, m<n ∧ I m a w) Q) a w
 | .region _ ops false, Q, a, w => wpList P ops (fL (Q .normal)) ops.toList a w
 | .region _ ops true, Q, a, w => wpAny P .any ops (fL (Q .normal)) ops.size (Array.replicate ops.size false) a { w with drawn := w.drawn+1 }
 | _, _, _, _ => False
section
variable {P:Program}
theorem Wn (K:Act→World→Prop):¬ LetsOut (fL K):=fun ⟨_,_,h⟩=>h
theorem Wo {o:Oper} {K' G G' : Act→World→Prop} (h:∀ a w,K a w→K' a w) (hg:∀ a w,G a w→G' a w) (hh:o.wp P a w K (fL G)):o.wp P a w K' (fL G'):=by
 unfold Oper.wp at *;generalize (execOp a.eval o).run P w=r at *;cases r with
 | ok n w'=>
  cases n <;> simp only [Oper.upon] at hh ⊢ <;>
   first
    | exact h _ _ hh
    | exact Calls.mono hh (fun e wD he => by cases e <;> first|exact h _ _ he|exact he.elim|(obtain ⟨_, _, q⟩ := he; exact q.elim))
    | exact Rows.mono hh (fun _ _ he => h _ _ he)
 | halt x w' => cases x <;> simp only [Oper.upon] at hh ⊢ <;> exact hh.elim
theorem ZJ {ops:Array Oper} {K K' : Act→World→Prop} (h:∀ a w,K a w→K' a w):∀ {l:List Oper} {a:Act} {w:World},wpList P ops (fL K) l a w→wpList P ops (fL K') l a w
 | [], a, w, hh => h a w hh
 | o::l,a,w,hh=>by
  unfold wpList at hh ⊢;split
  ·rename_i hw;rw [if_pos hw] at hh;rcases hh with hh|hh
   ·exact .inl (Wo (fun a w q=>ZJ h q) h hh)
   ·exact absurd hh.2 (Wn _)
  ·rename_i hw;rw [if_neg hw] at hh;exact ZJ h hh
theorem sY {K' G G' : Act→World→Prop} (h:∀ a w,K a w→K' a w) (hg:∀ a w,G a w→G' a w) (hh:wpOp P ops (fL G) i K a w):wpOp P ops (fL G') i K' a w:=by
 unfold wpOp at *;split
 ·rename_i ho;rw [ho] at hh;exact h _ _ hh
 ·rename_i o ho;rw [ho] at hh;dsimp only at hh;split
  ·rename_i hw;rw [if_pos hw] at hh;rcases hh with hh|hh
   ·exact .inl (Wo h hg hh)
   ·exact absurd hh.2 (Wn _)
  ·rename_i hw;rw [if_neg hw] at hh;exact h _ _ hh
theorem Wz {ops:Array Oper} {K K' : Act→World→Prop} (h:∀ a w,K a w→K' a w):∀ {fuel:Nat} {listed:Array Bool} {a:Act} {w:World},wpAny P .any ops (fL K) fuel listed a w→wpAny P .any ops (fL K') fuel listed a w
 | 0, _, a, w, hh => ⟨hh.1, h a w hh.2⟩
 | fuel+1, listed, a, w, hh => ⟨fun e => h a w (hh.1 e), fun i hi => sY (fun a w q => Wz h q) h (hh.2 i hi)⟩
theorem yL:∀ {c:Code} {Q Q' : Exit→Act→World→Prop} {a:Act} {w:World},ij P c Q a w→(∀ e a w,Q e a w→Q' e a w)→ij P c Q' a w
 | .skip, _, _, _, _, h, hq => hq _ _ _ h
 | .label _, _, _, _, _, h, hq => hq _ _ _ h
 | .exit _, _, _, _, _, h, hq => hq _ _ _ h
 | .ret, _, _, _, _, h, hq => hq _ _ _ h
 | .seq x y,Q,Q',a,w,h,hq=>yL (c:=x) h fun e a w q=>by
   cases e <;> first|exact yL (c:=y) q hq|exact hq _ _ _ q
 | .block id x,Q,Q',a,w,h,hq=>yL (c:=x) h fun e a w q=>by
   cases e with
   | exit aN =>
    simp only [Exit.inBlock] at q ⊢;split
    ·rename_i e;rw [if_pos e] at q;exact hq _ _ _ q
    ·rename_i e;rw [if_neg e] at q;exact hq _ _ _ q
   | _ => exact hq _ _ _ q
 | .cond c x y, Q, Q', a, w, ⟨t, h, h1, h2⟩, hq => ⟨t, h, fun e => yL (c := x) (h1 e) hq, fun e => yL (c := y) (h2 e) hq⟩
 | .loop x,Q,Q',a,w,⟨I,n,h0,h⟩,hq=>⟨I,n,h0,fun n a w hi=>yL (c:=x) (h n a w hi) fun e a w q=>by
   cases e <;> first|exact q|exact hq _ _ _ q⟩
 | .region _ ops false, _, _, _, _, h, hq => ZJ (fun a w q => hq _ _ _ q) h
 | .region _ ops true, _, _, _, _, h, hq => Wz (fun a w q => hq _ _ _ q) h
theorem XV (hm:P.follows .mixedOrders=true):∀ {c:Code} {Q:Exit→Act→World→Prop} {a:Act} {w:World},ij P c Q a w→c.wp P Q a w
 | .skip, _, _, _, h => wp_skip h
 | .label _, _, _, _, h => wp_label h
 | .exit _, _, _, _, h => wp_exit h
 | .ret, _, _, _, h => wp_ret h
 | .seq x y, Q, a, w, h => wp_seq (XV hm (yL (c := x) h fun e a w q => by cases e <;> first|exact XV hm (c := y) q|exact q))
 | .block id x, Q, a, w, h => wp_block (XV hm (c := x) h)
 | .cond c x y, Q, a, w, ⟨t, h, h1, h2⟩ => by
  cases t with
  | true => exact wp_cond_true h (XV hm (c := x) (h1 rfl))
  | false => exact wp_cond_false h (XV hm (c := y) (h2 rfl))
 | .loop x, Q, a, w, ⟨I, n, h0, h⟩ => wp_loop_ghost I n h0 fun n a w hi => XV hm (c := x) (h n a w hi)
 | .region _ ops false, Q, _, _, h => wp_mono (wp_region_list h) fun e a w q => by cases e <;> first|exact q|exact q.elim
 | .region _ ops true, Q, _, _, h => wp_mono (wp_region_any hm h) fun e a w q => by cases e <;> first|exact q|exact q.elim
/-! in a round -/
section
variable {l n:Nat}
end
/-! the slots that the code does not write -/
end
end
end Go.Proofs.YtedkppfghdipdaaGreatDoor
