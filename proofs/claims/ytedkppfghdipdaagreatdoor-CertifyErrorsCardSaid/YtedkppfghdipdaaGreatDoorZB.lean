/-
  Lemmas, in parts.
-/
import Derived.Test.YtedkppfghdipdaaGreatDoorZA
import Derived.ArgAppend
import Derived.Laws.CopyRow
import Derived.Laws.IdiomCopy
import Derived.Laws.StructEq
import Derived.Orders
import Derived.Deep.LoopGhost
import Derived.RangeFuncRecord
import Derived.OrdersIn
import Derived.TacticsIn
import Derived.RangeFuncCalls
namespace Go.Proofs.YtedkppfghdipdaaGreatDoor
set_option linter.unusedVariables false
set_option maxHeartbeats 16000000
variable {w:World} {I:Nat→Prop} {N T clock d i j aa:Nat} {k ty:TypeId} {b bb found:Bool} {au:Array MapEntry} {x y:Operand} {α:Type} {xs:Array Operand} {c:Ctx} {J:JJ} {a:Act} {β:Nat→Option Nat} {dst:Option Nat} {pos:String} {after:Array Edge} {g:Option (Nat×Bool)} {K:Act→World→Prop} {op:Op} {Q:Exit→Act→World→Prop} {lo:Option Operand} {ops:Array Oper}
section
open Go.RowKit Go.Maps Go.MapKept Go.ChangeMaps
theorem Rd.bS {v:Value} {f:FV} (h:Rd w I v f) (hf:f.simple=true):v=f.val:=by
 have one:∀ {u:Value} {g:FV},Rd w I u g→g.aG=true→u=g.cd:=by
  intro u g hu hg;cases hu <;> first|rfl|(simp [FV.aG] at hg)
 cases h with
 | agg us fs hl hr=>
  show Value.agg us.toArray=Value.agg (fs.map FV.cd).toArray;congr 2;refine List.ext_getElem? fun j=>?_;rw [xy];rcases yd j us.length with hj|hj
  ·have fV:j<fs.length:=by rw [← hl];exact hj
   have e1:us[j]? = some us[j]:=by simp [hj]
   have e2:fs[j]? = some fs[j]:=by simp [fV]
   rw [e1,e2,xG];congr 1;exact one (hr j _ _ e1 e2) (zI.1 hf _ (yw fV))
  ·have fV:fs.length≤j:=by rw [← hl];exact hj
   simp [hj,fV]
 | int k n => rfl
 | bool b => rfl
 | str s => rfl
 | _ => simp [FV.simple, FV.aG] at hf
theorem WS {f g:FV} (hf:f.aG=true) (hg:g.aG=true) (h:f.cd=g.cd):f=g:=by
 cases f <;> simp [FV.aG] at hf <;> cases g <;> simp [FV.aG] at hg <;> simp [FV.cd] at h <;> first|(obtain ⟨rfl,rfl⟩:=h;rfl)|(subst h;rfl)
theorem Wf:∀ {fs gs:List FV},fs.all FV.aG=true→gs.all FV.aG=true→fs.map FV.cd=gs.map FV.cd→fs=gs
 | [], [], _, _, _ => rfl
 | [], _ :: _, _, _, h => by simp at h
 | _ :: _, [], _, _, h => by simp at h
 | f :: fs, g :: gs, hf, hg, h => by
  simp only [Xj,zA] at hf hg;simp only [yn,List.cons.injEq] at h;rw [WS hf.1 hg.1 h.1,Wf hf.2 hg.2 h.2]
theorem D7 {f g:FV} (hf:f.simple=true) (hg:g.simple=true) (h:f.val=g.val):f=g:=by
 cases f with
 | agg cs=>
  cases g with
  | agg ds =>
   have:(cs.map FV.cd).toArray=(ds.map FV.cd).toArray:=by simpa [FV.val] using h
   rw [Wf hf hg (by simpa using congrArg Array.toList this)]
  | _ => first|(simp [FV.simple, FV.aG] at hg; done)|(simp [FV.val, FV.cd] at h)
 | int k n =>
  cases g <;> first|(simp [FV.simple,FV.aG] at hg;done)|(simp [FV.val,FV.cd] at h;done)|exact WS hf hg h
 | bool b =>
  cases g <;> first|(simp [FV.simple,FV.aG] at hg;done)|(simp [FV.val,FV.cd] at h;done)|exact WS hf hg h
 | str b =>
  cases g <;> first|(simp [FV.simple,FV.aG] at hg;done)|(simp [FV.val,FV.cd] at h;done)|exact WS hf hg h
 | _ => simp [FV.simple, FV.aG] at hf
def YH (P:Program) (k:TypeId) (kf:FV):Prop:=kf.simple=true∧∃ l,keyOf P k kf.val=some l
def TS.kU (ts:TS):FV:=
 match ts.k.aW with
 | some true => .agg ts.zero
 | _ => ts.zero.headD .undef
def VO (es:List (List FV)) (kf z:FV) (vf:FV) (b:Bool):Prop:=(b=true∧[kf,vf]∈es)∨(b=false∧vf=z∧∀ row∈es,row.head?≠some kf)
def oU (es:List (List FV)) (kf vf:FV) (aY : List (List FV)):Prop:=
 (∃ (j:Nat) (v0:FV),es[j]? = some [kf,v0]∧aY=es.set j [kf,vf])∨((∀ row∈es,row.head?≠some kf)∧aY=es++[[kf,vf]])
structure Mp (w:World) (I:Nat→Prop) (b clock:Nat) (au:Array MapEntry) (es:List (List FV)):Prop where
 hb:w.heap[b]? = some (.map au clock)
 st:Stamped au clock
 sz:au.size=es.length
 ks:∀ (j:Nat) e row,au[j]? = some e→es[j]? = some row→∃ kf vf,row=[kf,vf]∧kf.simple=true∧e.key=kf.val
 vs:∀ (j:Nat) e row f,au[j]? = some e→es[j]? = some row→row[1]? = some f→Rd w I e.val f
section
variable {w:World} {I:Nat→Prop} {b clock:Nat} {au:Array MapEntry} {es:List (List FV)} {P:Program}
theorem Mp.row (h:Mp w I b clock au es) {e:MapEntry} (he:au[j]? = some e):∃ kf vf,es[j]? = some [kf,vf]∧kf.simple=true∧e.key=kf.val∧Rd w I e.val vf:=by
 have hj:j<es.length:=by rw [← h.sz];exact (yy.1 he).1
 have hr:es[j]? = some es[j]:=by simp [hj]
 obtain ⟨kf,vf,e1,e2,e3⟩:=h.ks j e _ he hr;refine ⟨kf,vf,by rw [hr,e1],e2,e3,h.vs j e _ vf he hr (by rw [e1];rfl)⟩
theorem Mp.sQ (h:Mp w I b clock au es) {row:List FV} (hr:es[j]? = some row):∃ e,au[j]? = some e:=by
 have hj:j<au.size:=by rw [h.sz];exact (ye.1 hr).1
 exact ⟨au[j],by simp [hj]⟩
theorem Mp.keys (h:Mp w I b clock au es) (hk:∀ row∈es,∀ kf,row.head? = some kf→YH P k kf):∀ e∈au.toList,∃ l,keyOf P k e.key=some l:=fun e he=>by
 obtain ⟨j,hj⟩:=UN he;have ko : au[j]? = some e:=by simpa using hj
 obtain ⟨kf,vf,e1,_,e3,_⟩:=h.row ko;obtain ⟨_,l,hl⟩:=hk _ (ya e1) kf rfl;exact ⟨l,by rw [e3];exact hl⟩
theorem Mp.find (h:Mp w I b clock au es) (K:Keyed P k) (hk:∀ row∈es,∀ kf,row.head? = some kf→YH P k kf) {kf:FV} (cp:YH P k kf) :
  ((Instr.findKey k kf.val au.toList).run P w=.ok none w∧(∀ e∈au.toList,e.key≠kf.val)∧∀ row∈es,row.head?≠some kf)∨
  ∃ (j:Nat) (e:MapEntry) (vf:FV),(Instr.findKey k kf.val au.toList).run P w=.ok (some (j,e.val)) w∧au[j]? = some e∧e.key=kf.val∧es[j]? = some [kf,vf]∧Rd w I e.val vf∧∀ i v,es[i]? = some [kf,v]→i=j:=by
 obtain ⟨hs,l,hl⟩:=cp;rcases K.find w hl au.toList (h.keys hk) with ⟨h1,h2⟩|⟨j,e0,h1,h2,h3⟩
 ·refine .inl ⟨h1,h2,fun row hr hh=>?_⟩;obtain ⟨j,hj⟩:=UN hr;obtain ⟨e,he⟩:=h.sQ hj;obtain ⟨pn,vf,e1,_,e3,_⟩:=h.row he;rw [hj] at e1;injection e1 with e1
  subst e1;injection hh with hh
  subst hh;exact h2 e (ya (by simpa using he)) e3
 ·have iy : au[j]? = some e0:=by simpa using h2
  obtain ⟨pn,vf,e1,e2,e3,e4⟩:=h.row iy;have:pn=kf:=D7 e2 hs (by rw [← e3,h3]);subst this;refine .inr ⟨j,e0,vf,h1,iy,h3,e1,e4,fun i v hi=>?_⟩;obtain ⟨e,he⟩:=h.sQ hi;obtain ⟨Ao,rF,q1,_,q3,_⟩:=h.row he;rw [hi] at q1;injection q1 with q1
  injection q1 with q1 _
  subst q1;have hd:=((stamped_iff au clock).1 h.st).2.2;have nT:i<au.toList.length:=by have:=(yy.1 he).1;simpa using this
  have dN:j<au.toList.length:=by have:=(yy.1 iy).1;simpa using this
  have ei:au.toList[i].key=pn.val:=by have:=(yy.1 he).2;simp only [Array.getElem_toList];rw [this,q3]
  have ej:au.toList[j].key=pn.val:=by have:=(yy.1 iy).2;simp only [Array.getElem_toList];rw [this,h3]
  rcases Nat.lt_trichotomy i j with aD|heq|qx
  ·exact absurd (ei.trans ej.symm) (WA.1 hd i j nT dN aD)
  ·exact heq
  ·exact absurd (ej.trans ei.symm) (WA.1 hd j i dN nT qx)
end
section
variable {c:Ctx} {w0 w:World} {J:JJ} {s:ab} {a:Act} {β:Nat→Option Nat} {dst:Option Nat} {ty:TypeId} {pos:String} {after:Array Edge} {g:Option (Nat×Bool)}
theorem DN {c:Ctx} (hk:(c.ty T).k.aW = some bb) (w:World) (I:Nat→Prop):∃ z,(zeroValue T).run c.P w=.ok z w∧Rd w I z (c.ty T).kU:=by
 obtain ⟨d,i,z,h⟩:=c.get rfl (vg hk);refine ⟨z,by simp [zeroValue,typeInfo,h.info,h.zo],?_⟩;have hz:=ay.zeros (w:=w) (I:=I) h.zr;have m8:=h.zk;unfold sx at m8;unfold TS.kU;rw [hk] at m8 ⊢;cases bb with
 | true =>
  dsimp only at m8 ⊢;cases z <;> simp at m8
  rename_i cs;have:=Rd.agg (w:=w) (I:=I) cs.toList (c.ty T).zero hz.1 hz.2;simpa using this
 | false=>
  dsimp only at m8 ⊢;have hc:z.cells.toList=[z]:=by
   cases z <;> first|rfl|(simp at m8)
  rw [hc] at hz;cases tS:(c.ty T).zero with
  | nil => rw [tS] at hz; have := hz.1; simp at this
  | cons f fs => rw [tS] at hz; exact hz.2 0 z f rfl rfl
theorem uJ {k e:Nat} (hT:(c.ty T).k=.map k e) (he:(c.ty e).k.aW = some bb) (K:Keyed c.P k) {b:Nat} {es:List (List FV)} (h:Mp w I b clock au es)
  (hk:∀ row∈es,∀ kf,row.head? = some kf→YH c.P k kf) {kf:FV} (cp:YH c.P k kf) (ok:Bool) {vf:FV} (hl:VO es kf (c.ty e).kU vf found) :
  ∃ v,(Instr.lookup T (.map (some b)) kf.val ok).run c.P w=.ok v w∧Rd w I v (if ok then .bN [vf,.bool found] else vf):=by
 obtain ⟨d,ii,z,ht⟩:=c.get hT zd;have hd:=ht.k;rw [hT] at hd;obtain rfl:=rN hd;obtain ⟨l,kq⟩:=cp.2;obtain ⟨zv,hz,m9⟩:=DN he w I;rcases h.find K hk cp with ⟨h1,_,h2⟩|⟨j,e0,rF,h1,h2,h3,h4,h5,h6⟩
 ·have hv:vf=(c.ty e).kU∧found=false:=by
   rcases hl with ⟨_,hm⟩|⟨hb,hv,_⟩
   ·exact absurd rfl (h2 _ hm)
   ·exact ⟨hv,hb⟩
  obtain ⟨rfl,rfl⟩:=hv;cases ok
  ·exact ⟨zv,by simp [Instr.lookup,run_underlying ht.u,xz h.hb,K.check w _ kq,h1,hz,Result.andThen],m9⟩
  ·refine ⟨.tuple #[zv,.bool false],by simp [Instr.lookup,run_underlying ht.u,xz h.hb,K.check w _ kq,h1,hz,Result.andThen],?_⟩;have:=ay.cons m9 (ay.cons (Rd.bool (w:=w) (I:=I) false) ay.nil);exact .bN [zv,.bool false] _ this.1 this.2
 ·have hv:vf=rF∧found=true:=by
   rcases hl with ⟨hb,hm⟩|⟨_,_,hm⟩
   ·obtain ⟨i,hi⟩:=UN hm;have:=h6 i vf hi;subst this;rw [h4] at hi;simp at hi;exact ⟨hi.symm,hb⟩
   ·exact absurd rfl (hm _ (ya h4))
  obtain ⟨rfl,rfl⟩:=hv;cases ok
  ·exact ⟨e0.val,by simp [Instr.lookup,run_underlying ht.u,xz h.hb,K.check w _ kq,h1,Result.andThen],h5⟩
  ·refine ⟨.tuple #[e0.val,.bool true],by simp [Instr.lookup,run_underlying ht.u,xz h.hb,K.check w _ kq,h1,Result.andThen],?_⟩;have:=ay.cons h5 (ay.cons (Rd.bool (w:=w) (I:=I) true) ay.nil);exact .bN [e0.val,.bool true] _ this.1 this.2
theorem FR.mp (h:FR c.N w0 J s a w β) {id:Nat} (ex:s.ev x=.omap id aa) (hl:s.live id aa) (hm:(s.ob id).ag≠.bH):∃ b clock au,a.eval x=.map (some b)∧β id=some b∧Mp w (aR J w β s) b clock au (s.ob id).es:=by
 obtain ⟨aJ,b,hb,hv⟩:=h.fe ex hl.1 hl.2;obtain ⟨b',clock,au,h1,h2,h3,h4,h5,h6,h7⟩:=((h.obj id hl.1).iN aJ hm).ex;rw [hb] at h1;injection h1 with h1
 subst h1;exact ⟨b,clock,au,hv,hb,h3,h4,h5,h6,h7⟩
theorem FR.AG (h:FR c.N w0 J s a w β) {es:List (List FV)} (ex:s.ev x=.smap es):∃ b clock au,a.eval x=.map (some b)∧Mp w (aR J w β s) b clock au es:=by
 have hr:=h.a9 ex rfl;generalize a.eval x=v at hr;cases hr with
 | smap b clock au es hI hb br hl hk hr => exact ⟨b, clock, au, rfl, hb, br, hl, hk, hr⟩
theorem Co (h:FR c.N w0 J s a w β) {k e:Nat} (hT:(c.ty T).k=.map k e) (he:(c.ty e).k.aW = some bb) (K:Keyed c.P k) (x y:Operand) (ok:Bool) {es:List (List FV)}
  (ex:(∃ id aa,s.ev x=.omap id aa∧(s.live id aa∧(s.ob id).ag≠.bH)∧(s.ob id).es=es)∨s.ev x=.smap es) {kf:FV} (ey:s.ev y=kf) (hk:∀ row∈es,∀ kf,row.head? = some kf→YH c.P k kf) (cp:YH c.P k kf)
  {vf:FV} (hl:VO es kf (c.ty e).kU vf found) (hn:vf.hand=none) :
  yK c w0 J s a ⟨dst,.lookup T x y ok,ty,pos,after,g⟩ w (if ok then .bN [vf,.bool found] else vf) []:=by
 obtain ⟨b,clock,au,hx,hm⟩:∃ b clock au,a.eval x=.map (some b)∧Mp w (aR J w β s) b clock au es:=by
  rcases ex with ⟨id,aa,e1,e2,rfl⟩|e1
  ·obtain ⟨b,clock,au,h1,_,h2⟩:=h.mp e1 e2.1 e2.2;exact ⟨b,clock,au,h1,h2⟩
  ·exact h.AG e1
 have hy:a.eval y=kf.val:=(h.a9 ey (by have:=cp.1;cases kf <;> first|rfl|(simp [FV.simple,FV.aG] at this))).bS cp.1;obtain ⟨v,h1,h2⟩:=uJ (w:=w) hT he K hm hk cp ok hl;refine .rd h (v:=v) (by simp [execOp,hx,hy,h1]) h2 ?_;cases ok
 ·exact hn
 ·rfl
theorem FR.mD (h:FR c.N w0 J s a w β) (d T:Nat):FR c.N w0 J (s.set d ⟨(s.ob d).aa+1,.bc,T,0,[]⟩) a (w.alloc (.map #[] 0)) (XZ β d (some w.heap.size)):=by
 have hb:=Bp w (.map #[] 0);have hI:∀ b,aR J w β s b→aR J (w.alloc (.map #[] 0)) (XZ β d (some w.heap.size)) (s.set d ⟨(s.ob d).aa+1,.bc,T,0,[]⟩) b∧(w.alloc (.map #[] 0)).heap[b]? = w.heap[b]?:=fun b aP=>by
  refine ⟨⟨xY aP.1 hb.size,aP.2.1,fun id hl=>?_⟩,hb.block b aP.1⟩;rw [ab.av] at hl;unfold XZ;split at hl
  ·rename_i hh;rw [if_pos hh.symm];intro e;injection e with e;have:=aP.1;omega
  ·rename_i hh;rw [if_neg (fun e=>hh e.symm)];exact aP.2.2 id hl
 refine h.step (C:=fun id=>id=d) h.size h.defers (h.bn.trans (hb.mono h.bn.size)) hI (fun k=>.inl ⟨rfl,rfl⟩) (fun id hC=>?_) (fun id hC=>?_) (fun id hC hl fF=>?_) (fun id hC hl _=>?_) ?_ ?_
 ·refine ⟨by rw [ab.av,if_neg (fun e=>hC e.symm)],by unfold XZ;rw [if_neg hC],fun hl b aP=>hb.block b ((h.obj id hl).lt aP).2⟩
 ·subst hC;rw [ab.av,if_pos rfl];exact Nat.le_succ _
 ·subst hC;rw [ab.av,if_pos rfl] at fF;simp at fF
 ·subst hC;rw [ab.av,if_pos rfl,xk];exact .ofMap ⟨w.heap.size,0,#[],rfl,h.bn.size,heap_alloc_new w _,stamped_empty _,rfl,by simp,by simp⟩ rfl (fun e=>by cases e)
 ·intro id ba b hl bw e e';rw [ab.av] at hl bw;unfold XZ at e e';by_cases h1:id=d
  ·by_cases h2:ba=d
   ·rw [h1,h2]
   ·rw [if_pos h1] at e;rw [if_neg h2] at e';rw [if_neg (fun e=>h2 e.symm)] at bw;injection e with e;have:=((h.obj ba bw).lt e').2;omega
  ·by_cases h2:ba=d
   ·rw [if_neg h1] at e;rw [if_pos h2] at e';rw [if_neg (fun e=>h1 e.symm)] at hl;injection e' with e';have:=((h.obj id hl).lt e).2;omega
   ·rw [if_neg h1] at e;rw [if_neg h2] at e';rw [if_neg (fun e=>h1 e.symm)] at hl;rw [if_neg (fun e=>h2 e.symm)] at bw;exact h.inj id ba b hl bw e e'
 ·intro b aD hn;refine ⟨hb.block b aD,fun id hl e=>?_⟩;rw [ab.av] at hl;unfold XZ at e;by_cases h1:id=d
  ·rw [if_pos h1] at e;injection e with e;omega
  ·rw [if_neg h1] at e;rw [if_neg (fun e=>h1 e.symm)] at hl;exact hn id hl e
theorem Wc (h:FR c.N w0 J s a w β) (d T:Nat):yK c w0 J s a ⟨some d,.makeMap T none,ty,pos,after,g⟩ w (.omap d ((s.ob d).aa+1)) [(d,⟨(s.ob d).aa+1,.bc,T,0,[]⟩)]:=by
 have cZ:(s.wr [(d,(⟨(s.ob d).aa+1,.bc,T,0,[]⟩:yo))]).ob d=⟨(s.ob d).aa+1,.bc,T,0,[]⟩:=(ab.av s d _ d).trans (if_pos rfl);refine ⟨.map (some w.heap.size),w.alloc (.map #[] 0),XZ β d (some w.heap.size),?_,h.mD d T,fun _ _=>⟨by rw [cZ];rfl,w.heap.size,xk _ _ _,rfl⟩,fun id aa e=>?_⟩
 ·have:=run_makeMap (P:=c.P) T w;simp [execOp,this]
 ·simp only [FV.hands,zP,yu] at e;obtain ⟨e1,e2⟩:=e;replace e1:=e1.symm;replace e2:=e2.symm;subst e1;subst e2;rw [cZ];exact zf _
theorem FR.bg (h:FR c.N w0 J s a w β) {id b dJ : Nat} {dt : Array MapEntry} {aY : List (List FV)} (hl:(s.ob id).ag=.bc) (hb:β id=some b) (kC:w.heap[b]? = some (.map au clock)) (st:Stamped dt dJ) (sz:dt.size=aY.length)
  (ks:∀ (j:Nat) e row,dt[j]? = some e→aY[j]? = some row→∃ kf vf,row=[kf,vf]∧kf.simple=true∧e.key=kf.val)
  (vs:∀ (j:Nat) e row f,dt[j]? = some e→aY[j]? = some row→row[1]? = some f→Rd w (aR J w β s) e.val f) :
  FR c.N w0 J (s.set id { s.ob id with es:=aY }) a (setBlock w b (.map dt dJ)) β:=by
 have ak:(s.ob id).ag≠.dead:=by rw [hl];decide
 have aD:=(h.obj id ak).lt hb;have hg:w.grownBy (setBlock w b (.map dt dJ)) (some b):=⟨rfl,rfl,rfl,by simp [setBlock],fun i _ hi=>heap_setBlock_other kC _ (fun e=>hi (by rw [e]))⟩
 have hI:∀ b',aR J w β s b'→aR J (setBlock w b (.map dt dJ)) β (s.set id { s.ob id with es:=aY }) b'∧(setBlock w b (.map dt dJ)).heap[b']? = w.heap[b']?:=fun b' aP=>by
  refine ⟨⟨xY aP.1 hg.size,aP.2.1,fun ba bw=>?_⟩,hg.block b' aP.1 (fun e=>aP.2.2 id (by rw [hl];rfl) (by rw [hb];exact e.symm))⟩;rw [ab.av] at bw;split at bw
  ·rename_i e;subst e;exact aP.2.2 id (by rw [hl];rfl)
  ·exact aP.2.2 ba bw
 refine h.step (C:=fun k=>k=id) h.size h.defers (h.bn.grown hg h.bn.size (fun k hk=>by injection hk with hk;subst hk;exact aD.1)) hI (fun k=>.inl ⟨rfl,rfl⟩) (fun k hC=>?_) (fun k hC=>?_) (fun k hC bC fF=>?_) (fun k hC bC _=>?_) ?_ (fun b' mf hn=>⟨hg.block b' mf (fun e=>hn id ak (by rw [hb];exact e.symm)),fun k bC=>hn k (by rw [ab.av] at bC;split at bC;(· rename_i e;subst e;exact ak);(· exact bC))⟩)
 ·refine ⟨by rw [ab.av,if_neg (fun e=>hC e.symm)],rfl,fun bC b' aP=>hg.block b' ((h.obj k bC).lt aP).2 (fun e=>hC (h.inj k id b' bC ak aP (by rw [hb];exact e.symm)))⟩
 ·subst hC;rw [ab.av,if_pos rfl];exact zf _
 ·subst hC;refine ⟨ak,rfl,by rw [ab.av,if_pos rfl],by rw [ab.av,if_pos rfl],fun v o n hv=>?_⟩;have:=hv.row;rw [hl] at this;cases this
 ·subst hC;rw [ab.av,if_pos rfl];exact .ofMap ⟨b,dJ,dt,hb,aD.1,heap_setBlock_same kC _,st,sz,ks,fun j e row f h1 h2 h3=>(vs j e row f h1 h2 h3).mono hI⟩ (by show (s.ob k).ag.bL=false;rw [hl];rfl) (by show (s.ob k).ag≠.bH;rw [hl];decide)
 ·intro k k' b' bC dO e e';refine h.inj k k' b' ?_ ?_ e e'
  ·rw [ab.av] at bC;split at bC
   ·rename_i e;subst e;exact ak
   ·exact bC
  ·rw [ab.av] at dO;split at dO
   ·rename_i e;subst e;exact ak
   ·exact dO
theorem Vl (h:FR c.N w0 J s a w β) {k e:Nat} (hT:(c.ty T).k=.map k e) (K:Keyed c.P k) (x y z:Operand) {id:Nat} (ex:s.ev x=.omap id aa) (bt:(s.ob id).ag=.bc) (aH:(s.ob id).aa=aa)
  {kf vf:FV} (ey:s.ev y=kf) (ez:s.ev z=vf) (hk:∀ row∈(s.ob id).es,∀ kf,row.head? = some kf→YH c.P k kf) (cp:YH c.P k kf) (hn:vf.hand=none) {aY : List (List FV)} (hs:oU (s.ob id).es kf vf aY) :
  ∃ w',(execOp a.eval ⟨dst,.mapUpdate T x y z,ty,pos,after,g⟩).run c.P w=.ok .skip w'∧FR c.N w0 J (s.wr [(id,{ s.ob id with es:=aY })]) a w' β:=by
 have ak:s.live id aa:=⟨by rw [bt];decide,aH⟩
 obtain ⟨d,ii,zz,ht⟩:=c.get hT zd;have hd:=ht.k;rw [hT] at hd;obtain rfl:=rN hd;obtain ⟨l,kq⟩:=cp.2;obtain ⟨b,clock,au,hx,hb,hm⟩:=h.mp ex ak (by rw [bt];decide);have hy:a.eval y=kf.val:=(h.a9 ey (by have:=cp.1;cases kf <;> first|rfl|(simp [FV.simple,FV.aG] at this))).bS cp.1;have m9:=h.a9 ez hn;generalize tR:a.eval z=u at m9;generalize mW:(s.ob id).es=es at hm hk hs;rcases hm.find K hk cp with ⟨h1,h2,h3⟩|⟨j,e0,rF,h1,h2,h3,h4,h5,h6⟩
 ·have iF : aY=es++[[kf,vf]]:=by
   rcases hs with ⟨j,v0,hj,_⟩|⟨_,he⟩
   ·exact absurd rfl (h3 _ (ya hj))
   ·exact he
  subst iF;refine ⟨setBlock w b (.map (au.push ⟨kf.val,u,clock⟩) (clock+1)),?_,?_⟩
  ·have:(Instr.mapUpdate T (.map (some b)) kf.val u).run c.P w=.ok () (setBlock w b (.map (au.push ⟨kf.val,u,clock⟩) (clock+1))):=by
    simp [Instr.mapUpdate,run_underlying ht.u,xz hm.hb,K.check w false kq,h1,WD _ hm.hb,Result.andThen,setBlock]
   simp [execOp,hx,hy,tR,this]
  ·have bB:∀ (j:Nat) e row,(au.push ⟨kf.val,u,clock⟩)[j]? = some e→(es++[[kf,vf]])[j]? = some row→(au[j]? = some e∧es[j]? = some row)∨(e=⟨kf.val,u,clock⟩∧row=[kf,vf]):=by
    intro j e row he hr;rcases Nat.lt_trichotomy j au.size with hj|hj|hj
    ·left;rw [rU,if_neg za] at he;rw [Yw (by rw [← hm.sz];exact hj)] at hr;exact ⟨he,hr⟩
    ·right;subst hj;rw [rU,if_pos rfl] at he;rw [hm.sz,Xl (zf _),Nat.sub_self] at hr;injection he with he
     injection hr with hr
     exact ⟨he.symm,hr.symm⟩
    ·rw [rU,if_neg za] at he;rw [Array.getElem?_eq_none za] at he;cases he
   refine h.bg bt hb hm.hb (stamped_push hm.st h2) (by simp [hm.sz]) (fun j e row he hr=>?_) (fun j e row f he hr hf=>?_)
   ·rcases bB j e row he hr with ⟨q1,q2⟩|⟨rfl,rfl⟩
    ·exact hm.ks j e row q1 q2
    ·exact ⟨kf,vf,rfl,cp.1,rfl⟩
   ·rcases bB j e row he hr with ⟨q1,q2⟩|⟨rfl,rfl⟩
    ·exact hm.vs j e row f q1 q2 hf
    ·simp at hf;subst hf;exact m9
 ·have iF : aY=es.set j [kf,vf]:=by
   rcases hs with ⟨i,v0,hi,he⟩|⟨cx,_⟩
   ·rw [h6 i v0 hi] at he;exact he
   ·exact absurd rfl (cx _ (ya h4))
  subst iF;have jH:∀ e',au[j]? = some e'→({ e' with key:=kf.val,val:=u }:MapEntry).key=e'.key:=fun e' iF=>by rw [h2] at iF;cases iF;exact h3.symm
  refine ⟨setBlock w b (.map (au.modify j (fun e'=>{ e' with key:=kf.val,val:=u })) clock),?_,?_⟩
  ·have:(Instr.mapUpdate T (.map (some b)) kf.val u).run c.P w=.ok () (setBlock w b (.map (au.modify j (fun e'=>{ e' with key:=kf.val,val:=u })) clock)):=by
    simp [Instr.mapUpdate,run_underlying ht.u,xz hm.hb,K.check w false kq,h1,h2,h3,K.stays w kq,WD _ hm.hb,Result.andThen,setBlock]
   simp [execOp,hx,hy,tR,this]
  ·have bB:∀ (i:Nat) e row,(au.modify j (fun e'=>{ e' with key:=kf.val,val:=u }))[i]? = some e→(es.set j [kf,vf])[i]? = some row→(au[i]? = some e∧es[i]? = some row)∨(e.key=kf.val∧e.val=u∧row=[kf,vf]):=by
    intro i e row he hr;rw [UL] at he;rw [List.getElem?_set] at hr;by_cases fh:j=i
    ·subst fh;right;rw [if_pos rfl,h2] at he;rw [if_pos rfl,if_pos (ye.1 h4).1] at hr;simp only [xG,zK] at he hr;subst he;exact ⟨rfl,rfl,hr.symm⟩
    ·left;rw [if_neg fh] at he hr;exact ⟨he,hr⟩
   refine h.bg bt hb hm.hb (stamped_modify hm.st _ _ (fun _ _=>rfl) (fun e' _ iF=>jH e' iF)) (by simp [hm.sz]) (fun i e row he hr=>?_) (fun i e row f he hr hf=>?_)
   ·rcases bB i e row he hr with ⟨q1,q2⟩|⟨q1,q2,rfl⟩
    ·exact hm.ks i e row q1 q2
    ·exact ⟨kf,vf,rfl,cp.1,q1⟩
   ·rcases bB i e row he hr with ⟨q1,q2⟩|⟨q1,q2,rfl⟩
    ·exact hm.vs i e row f q1 q2 hf
    ·simp at hf;subst hf;rw [q2];exact m9
end
end
section
open Go.RowKit
theorem C5 {X:List α} {p:Nat} (x:α) (h:p<X.length):ai X p [x]=X.set p x:=by
 unfold ai;rw [uQ,if_pos h];simp
theorem Cs {w' : World} (h:w.grownBy w' none) (r:Option Nat):w.grownBy w' r:={ h with block:=fun k hk _=>h.block k hk zd }
theorem YZ (P:Program) (w:World) (t ty e:TypeId) (i:TypeInfo) (ht:P.underlying t=some (.slice e)) (hi:P.info? e=some i) (g off iP mK:Nat) (cur:Array Value) (hg:w.heap[g]? = some (.cells cur e (0,0)))
  (a:Addr) (m c:Nat) (news:List Value) (hl:news.length=m * i.size) (jM:∀ (j:Nat) u,news[j]? = some u→w.cell? (a.add j)=some u) (h1:∀ u∈news,u.oneCell'=true) (dB:iP+m≤mK) (fg:off+iP * i.size+news.length≤cur.size) :
  (Builtin.append_ #[t,t] ty #[.slice (some ⟨g,off,none⟩) iP mK,.slice (some a) m c]).run P w=.ok (.slice (some ⟨g,off,none⟩) (iP+m) mK) (w.setRow g (ai cur.toList (off+iP * i.size) news).toArray):=by
 have hf:=run_firstCells_some (P:=P) w i.size m a m c news hl jM;have br:=run_storeCells_at P g (off+iP * i.size) e news 0 cur w hg (by simpa using fg) h1;simp only [xQ] at br;simp [Builtin.append_,run_underlying ht,sizeOf,typeInfo,hi,Builtin.lenOf,dB,hf,Addr.add_lit,br,ai]
section
variable {c:Ctx} {w0 w:World} {J:JJ} {s:ab} {a:Act} {β:Nat→Option Nat} {dst:Option Nat} {ty:TypeId} {pos:String} {after:Array Edge} {g:Option (Nat×Bool)}
theorem pE (s:ab) (id d:Nat) (b1 b2:yo) (k:Nat):(s.wr [(id,b1),(d,b2)]).ob k=if d=k then b2 else if id=k then b1 else s.ob k:=by
 show (ab.set (ab.set s id b1) d b2).ob k=_;rw [ab.av,ab.av]
theorem Src.lG (h:FR c.N w0 J s a w β) {f2:FV} {sz:Nat} {aA:List (List FV)} (ey:s.ev y=f2) (h2:Src s f2 sz aA) (h1:aA.length=1) :
  (∀ e∈aA,e.length=sz)∧(∀ f∈aA.flatten,f.one=true)∧∃ ad cc us,a.eval y=.slice (some ad) 1 cc∧us.length=1 * sz∧ay w (aR J w β s) us aA.flatten∧(∀ (j:Nat) u,us[j]? = some u→w.cell? (ad.add j)=some u)∧∀ u∈us,u.oneCell'=true:=by
 obtain ⟨hw,ho,A,cc,us,hy,hc,hr,hA,aU⟩:=h.src ey h2;refine ⟨hw,ho,?_⟩;cases A with
 | none => have := (hA rfl).2; rw [this] at h1; simp at h1
 | some ad =>
  refine ⟨ad,cc,us,by rw [hy,h1],by rw [hr.1,xp hw,h1],hr,aU ad rfl,fun u hu=>?_⟩;obtain ⟨j,hj,rfl⟩:=yr hu;have fV:j<aA.flatten.length:=by rw [← hr.1];exact hj
  exact (hr.2 j _ aA.flatten[j] (by simp [hj]) zd).eh (ho _ (yw fV))
theorem AR (h:FR c.N w0 J s a w β) (d:Nat) {e:Nat} (hT:(c.ty T).k=.slice e) (he:(c.ty e).k≠.other) (bm:0<(c.ty e).size) (x y:Operand) {id o n:Nat} (ex:s.ev x=.own id aa o n) (bt:(s.ob id).ag=.roomy) (aH:(s.ob id).aa=aa)
  (hE:(s.ob id).E=e) (az:(s.ob id).sz=(c.ty e).size) (fE:o+n=(s.ob id).es.length) {f2:FV} {aA:List (List FV)} (ey:s.ev y=f2) (h2:Src s f2 (c.ty e).size aA) (h1:aA.length=1) :
  yK c w0 J s a ⟨some d,.call { callee:=.builtin .append,args:=#[x,y],argTypes:=#[T,T] },ty,pos,after,g⟩ w (.own d ((s.ob d).aa+1) o (n+1)) [(id,{ s.ob id with ag:=.dead }),(d,⟨(s.ob d).aa+1,.own,e,(c.ty e).size,(s.ob id).es++aA⟩)]:=by
 obtain ⟨dd,ii,z,ht⟩:=c.get hT zd;have hd:=ht.k;rw [hT] at hd;obtain rfl:=yc hd;obtain ⟨d',i',z',bY⟩:=c.get rfl he;obtain ⟨dR,bV,ad,c2,cU,hy,bC,jU,cF,jR⟩:=Src.lG h ey h2 h1;have ak:(s.ob id).ag≠.dead:=by rw [bt];decide
 have bl:(s.ob id).ag.row=true:=by rw [bt];rfl
 have hO:=h.obj id ak;have dB:=hO.iu bl;unfold YP at dB;rw [bt] at dB;obtain ⟨b,cur,hb,bh,fg⟩:=dB;obtain ⟨v1,fG,r1,r2,r3⟩:=(hO.bA bl).row;have cP:=(hO.bA bl).wide;have fZ:=(hO.bA bl).one;have aD:=hO.lt hb;obtain ⟨A,cc,e1,e2,e3,e4,e5⟩:=(h.bx ex ak aH).ex;obtain ⟨o',rfl,k2,k3⟩:=e5 b hb;have kF:=k3 cur bh;rw [hE,az] at r1;rw [hE] at bh;rw [az] at k2 kF cP fg;generalize mW:(s.ob id).es=es at fE r1 r3 cP fZ fg;generalize mv:(c.ty e).size=sz at bm cP fg r1 dR bC kF k2;rcases r1.2 with ⟨rfl,_⟩|⟨g',cap,eK,rfl,_,dx,hn,qo,bj,m7⟩
 ·rw [← r2] at hb;simp [Value.ownBlock] at hb
 have jD:g'=b:=by rw [← r2] at hb;simpa [Value.ownBlock] using hb
 subst jD;rw [bh] at dx;injection dx with dx
 injection dx with dx _ _
 subst dx;have wR:o+cc=cap:=WF bm (by rw [← kF,bj]);have c8:es.length+1≤cap:=Nat.le_of_mul_le_mul_right (by rw [← bj];exact fg) bm;have bX : o'=o * sz:=k2 (.inl za);subst bX;have hlen:o * sz+n * sz=es.length * sz:=by rw [← fE,zJ]
 have qG:es.length * sz+sz≤cur.size:=by rw [zJ] at fg;omega
 have bz:=YZ c.P w T ty e i' ht.u bY.info g' (o * sz) n cc cur bh ad 1 c2 cU (by rw [bY.size,mv];exact bC) cF jR za (by rw [bY.size,mv,hlen];omega);rw [bY.size,mv,hlen] at bz;have cO:cur.toList.length=cur.size:=by simp
 have kN:fG.length=es.length * sz:=r1.1;obtain ⟨W,hW⟩:∃ W,W=w.setRow g' (ai cur.toList (es.length * sz) cU).toArray:=⟨_,rfl⟩
 rw [← hW] at bz;have jq:W.heap[g']? = some (.cells (ai cur.toList (es.length * sz) cU).toArray e (0,0)):=by rw [hW];exact yP w g' _ cur _ bh
 have qe:(ai cur.toList (es.length * sz) cU).toArray.size=cur.size:=by
  rw [Xn,yG (by rw [cO];omega),cO]
 have nS:w.grownBy W (some g'):=by
  subst hW;exact ⟨rfl,rfl,rfl,by simp [World.setRow],fun k hk aZ=>xB w g' k _ (fun e=>aZ (by rw [e]))⟩
 have fj:(es++aA).length=es.length+1:=by rw [zH,h1]
 have cm : W.ownsRow w0.heap.size e sz (.slice (some ⟨g',0,none⟩) (es.length+1) cap) (es++aA).length (fG++cU):=by
  rw [fj];refine ⟨by rw [zH,kN,bC,zJ],.inr ⟨g',cap,_,rfl,aD.1,jq,c8,qo,by rw [qe,bj],?_⟩⟩;show (ai cur.toList (es.length * sz) cU).take ((es.length+1) * sz)=fG++cU;unfold ai;rw [← m7,zE,Xo,Xp,WW (by rw [zJ];omega),yf,yU za,show (es.length+1) * sz - es.length * sz=sz by rw [zJ];omega,
   WC za,yO (by omega:cU.length≤sz)]
 have fU:(execOp a.eval ⟨some d,.call { callee:=.builtin .append,args:=#[x,y],argTypes:=#[T,T] },ty,pos,after,g⟩).run c.P w=.ok (.value (.slice (some ⟨g',o * sz,none⟩) (n+1) cc)) W:=by
  simp [execOp,resolve,invoke,builtin,e1,hy,bz]
 have nF:=h.make (some id) d (E:=e) (sz:=sz) (es:=es++aA) (v:=.slice (some ⟨g',0,none⟩) (es.length+1) cap) (xs:=fG++cU) (fun k hk=>by injection hk with hk;subst hk;rw [bt];rfl) (by rw [Yb,hb];exact nS)
  (fun q hq=>by
   rcases zO.1 hq with h'|h'
   ·exact cP q h'
   ·exact dR q h')
  (fun f hf=>by
   rw [Zi] at hf;rcases zO.1 hf with h'|h'
   ·exact fZ f h'
   ·exact bV f h') cm (by rw [Zi];exact r3.append jU) (.inl (by rw [Yb,hb];rfl)) (s':=s.wr [(id,{ s.ob id with ag:=.dead }),(d,⟨(s.ob d).aa+1,.own,e,sz,es++aA⟩)]) (fun k=>by
    rw [pE];split
    ·rfl
    ·by_cases jF:id=k
     ·subst jF;simp
     ·rw [if_neg jF,if_neg (by simpa using jF)]) (fun k=>ab.ct _ _ _)
 have cV:(s.wr [(id,{ s.ob id with ag:=.dead }),(d,(⟨(s.ob d).aa+1,.own,e,sz,es++aA⟩:yo))]).ob d=⟨(s.ob d).aa+1,.own,e,sz,es++aA⟩:=by rw [pE,if_pos rfl]
 refine ⟨_,W,_,fU,nF,fun _ _=>?_,fun ba cg e=>?_⟩
 ·rw [cV,xk];refine ⟨rfl,some ⟨g',o * sz,none⟩,cc,rfl,by omega,by show o+(n+1)≤(es++aA).length;omega,(fun hb=>by simp [Value.ownBlock] at hb),fun b' bP=>?_⟩;obtain rfl:g'=b':=by simpa [Value.ownBlock] using bP
  refine ⟨o * sz,rfl,fun _=>rfl,fun eK eR=>?_⟩;rw [jq] at eR;injection eR with eR
  injection eR with eR _ _
  rw [← eR,qe,kF]
 ·simp only [FV.hands,zP,yu] at e;obtain ⟨e1,e2⟩:=e;replace e1:=e1.symm;replace e2:=e2.symm;subst e1;subst e2;rw [cV];exact zf _
theorem AQ (h:FR c.N w0 J s a w β) (d:Nat) {e:Nat} (hT:(c.ty T).k=.slice e) (he:(c.ty e).k≠.other) (bm:0<(c.ty e).size) (x y:Operand) {id o n:Nat} (ex:s.ev x=.own id aa o n) (bt:(s.ob id).ag=.full) (aH:(s.ob id).aa=aa)
  (hE:(s.ob id).E=e) (az:(s.ob id).sz=(c.ty e).size) (fE:o+n=(s.ob id).es.length) {f2:FV} {aA:List (List FV)} (ey:s.ev y=f2) (h2:Src s f2 (c.ty e).size aA) (h1:aA.length=1)
  (hb:(n+1) * (c.ty e).bytes≤140737488355328) (hm:n+1≤140737488355328) :
  yK c w0 J s a ⟨some d,.call { callee:=.builtin .append,args:=#[x,y],argTypes:=#[T,T] },ty,pos,after,g⟩ w (.own d ((s.ob d).aa+1) 0 (n+1)) [(id,{ s.ob id with ag:=.dead }),(d,⟨(s.ob d).aa+1,.own,e,(c.ty e).size,(s.ob id).es.drop o++aA⟩)]:=by
 obtain ⟨dd,ii,z,ht⟩:=c.get hT zd;have hd:=ht.k;rw [hT] at hd;obtain rfl:=yc hd;obtain ⟨d',i',z',bY⟩:=c.get rfl he;have kP:z'.cells.size=(c.ty e).size:=by
  have:=(ay.zeros (w:=w) (I:=aR J w β s) bY.zr).1;rw [bY.zl] at this;simpa using this
 obtain ⟨dR,bV,ad,c2,cU,hy,bC,jU,cF,jR⟩:=Src.lG h ey h2 h1;have ak:(s.ob id).ag≠.dead:=by rw [bt];decide
 have bl:(s.ob id).ag.row=true:=by rw [bt];rfl
 have hO:=h.obj id ak;have dB:=hO.iu bl;unfold YP at dB;rw [bt] at dB;obtain ⟨v1,fG,r1,r2,r3⟩:=(hO.bA bl).row;have cP:=(hO.bA bl).wide;have fZ:=(hO.bA bl).one;obtain ⟨A,cc,e1,e2,e3,e4,e5⟩:=(h.bx ex ak aH).ex;rw [hE,az] at r1;rw [az] at cP;have fj:((s.ob id).es.drop o++aA).length=n+1:=by rw [zH,Yx,h1];omega
 have kr:∀ q∈(s.ob id).es.drop o++aA,q.length=(c.ty e).size:=fun q hq=>by
  rcases zO.1 hq with h'|h'
  ·exact cP q (xa h')
  ·exact dR q h'
 have cz:((s.ob id).es.drop o).flatten=(s.ob id).es.flatten.drop (o * (c.ty e).size):=xV _ cP o;have fD:∀ f∈((s.ob id).es.drop o++aA).flatten,f.one=true:=fun f hf=>by
  rw [Zi] at hf;rcases zO.1 hf with h'|h'
  ·rw [cz] at h';exact fZ f (xa h')
  ·exact bV f h'
 have iJ:ay w (aR J w β s) (fG.drop (o * (c.ty e).size)++cU) ((s.ob id).es.drop o++aA).flatten:=by
  rw [Zi,cz];exact (r3.drop _).append jU
 obtain ⟨v',w',bz,cm,nS,bh⟩:∃ v' w',(Builtin.append_ #[T,T] ty #[a.eval x,a.eval y]).run c.P w=.ok v' w'∧w'.ownsRow w0.heap.size e (c.ty e).size v' (n+1) (fG.drop (o * (c.ty e).size)++cU)∧w.grownBy w' none∧
   (v'.ownBlock=none∨∃ b,v'.ownBlock=some b∧w.heap.size≤b):=by
  rw [e1,hy];cases ia:β id with
  | none=>
   obtain ⟨rfl,rfl⟩:=e4 ia;obtain rfl:n=0:=by omega
   rcases r1.2 with ⟨rfl,Al⟩|⟨g',cap,eK,rfl,_⟩
   ·have y8:fG=[]:=ZH (by rw [r1.1,Al,Zs]);subst y8;obtain ⟨v',w',q1,q2,q3,_,q5⟩:=run_append_own_at (P:=c.P) w w0.heap.size T ty e i' z' (c.ty e).size (c.ty e).bytes ht.u bY.info bY.zo bY.size bY.bytes kP bm (.slice none 0 0) 0 [] (yv _ _ _ _) ad 1 c2 cU bC cF jR zc (by simpa using hb) h.bn.size;refine ⟨v',w',q1,by simpa using q2,q3,?_⟩;rcases q5 with e|e
    ·exact .inl e
    ·exact .inr ⟨_,e,zf _⟩
   ·rw [ia] at r2;simp [Value.ownBlock] at r2
  | some b=>
   obtain ⟨o',rfl,k2,k3⟩:=e5 b ia;rcases r1.2 with ⟨rfl,_⟩|⟨g',cap,cur,rfl,_,dx,hn,qo,bj,m7⟩
   ·rw [ia] at r2;simp [Value.ownBlock] at r2
   have jD:g'=b:=by rw [ia] at r2;simpa [Value.ownBlock] using r2
   subst jD;have ic:=dB g' cur ia (by rw [hE];exact dx);have km:=k3 cur (by rw [hE];exact dx);rw [az] at ic km k2;have wR:o+cc=(s.ob id).es.length:=WF bm (by rw [← km,ic]);obtain rfl:cc=n:=by omega
   have cO:fG.length=(s.ob id).es.length * (c.ty e).size:=r1.1;obtain ⟨v',w',q1,q2,q3⟩:=run_append_arg_grows (P:=c.P) w T ty e i' z' (c.ty e).size (c.ty e).bytes ht.u bY.info bY.zo bY.size bY.bytes kP bm ⟨g',o',none⟩ cc cc (fG.drop (o * (c.ty e).size)) (by rw [Yx,cO,← fE,zJ];omega)
    (fun j u hu=>by
     rw [xx] at hu;have hj:=(ye.1 hu).1;have qm:cc≠0:=by rintro rfl;rw [cO,← fE,xQ] at hj;omega
     have:=k2 (.inl qm);subst this;have aU:=r1.cells (g:=g') rfl _ u hu;rw [yL] at aU ⊢;rwa [zM] at aU) ad 1 c2 cU bC cF za (by unfold maxLen;omega) hb
   refine ⟨v',w',q1,ZT q2 h.bn.size,q3,?_⟩;cases rh:v'.ownBlock with
   | none => exact .inl rfl
   | some b2 => exact .inr ⟨b2, rfl, (q2.lt b2 rh).1⟩
 have fU:(execOp a.eval ⟨some d,.call { callee:=.builtin .append,args:=#[x,y],argTypes:=#[T,T] },ty,pos,after,g⟩).run c.P w=.ok (.value v') w':=by
  simp [execOp,resolve,invoke,builtin,bz]
 rw [← fj] at cm;have nF:=h.make (some id) d (E:=e) (sz:=(c.ty e).size) (es:=(s.ob id).es.drop o++aA) (v:=v') (xs:=fG.drop (o * (c.ty e).size)++cU) (fun k hk=>by injection hk with hk;subst hk;rw [bt];rfl) (Cs nS _) kr fD cm iJ (.inr bh)
  (s' :=s.wr [(id,{ s.ob id with ag:=.dead }),(d,⟨(s.ob d).aa+1,.own,e,(c.ty e).size,(s.ob id).es.drop o++aA⟩)]) (fun k=>by
      rw [pE];split
      ·rfl
      ·by_cases jF:id=k
       ·subst jF;simp
       ·rw [if_neg jF,if_neg (by simpa using jF)]) (fun k=>ab.ct _ _ _)
 have cV:(s.wr [(id,{ s.ob id with ag:=.dead }),(d,(⟨(s.ob d).aa+1,.own,e,(c.ty e).size,(s.ob id).es.drop o++aA⟩:yo))]).ob d=⟨(s.ob d).aa+1,.own,e,(c.ty e).size,(s.ob id).es.drop o++aA⟩:=by rw [pE,if_pos rfl]
 refine ⟨v',w',_,fU,nF,fun _ _=>?_,fun ba cg e=>?_⟩
 ·rw [cV,xk];rw [← fj];exact VP.fy cm rfl rfl rfl rfl
 ·simp only [FV.hands,zP,yu] at e;obtain ⟨e1,e2⟩:=e;replace e1:=e1.symm;replace e2:=e2.symm;subst e1;subst e2;rw [cV];exact zf _
theorem FR.jh (h:FR c.N w0 J s a w β) {id:Nat} (bt:(s.ob id).ag=.aJ) {b:Nat} (hb:β id=some b) :
  ∃ cur cap,w.heap[b]? = some (.cells cur (s.ob id).E (0,0))∧(s.ob id).es.length≤cap∧cap≤maxLen∧cur.size=cap * (s.ob id).sz∧(cur.toList.take ((s.ob id).es.length * (s.ob id).sz)).length=(s.ob id).es.flatten.length∧
   ∀ (j:Nat) u f,(cur.toList.take ((s.ob id).es.length * (s.ob id).sz))[j]? = some u→(s.ob id).es.flatten[j]? = some f→VR w (aR J w β s) β s u f:=by
 have ak:(s.ob id).ag≠.dead:=by rw [bt];decide
 obtain ⟨v,us,r1,r2,r3,r4⟩:=((h.obj id ak).iO (by rw [bt];rfl) (by rw [bt];rfl)).row;rcases r1.2 with ⟨rfl,_⟩|⟨g',cap,cur,rfl,_,dx,hn,hm,bj,m7⟩
 ·rw [← r2] at hb;simp [Value.ownBlock] at hb
 ·have jD:g'=b:=by rw [← r2] at hb;simpa [Value.ownBlock] using hb
  subst jD;subst m7;exact ⟨cur,cap,dx,hn,hm,bj,r3,r4⟩
theorem ug {α:Type}:∀ (es:List (List α)),(∀ e∈es,e.length=1)→∀ (j:Nat) f,es[j]? = some [f]→es.flatten[j]? = some f
 | [], _, j, f, h => by simp at h
 | e :: es, he, 0, f, h => by simp at h; subst h; simp
 | e :: es, he, j+1, f, h => by
  have h1:=he e zd;obtain ⟨x,rfl⟩:=UO.1 h1;simp at h;simpa using ug es (fun q hq=>he q (by simp [hq])) j f h
theorem uh {α:Type}:∀ (es:List (List α)),(∀ e∈es,e.length=1)→∀ (j:Nat) f,(es.set j [f]).flatten=es.flatten.set j f
 | [], _, j, f => by simp
 | e :: es, he, 0, f => by
  obtain ⟨x,rfl⟩:=UO.1 (he e zd);simp
 | e :: es, he, j+1, f => by
  obtain ⟨x,rfl⟩:=UO.1 (he e zd);simpa using uh es (fun q hq=>he q (by simp [hq])) j f
theorem BG (h:FR c.N w0 J s a w β) (hk:(c.ty T).k.aW = some false) (hz:(c.ty T).size=1) (x:Operand) {id:Nat} (ex:s.ev x=.ptr id aa j 0) (bt:(s.ob id).ag=.aJ) (aH:(s.ob id).aa=aa) (az:(s.ob id).sz=1) {f:FV} (hj:(s.ob id).es[j]? = some [f]) :
  yK c w0 J s a ⟨dst,.load T x,ty,pos,after,g⟩ w f []:=by
 have ak:(s.ob id).ag≠.dead:=by rw [bt];decide
 obtain ⟨_,b,hb,hv⟩:=h.cb ex ak aH;obtain ⟨cur,cap,bh,hn,hm,bj,hl,hr⟩:=h.jh bt hb;have hH:=(h.obj id ak).iO (by rw [bt];rfl) (by rw [bt];rfl);have hw:=hH.wide;rw [az] at hv bj hl hr hw;have dN:=(ye.1 hj).1;have tv:=ug _ hw j f hj;have nV:j<cur.size:=by omega
 have hu:(cur.toList.take ((s.ob id).es.length * 1))[j]? = some cur[j]:=by
  rw [yD,if_pos za];simp [nV]
 have aU:w.cell? ⟨b,j,none⟩=some cur[j]:=by
  have:=cell_of_row w b j cur (s.ob id).E (0,0) bh;rw [this];simp [nV]
 refine .pure h (v:=cur[j]) ?_ (hr j _ f hu tv) (fun ba cg e=>hH.di f (ya tv) ba cg e);have:(loadVar T ⟨b,j,none⟩).run c.P w=.ok cur[j] w:=by simp [loadVar,XM hk,load,Sem.run,aU]
 simp [execOp,Instr.loadAt,hv,Instr.sureAddr,this]
def oO (s:ab) (f:FV):Prop:=f.one=true∨(∃ id aa o n,f=.own id aa o n∧s.live id aa)∨(∃ id aa j o,f=.ptr id aa j o∧s.live id aa)∨(∃ k fs,f=.wrap (.fn k) fs)∨∃ id aa,f=.omap id aa∧s.live id aa
theorem oO.val (h:FR c.N w0 J s a w β) {f:FV} (ey:s.ev y=f) (hf:oO s f):(a.eval y).cells=#[a.eval y]∧(a.eval y).oneCell'=true:=by
 rcases hf with h1|⟨id,aa,o,n,rfl,hl⟩|⟨id,aa,j,o,rfl,hl⟩|⟨k,fs,rfl⟩|⟨id,aa,rfl,hl⟩
 ·have hn:f.hand=none:=by cases f <;> first|rfl|(simp [FV.one] at h1)
  have hr:=h.a9 ey hn;generalize a.eval y=v at hr;cases hr <;> first|exact ⟨rfl,rfl⟩|(simp [FV.one] at h1)
 ·obtain ⟨A,cc,e,_⟩:=(h.bx ey hl.1 hl.2).ex;rw [e];exact ⟨rfl,rfl⟩
 ·obtain ⟨_,b,_,e⟩:=h.cb ey hl.1 hl.2;rw [e];exact ⟨rfl,rfl⟩
 ·have hv:=h.ev y;rw [ey] at hv;obtain ⟨us,e,_⟩:=hv;rw [e];exact ⟨rfl,rfl⟩
 ·obtain ⟨_,b,_,e⟩:=h.fe ey hl.1 hl.2;rw [e];exact ⟨rfl,rfl⟩
theorem Bx (h:FR c.N w0 J s a w β) (hk:(c.ty T).k≠.other) (hz:(c.ty T).size=1) (x y:Operand) {id:Nat} (ex:s.ev x=.ptr id aa j 0) (bt:(s.ob id).ag=.aJ) (aH:(s.ob id).aa=aa) (az:(s.ob id).sz=1) {f:FV} (ey:s.ev y=f)
  (hf:oO s f) (hj:j<(s.ob id).es.length) :
  ∃ w',(execOp a.eval ⟨dst,.store T x y,ty,pos,after,g⟩).run c.P w=.ok .skip w'∧FR c.N w0 J (s.wr [(id,{ s.ob id with es:=(s.ob id).es.set j [f] })]) a w' β:=by
 have ak:(s.ob id).ag≠.dead:=by rw [bt];decide
 obtain ⟨_,b,hb,oD⟩:=h.cb ex ak aH;obtain ⟨cur,cap,bh,hn,hm,bj,hl,hr⟩:=h.jh bt hb;have hH:=(h.obj id ak).iO (by rw [bt];rfl) (by rw [bt];rfl);have hw:=hH.wide;obtain ⟨ic,km⟩:=oO.val h ey hf;have my:=h.ev y;have fF:∀ ba cg,(ba,cg)∈f.hands→cg≤(s.ob ba).aa:=fun ba cg e=>h.cE y (by rw [ey];exact e);rw [ey] at my;generalize hy:a.eval y=v at ic km my;rw [az] at oD bj hl hr hw;have br:=run_storeCells_at c.P b j (s.ob id).E [v] 0 cur w bh zy (by simpa using km);simp only [xQ] at br;have nV:j<cur.toList.length:=by simp;omega
 obtain ⟨W,hW⟩:∃ W,W=w.setRow b (ai cur.toList j [v]).toArray:=⟨_,rfl⟩
 have jq:W.heap[b]? = some (.cells (cur.toList.set j v).toArray (s.ob id).E (0,0)):=by rw [hW,C5 v nV];exact yP w b _ cur _ bh
 have hg:w.grownBy W (some b):=by
  subst hW;exact ⟨rfl,rfl,rfl,by simp [World.setRow],fun k hk aZ=>xB w b k _ (fun e=>aZ (by rw [e]))⟩
 have aD:=(h.obj id ak).lt hb;refine ⟨W,?_,?_⟩
 ·have hs:=yF (c:=c) hk w;have mr : (storeCells ⟨b,j,none⟩ [v]).run c.P w=.ok () W:=by rw [hW];exact br
  simp [execOp,Instr.storeAt,storeVar,oD,hy,Instr.sureAddr,hs,hz,ic,mr]
 ·have cZ:∀ k,(s.wr [(id,{ s.ob id with es:=(s.ob id).es.set j [f] })]).ob k=if id=k then { s.ob id with es:=(s.ob id).es.set j [f] } else s.ob k:=fun k=>ab.av s id _ k
  have hI:∀ b',aR J w β s b'→aR J W β (s.wr [(id,{ s.ob id with es:=(s.ob id).es.set j [f] })]) b'∧W.heap[b']? = w.heap[b']?:=fun b' aP=>by
   refine ⟨⟨xY aP.1 hg.size,aP.2.1,fun ba bw=>?_⟩,hg.block b' aP.1 (fun e=>aP.2.2 id (by rw [bt];rfl) (by rw [hb];exact e.symm))⟩;rw [cZ] at bw;split at bw
   ·rename_i e;subst e;exact aP.2.2 id (by rw [bt];rfl)
   ·exact aP.2.2 ba bw
  refine h.step (C:=fun k=>k=id) h.size h.defers (h.bn.grown hg h.bn.size (fun k hk=>by injection hk with hk;subst hk;exact aD.1)) hI (fun k=>.inl ⟨rfl,rfl⟩) (fun k hC=>?_) (fun k hC=>?_) (fun k hC bC Ad=>?_) (fun k hC bC T'=>?_) ?_ (fun b' mf hn=>⟨hg.block b' mf (fun e=>hn id ak (by rw [hb];exact e.symm)),fun k bC=>hn k (by rw [cZ] at bC;split at bC;(· rename_i e;subst e;exact ak);(· exact bC))⟩)
  ·refine ⟨by rw [cZ,if_neg (fun e=>hC e.symm)],rfl,fun bC b' aP=>hg.block b' ((h.obj k bC).lt aP).2 (fun e=>hC (h.inj k id b' bC ak aP (by rw [hb];exact e.symm)))⟩
  ·subst hC;rw [cZ,if_pos rfl];exact zf _
  ·subst hC;refine ⟨ak,rfl,by rw [cZ,if_pos rfl],by rw [cZ,if_pos rfl],fun v2 o n lC=>?_⟩;rw [cZ,if_pos rfl];obtain ⟨A,cc,q1,q2,q3,q4,q5⟩:=lC.ex;refine ⟨lC.row,A,cc,q1,q2,by simpa using q3,q4,fun b2 aP=>?_⟩;obtain ⟨o',k1,k2,k3⟩:=q5 b2 aP;refine ⟨o',k1,k2,fun eK eR=>?_⟩;rw [hb] at aP;injection aP with aP
   subst aP;dsimp only at eR;rw [jq] at eR;injection eR with eR
   injection eR with eR _ _
   rw [← eR];have:=k3 cur bh;simpa using this
  ·subst hC;rw [cZ,if_pos rfl];have gp:∀ ba,(s.ob ba).aa≤((s.wr [(k,{ s.ob k with es:=(s.ob k).es.set j [f] })]).ob ba).aa:=fun ba=>by
    rw [cZ];split
    ·rename_i e;subst e;exact zf _
    ·exact zf _
   have cz:=uh _ hw j f;have qt:(s.ob k).es.flatten.length=(s.ob k).es.length:=by have:=xp hw;omega
   refine .rv ⟨fun e he=>?_,fun f' cY ba cg e=>?_,.slice (some ⟨b,0,none⟩) (s.ob k).es.length cap,(cur.toList.take ((s.ob k).es.length * 1)).set j v,?_,by rw [hb];rfl,?_,fun i u f' hu cY=>?_⟩ bt
   ·rw [az];rcases Xm he with h'|h'
    ·exact hw e h'
    ·subst h';rfl
   ·dsimp only at cY;rw [cz] at cY;refine yT ?_ (gp ba);rcases Xm cY with h'|h'
    ·exact hH.di f' h' ba cg e
    ·subst h';exact fF ba cg e
   ·rw [az];simp only [Zj];refine ⟨by rw [Zj,hl,qt,xE],.inr ⟨b,cap,_,rfl,aD.1,jq,hn,hm,by simpa using bj,?_⟩⟩;simp only [List.take_set]
   ·dsimp only;rw [Zj,hl,cz,Zj]
   ·dsimp only at cY;rw [cz] at cY;rw [List.getElem?_set] at hu cY;by_cases fh:j=i
    ·subst fh;rw [if_pos rfl] at hu cY;split at hu
     ·split at cY
      ·injection hu with hu
       injection cY with cY
       subst hu;subst cY;exact T' _ _ my fF
      ·cases cY
     ·cases hu
    ·rw [if_neg fh] at hu cY;exact T' _ _ (hr i u f' hu cY) (hH.di f' (ya cY))
  ·intro k k' b' bC dO e e';refine h.inj k k' b' ?_ ?_ e e'
   ·rw [cZ] at bC;split at bC
    ·rename_i e;subst e;exact ak
    ·exact bC
   ·rw [cZ] at dO;split at dO
    ·rename_i e;subst e;exact ak
    ·exact dO
end
end
section
open Go.RowKit Go.Maps
section
variable {c:Ctx} {w0 w:World} {J:JJ} {s:ab} {a:Act} {β:Nat→Option Nat} {dst:Option Nat} {ty:TypeId} {pos:String} {after:Array Edge} {g:Option (Nat×Bool)}
theorem FR.pX {s' : ab} (h:FR N w0 J s a w β) (hg:∀ k,s'.get k=s.get k) (ho:∀ k,s'.ob k=s.ob k):FR N w0 J s' a w β:=by
 refine h.step (C:=fun _=>False) h.size h.defers h.bn (fun b hb=>⟨⟨hb.1,hb.2.1,fun id hl=>hb.2.2 id (by rw [← ho];exact hl)⟩,rfl⟩) (fun k=>.inl ⟨rfl,hg k⟩) (fun id _=>⟨ho id,rfl,fun _ _ _=>rfl⟩) (fun _ h=>h.elim) (fun _ h=>h.elim) (fun _ h=>h.elim) ?_ (fun b _ hn=>⟨rfl,fun id hl=>hn id (by rw [← ho];exact hl)⟩);intro id ba b hl bw;rw [ho] at hl bw;exact h.inj id ba b hl bw
theorem C4 (L:List α) (o:Nat):ai L o []=L:=by
 unfold ai;simp
theorem YW {α:Type}:∀ {es:List (List α)},(∀ e∈es,e.length=1)→es.flatten.length=es.length
 | [], _ => rfl
 | e :: es, h => by
  rw [yM,zH,YW (fun q hq=>h q (by simp [hq])),h e zd];simp;omega
theorem AP {es ds:List (List α)} (he:∀ e∈es,e.length=1) (hd:∀ e∈ds,e.length=1) (o:Nat):(ai es o ds).flatten=ai es.flatten o ds.flatten:=by
 unfold ai;rw [Zi,Zi,Zy es he,xV es he,YW hd,xE,xE]
theorem Cl (h:FR c.N w0 J s a w β) {T2 e:Nat} (hT:(c.ty T).k=.slice e) (he:(c.ty e).k≠.other) (hz:(c.ty e).size=1) (x y:Operand) {id o m:Nat} (ex:s.ev x=.own id aa o m) (hl:(s.ob id).ag=.own) (hv:(s.ob id).aa=aa) (az:(s.ob id).sz=1)
  {f2:FV} {aA:List (List FV)} (ey:s.ev y=f2) (h2:Src s f2 1 aA) :
  yK c w0 J s a ⟨dst,.call { callee:=.builtin .copy,args:=#[x,y],argTypes:=#[T,T2] },ty,pos,after,g⟩ w (.int .i64 ((aA.take m).length:Nat)) [(id,{ s.ob id with es:=ai (s.ob id).es o (aA.take m) })]:=by
 have ak:(s.ob id).ag≠.dead:=by rw [hl];decide
 have bl:(s.ob id).ag.row=true:=by rw [hl];rfl
 obtain ⟨dd,ii,z,ht⟩:=c.get hT zd;have hd:=ht.k;rw [hT] at hd;obtain rfl:=yc hd;obtain ⟨d',i',z',bY⟩:=c.get rfl he;have tM:(c.P.info? e).map (·.size)=some 1:=by rw [bY.info,← hz,← bY.size];rfl
 obtain ⟨dR,bV,A2,c2,cU,hy,km,jU,qa,cF⟩:=h.src ey h2;obtain ⟨A,cc,e1,e2,e3,e4,e5⟩:=(h.bx ex ak hv).ex;have jJ:cU.length=aA.length:=by rw [jU.1,YW dR]
 have n5:(aA.take m).length=Nat.min aA.length m:=by rw [yf,Nat.min_comm]
 by_cases h0:aA.take m=[]
 ·have hn:Nat.min aA.length m=0:=by rw [← n5,h0];rfl
  have bz:=run_copy_none (P:=c.P) w T T2 ty e A A2 m cc aA.length c2 ht.u tM hn;refine ⟨goInt 0,w,β,?_,?_,?_,fun _ _ hm=>(FV.bf rfl hm).elim⟩
  ·simp [execOp,resolve,invoke,builtin,e1,hy,bz]
  ·refine h.pX (fun k=>ab.ct _ _ _) (fun k=>?_);rw [h0,C4];show (ab.set s id _).ob k=_;rw [ab.av];split
   ·rename_i e;subst e;rfl
   ·rfl
  ·rw [h0];exact Rd.int _ _
 ·have jL:0<(aA.take m).length:=by
   rcases ZM (aA.take m).length with h'|h'
   ·exact absurd (ZH h') h0
   ·exact h'
  have wI:0<m:=by rw [yf] at jL;omega
  obtain ⟨b,hb⟩:∃ b,β id=some b:=by
   cases aP:β id with
   | none => obtain ⟨q1, q2⟩ := e4 aP; omega
   | some b => exact ⟨b, rfl⟩
  obtain ⟨o',rfl,k2,k3⟩:=e5 b hb;have:=k2 (.inl za);subst this;obtain ⟨ad,rfl⟩:∃ ad,A2=some ad:=by
   cases hA:A2 with
   | none => obtain ⟨_, q⟩ := qa hA; subst q; simp at jL
   | some ad => exact ⟨ad, rfl⟩
  obtain ⟨cur,cap,bh,hn,hm,bj,hr,aJ⟩:=h.block ak bl hb;have hw:=((h.obj id ak).bA bl).wide;have bI:=((h.obj id ak).bA bl).one;rw [az] at hw bj hr aJ e1;simp only [xE] at bj hr aJ e1;generalize mW:(s.ob id).es=es at hn hr aJ hw bI e3;have iE:∀ q∈aA.take m,q.length=1:=fun q hq=>dR q (yN hq);have l7:(cU.take m).length=(aA.take m).length:=by rw [yf,yf,jJ]
  have cz:(aA.take m).flatten=aA.flatten.take m:=by rw [Zy aA dR,xE]
  have qY:ay w (aR J w β s) (cU.take m) (aA.take m).flatten:=by rw [cz];exact jU.take m
  have eM:∀ f∈(aA.take m).flatten,f∈aA.flatten:=fun f hf=>by rw [cz] at hf;exact yN hf
  have p9:∀ u∈cU.take m,u.oneCell'=true:=fun u hu=>by
   obtain ⟨j,hj,rfl⟩:=yr hu;have fV:j<(aA.take m).flatten.length:=by rw [← qY.1];exact hj
   exact (qY.2 j _ (aA.take m).flatten[j] (by simp only [xP hj]) (by simp only [xP fV])).eh (bV _ (eM _ (yw fV)))
  have hle:(aA.take m).length≤m:=by rw [yf];omega
  have fg:o+(cU.take m).length≤cur.size:=by rw [l7,bj];omega
  have bz:=run_copy_row (P:=c.P) w T T2 ty e b o m cc ad aA.length c2 cur (s.ob id).E (cU.take m) ht.u tM bh (by rw [l7,n5]) (fun j u hu=>cF ad rfl j u (by rw [yD] at hu;split at hu;exact hu;cases hu)) fg p9;obtain ⟨W,hW⟩:∃ W,W=w.setRow b (ai cur.toList o (cU.take m)).toArray:=⟨_,rfl⟩
  have jq:W.heap[b]? = some (.cells (ai cur.toList o (cU.take m)).toArray (s.ob id).E (0,0)):=by rw [hW];exact yP w b _ cur _ bh
  have gP:w.grownBy W (β id):=by
   subst hW;refine ⟨rfl,rfl,rfl,by simp [World.setRow],fun k hk aZ=>xB w b k _ (fun e=>aZ (by rw [e,hb]))⟩
  have cO:cur.toList.length=cap:=by simpa using bj
  have oB:(cur.toList.take es.length).length=es.length:=by rw [yf,cO];omega
  have lz:(ai es o (aA.take m)).length=es.length:=yG za;have cm : W.ownsRow w0.heap.size (s.ob id).E 1 (.slice (some ⟨b,0,none⟩) es.length cap) (ai es o (aA.take m)).length (ai (cur.toList.take es.length) o (cU.take m)):=by
   rw [lz];refine ⟨?_,.inr ⟨b,cap,_,rfl,((h.obj id ak).lt hb).1,jq,hn,hm,?_,?_⟩⟩
   ·rw [yG za,oB,xE]
   ·simp only [Xn];rw [yG za,cO,xE]
   ·rw [xE];have key:∀ (L p:Nat) (cs ds:List Value),p+ds.length≤L→L≤cs.length→(ai cs p ds).take L=ai (cs.take L) p ds:=by
     intro L p cs ds h1 h2;unfold ai;rw [zE,zE,Xo,yf,yU za,Xo,Xp,Xp,WW za,yU za,yO (by omega:ds.length≤L - p),List.drop_take];congr 3;omega
    exact key _ _ _ _ za za
  refine ⟨goInt (cU.take m).length,W,β,?_,?_,?_,fun _ _ hm=>(FV.bf rfl hm).elim⟩
  ·have lx : (Builtin.copy_ #[T,T2] ty #[.slice (some ⟨b,o,none⟩) m cc,.slice (some ad) aA.length c2]).run c.P w=.ok (goInt (cU.take m).length) W:=by rw [hW];exact bz
   obtain ⟨V,hV⟩:∃ V,V=goInt ((cU.take m).length:Nat):=⟨_,rfl⟩
   rw [← hV] at lx ⊢;simp [execOp,resolve,invoke,builtin,e1,hy,lx]
  ·refine h.write id (es:=ai es o (aA.take m)) (v:=.slice (some ⟨b,0,none⟩) es.length cap) (xs:=ai (cur.toList.take es.length) o (cU.take m)) hl gP ?_ ?_ ?_ hb.symm ?_ ?_ ?_ (fun k=>?_) (fun k=>ab.ct _ _ _)
   ·rw [az];intro q hq;rcases XW hq with hq|hq
    ·exact hw q hq
    ·exact iE q hq
   ·intro f hf;obtain ⟨q,hq,nR⟩:=yE.1 hf;rcases XW hq with hq|hq
    ·exact bI f (yE.2 ⟨q,hq,nR⟩)
    ·exact bV f (yE.2 ⟨q,yN hq,nR⟩)
   ·rw [az];exact cm
   ·rw [AP hw iE];exact hr.ai qY _
   ·rw [mW,lz]
   ·intro b' pU pV bP h1 h2;rw [hb] at bP;injection bP with bP
    subst bP;rw [bh] at h1;injection h1 with h1
    injection h1 with h1 _ _
    subst h1;rw [jq] at h2;injection h2 with h2
    injection h2 with h2 _ _
    rw [← h2];simp only [Xn];rw [yG za,cO,bj]
   ·rw [← mW];exact ab.av s id _ k
  ·rw [← l7];exact Rd.int _ _
def ZQ (P:Program) (T:Nat):Bool:=
 match P.underlying T with
 | some (.interface _) => true
 | _ => false
theorem VC (hk:(c.ty T).k≠.other) (dV:ZQ c.P T=false) (x:Operand):(execOp a.eval ⟨dst,.makeInterface T x,ty,pos,after,g⟩).run c.P w=.ok (.value (.iface T (a.eval x))) w:=by
 obtain ⟨d,i,z,ht⟩:=c.get rfl hk;unfold ZQ at dV;rw [ht.u] at dV;cases d <;> first|(cases dV;done)|(simp [execOp,Instr.makeInterface,run_underlying ht.u];done)
theorem AJ (h:FR c.N w0 J s a w β) (hk:(c.ty T).k≠.other) (dV:ZQ c.P T=false) (x:Operand) {f:FV} (ex:s.ev x=f) (hn:f.hand=none) :
  yK c w0 J s a ⟨dst,.makeInterface T x,ty,pos,after,g⟩ w (.iface T f) []:=
 .rd h (v:=.iface T (a.eval x)) (VC hk dV x) (.iface T _ _ (h.a9 ex hn)) rfl
def FV.bZ:FV→Bool
 | .wrap _ _ => false
 | _ => true
theorem FV.gV {f:FV} (h:f.bZ=true):∀ k fs,f≠.wrap k fs:=by rintro k fs rfl;cases h
theorem BK {k:Wk} {fs:List FV} {id:Nat} (h:(id,aa)∈(FV.wrap k fs).hands):∃ f∈fs,f.hand=some (id,aa):=ZI.1 h
theorem Vm (h:FR c.N w0 J s a w β) {k:Wk} {xs:List Operand} {fs:List FV} (hx:xs.map s.ev=fs) (hn:fs.all FV.bZ=true) {o:Oper} (hr:(execOp a.eval o).run c.P w=.ok (.value (k.mk (xs.map a.eval))) w):yK c w0 J s a o w (.wrap k fs) []:=by
 subst hx;refine .pure h hr ⟨xs.map a.eval,rfl,by simp,fun j u f hu hf=>?_⟩ fun id aa hm=>?_
 ·rw [xy] at hu hf;cases hj:xs[j]? with
  | none => rw [hj] at hu; cases hu
  | some x =>
   rw [hj] at hu hf;injection hu with hu;injection hf with hf
   subst hu;subst hf;have hm:s.ev x∈xs.map s.ev:=zL.2 ⟨x,ya hj,rfl⟩;exact (h.ev x).rD (FV.gV (zI.1 hn _ hm))
 ·obtain ⟨f,hf,e⟩:=BK hm;obtain ⟨x,E6,rfl⟩:=zL.1 hf;refine h.cE x ?_;have hw:=zI.1 hn _ hf;generalize s.ev x=q at e hw;cases q with
  | own|ptr|omap => injection e with e; rw [← e]; exact zP.2 rfl
  | wrap => cases hw
  | _ => cases e
theorem AX (h:FR c.N w0 J s a w β) (hk:(c.ty T).k≠.other) (dV:ZQ c.P T=false) (x:Operand) {f:FV} (ex:s.ev x=f) (hn:f.bZ=true) :
  yK c w0 J s a ⟨dst,.makeInterface T x,ty,pos,after,g⟩ w (.wrap (.pj T) [f]) []:=
 Vm h (k:=.pj T) (xs:=[x]) (by simp [ex]) (by simpa using hn) (VC hk dV x)
theorem AI (h:FR c.N w0 J s a w β) {f:Nat} {aO:List FV} (hx:xs.toList.map s.ev=aO) (hn:aO.all FV.bZ=true) :
  yK c w0 J s a ⟨dst,.makeFunc (.func f) #[] xs,ty,pos,after,g⟩ w (.wrap (.fn f) aO) []:=by
 refine Vm h (k:=.fn f) (xs:=xs.toList) hx hn ?_;have:(xs.toList.map a.eval).toArray=xs.map a.eval:=by apply YQ;simp
 simp [execOp,Instr.makeFunc,Wk.mk,this]
theorem Ca (h:FR c.N w0 J s a w β) {f:Nat} {aO:List FV} (hx:xs.toList.map s.ev=aO) (hn:aO.all FV.bZ=true) :
  yK c w0 J s a ⟨dst,.makeFunc (.func f) xs #[],ty,pos,after,g⟩ w (.wrap (.bound f) aO) []:=by
 refine Vm h (k:=.bound f) (xs:=xs.toList) hx hn ?_;have:(xs.toList.map a.eval).toArray=xs.map a.eval:=by apply YQ;simp
 simp [execOp,Instr.makeFunc,Wk.mk,this]
theorem AK (h:FR c.N w0 J s a w β) {T2:Nat} (hk:(c.ty T).k≠.other) (dV:ZQ c.P T=false) (x:Operand) {f:FV} (ex:s.ev x=.iface T f) (hn:f.hand=none) :
  yK c w0 J s a ⟨dst,.typeAssert x T2 T false,ty,pos,after,g⟩ w f []:=by
 have hr:=h.a9 ex rfl;generalize hx:a.eval x=v at hr;cases hr with
 | iface t v f hr =>
  refine .rd h (v:=v) ?_ hr hn;obtain ⟨d,i,z,ht⟩:=c.get rfl hk;unfold ZQ at dV;rw [ht.u] at dV;cases d <;> first|(cases dV;done)|(simp [execOp,Instr.typeAssert,run_underlying ht.u,hx];done)
inductive mN (s:ab):FV→Bool→Prop where
 | nil:mN s .nil true
 | own (id aa o n:Nat) (hl:s.live id aa) (hn:0<n):mN s (.own id aa o n) false
 | list (sz:Nat) (es:List (List FV)) (hn:es ≠ []):mN s (.list sz es) false
theorem FR.oG (h:FR c.N w0 J s a w β) {f:FV} (ex:s.ev x=f) (hb:mN s f b):∃ A n cc,a.eval x=.slice A n cc∧A.isNone=b:=by
 cases hb with
 | nil => exact ⟨none, 0, 0, h.cD ex, rfl⟩
 | own id aa o n hl hn =>
  obtain ⟨A,cc,e1,e2,e3,e4,e5⟩:=(h.bx ex hl.1 hl.2).ex;refine ⟨A,n,cc,e1,?_⟩;cases hb:β id with
  | none => obtain ⟨_, q⟩ := e4 hb; omega
  | some b => obtain ⟨o', rfl, _⟩ := e5 b hb; rfl
 | list sz es hn=>
  have hr:=h.a9 ex rfl;generalize hx:a.eval x=v at hr;cases hr with
  | list A m cc sz es us hm hc hw ho hA hl lv =>
   refine ⟨A,m,cc,rfl,?_⟩;obtain ⟨b,off,rfl,_⟩:=hA (fun e=>hn (ZH za));rfl
theorem BF (h:FR c.N w0 J s a w β) (op:BinOp) {T2 e:Nat} (hT:(c.ty T).k=.slice e) (x y:Operand) {f:FV} (ex:s.ev x=f) (hb:mN s f b) (ey:s.ev y=.nil) (bM:op=.eql∨op=.neq) :
  yK c w0 J s a ⟨dst,.binOp op T x y T2,ty,pos,after,g⟩ w (.bool (if op=.eql then b else !b)) []:=by
 obtain ⟨dd,ii,z,ht⟩:=c.get hT zd;have hd:=ht.k;rw [hT] at hd;obtain rfl:=yc hd;obtain ⟨A,n,cc,e1,rfl⟩:=h.oG ex hb;have e2:=h.cD ey;have heq:(Op.equalIn Op.maxDepth T (.slice A n cc) (.slice none 0 0)).run c.P w=.ok A.isNone w:=by
  show (Op.equalIn (9999+1) T (.slice A n cc) (.slice none 0 0)).run c.P w=_;unfold Op.equalIn;cases A <;> simp [run_underlying ht.u]
 refine .rd h (v:=.bool (if op=.eql then A.isNone else !A.isNone)) ?_ (.bool _) rfl;rcases bM with rfl|rfl
 ·simp [execOp,e1,e2,eqGuard,binOp,Op.equal,heq]
 ·simp [execOp,e1,e2,eqGuard,binOp,Op.equal,heq]
end
def vK (P:Program) (T:Nat) (X Y:List FV) (b:Bool):Prop:=P.eqGuardType P.depth T=false∧∀ w:World,(Op.equalIn 10000 T (.agg (X.map FV.cd).toArray) (.agg (Y.map FV.cd).toArray)).run P w=.ok b w
theorem BE {w0:World} {s:ab} (h:FR c.N w0 J s a w β) (op:BinOp) {T T2:TypeId} (x y:Operand) {X Y:List FV} (ex:s.ev x=.agg X) (hX:X.all FV.aG=true) (ey:s.ev y=.agg Y) (hY:Y.all FV.aG=true) (hl:vK c.P T X Y b) (bM:op=.eql∨op=.neq) :
  yK c w0 J s a ⟨dst,.binOp op T x y T2,ty,pos,after,g⟩ w (.bool (if op=.eql then b else !b)) []:=by
 have e1:a.eval x=.agg (X.map FV.cd).toArray:=(h.a9 ex rfl).bS hX;have e2:a.eval y=.agg (Y.map FV.cd).toArray:=(h.a9 ey rfl).bS hY;obtain ⟨h1,h2⟩:=hl;have h3:=fun op=>run_eqGuard_agg (P:=c.P) (w:=w) op T x y (X.map FV.cd).toArray (Y.map FV.cd).toArray h1;rcases bM with rfl|rfl
 ·refine .rd h (v:=.bool b) ?_ (.bool _) rfl;simp only [execOp,e1,e2,yV,h3,xZ,run_eql_struct,h2,yW]
 ·refine .rd h (v:=.bool (!b)) ?_ (.bool _) rfl;simp only [execOp,e1,e2,yV,h3,xZ,run_neq_struct,h2,yW]
def oX (P:Program) (f:Nat):Bool:=
 match P.funcs[f]? with
 | some fn => fn.body.isSome && fn.name != "runtime.NumGoroutine"
 | none => false
inductive fI where
 | fr|sh|ow (E sz:Nat)
 deriving DecidableEq,Inhabited
def oP (w w' : World) (I:Nat→Prop):fI→Value→FV→Prop
 | .fr, v, f => Rd w' (fun b => w.heap.size ≤ b ∧ b<w'.heap.size) v f
 | .sh, v, f => Rd w' (fun b => I b ∨ (w.heap.size ≤ b ∧ b<w'.heap.size)) v f
 | .ow E sz, v, f => ∃ es us, f=.list sz es ∧ (∀ e ∈ es, e.length=sz) ∧ (∀ f ∈ es.flatten, f.one=true) ∧ w'.ownsRow w.heap.size E sz v es.length us ∧ ay w' (fun b => w.heap.size ≤ b ∧ b<w'.heap.size ∧ v.ownBlock ≠ some b) us es.flatten
structure zX (P:Program) (f:Nat) (args:List FV) (m:fI) (res:FV):Prop where
 go:oX P f=true
 hand:res.hand=none
 calls:∀ (w:World) (I:Nat→Prop) (vs:List Value),(∀ b,I b→b<w.heap.size)→ay w I vs args→Calls P f vs.toArray w fun e w'=>∃ v,e=.returned v∧Below w.heap.size w w'∧oP w w' I m v res
inductive FV.le:FV→FV→Prop where
 | refl (f:FV):FV.le f f
 | undef (f:FV):FV.le f .undef
 | nil (sz:Nat):FV.le .nil (.list sz [])
 | nw {fs gs:List FV} (hl:fs.length=gs.length) (h:∀ (j:Nat) f g, fs[j]? = some f → gs[j]? = some g → FV.le f g):FV.le (.agg fs) (.agg gs)
 | oK {fs gs:List FV} (hl:fs.length=gs.length) (h:∀ (j:Nat) f g, fs[j]? = some f → gs[j]? = some g → FV.le f g):FV.le (.bN fs) (.bN gs)
inductive fL:List FV→List FV→Prop where
 | nil:fL [] []
 | cons {f g:FV} {fs gs:List FV} (h:FV.le f g) (hs:fL fs gs):fL (f :: fs) (g :: gs)
theorem fL.get {fs gs:List FV} (h:fL fs gs):fs.length=gs.length∧∀ (j:Nat) f g,fs[j]? = some f→gs[j]? = some g→FV.le f g:=by
 induction h with
 | nil => exact ⟨rfl, by simp⟩
 | cons h hs ih =>
  refine ⟨by simp [ih.1],fun j f g hf hg=>?_⟩;cases j with
  | zero => simp at hf hg; subst hf; subst hg; exact h
  | succ j => exact ih.2 j f g (by simpa using hf) (by simpa using hg)
theorem FV.le.agg {fs gs:List FV} (h:fL fs gs):FV.le (.agg fs) (.agg gs):=.nw h.get.1 h.get.2
theorem FV.le.bN {fs gs:List FV} (h:fL fs gs):FV.le (.bN fs) (.bN gs):=.oK h.get.1 h.get.2
theorem Rd.le {f g:FV} (h:FV.le f g):∀ {v:Value},Rd w I v f→Rd w I v g:=by
 induction h with
 | refl f => exact id
 | undef f => exact fun _ => .undef _
 | nil sz => intro v h; cases h; exact .list none 0 0 sz [] [] rfl (zf _) zd zd zd zd zd
 | @nw fs gs hl h ih=>
  intro v hv;cases hv with
  | agg us fs bw hr =>
   refine .agg us gs (bw.trans hl) fun j u g hu hg=>?_;have hj:j<fs.length:=by rw [hl];exact (ye.1 hg).1
   exact ih j fs[j] g (by simp [hj]) hg (hr j u _ hu (by simp [hj]))
 | @oK fs gs hl h ih=>
  intro v hv;cases hv with
  | bN us fs bw hr =>
   refine .bN us gs (bw.trans hl) fun j u g hu hg=>?_;have hj:j<fs.length:=by rw [hl];exact (ye.1 hg).1
   exact ih j fs[j] g (by simp [hj]) hg (hr j u _ hu (by simp [hj]))
inductive Wj (s:ab) (m:fI):FV→FV→Prop where
 | plain (f:FV) (hn:f.hand=none):Wj s m f f
 | nil (sz:Nat):Wj s m .nil (.list sz [])
 | sub (f g:FV) (hn:f.hand=none) (hle:FV.le f g):Wj s m f g
 | own (id aa o n:Nat) (hl:s.live id aa) (bl:(s.ob id).ag.row=true) (hm:m=.sh → (s.ob id).ag=.shut):Wj s m (.own id aa o n) (.list (s.ob id).sz (((s.ob id).es.drop o).take n))
inductive Zq (s:ab) (m:fI):List Operand→List FV→Prop where
 | nil:Zq s m [] []
 | cons {x:Operand} {xs:List Operand} {g:FV} {gs:List FV} (h:Wj s m (s.ev x) g) (hs:Zq s m xs gs):Zq s m (x :: xs) (g :: gs)
section
variable {c:Ctx} {w0 w:World} {J:JJ} {s:ab} {a:Act} {β:Nat→Option Nat}
def jb (J:JJ) (w:World) (β:Nat→Option Nat) (s:ab) (m:fI) (b:Nat):Prop:=if m=.sh then aR J w β s b else b<w.heap.size
theorem FR.arg (h:FR c.N w0 J s a w β) {m:fI} {g:FV} (hx:Wj s m (s.ev x) g):Rd w (jb J w β s m) (a.eval x) g:=by
 have nU:∀ b,aR J w β s b→jb J w β s m b∧w.heap[b]? = w.heap[b]?:=fun b hb=>by
  unfold jb;split
  ·exact ⟨hb,rfl⟩
  ·exact ⟨hb.1,rfl⟩
 generalize hf:s.ev x=f at hx;cases hx with
 | plain f hn => exact (h.a9 hf hn).mono nU
 | sub f g hn hle => exact ((h.a9 hf hn).mono nU).le hle
 | nil sz =>
  rw [h.cD hf];exact .list none 0 0 sz [] [] rfl (zf _) zd zd zd zd zd
 | own id aa o n hl bl hm=>
  obtain ⟨A,cc,e1,e2,e3,e4,e5⟩:=(h.bx hf hl.1 hl.2).ex;obtain ⟨hw,bI,A',EB,us,mS,EH,hr,EJ,aU⟩:=h.src hf (Src.own id aa o n hl bl);rw [e1] at mS ⊢;injection mS with k1 k2 k3
  subst k1;refine .list A n cc _ _ us k2.symm e2 hw bI (fun h0=>?_) hr.1 (hr.mono nU).2;cases hb:β id with
  | none => have := (e4 hb).2; omega
  | some b=>
   obtain ⟨o',rfl,_⟩:=e5 b hb;refine ⟨b,o',rfl,?_,fun j u hu=>by have:=aU _ rfl j u hu;rwa [yL] at this⟩;have aD:=((h.obj id hl.1).lt hb).2;unfold jb;split
   ·rename_i w8;have ox:=hm w8;refine ⟨aD,h.fresh b ((h.obj id hl.1).lt hb).1 (.inr ⟨id,hl.1,hb⟩),fun ba bw e=>?_⟩;have:=h.inj id ba b hl.1 (xL.bo bw) hb e;subst this;rw [ox] at bw;cases bw
   ·exact aD
theorem FR.args (h:FR c.N w0 J s a w β) {m:fI}:∀ {xs:List Operand} {gs:List FV},Zq s m xs gs→ay w (jb J w β s m) (xs.map a.eval) gs
 | _, _, .nil => ay.nil
 | _, _, .cons hx hs => ay.cons (h.arg hx) (h.args hs)
theorem Wi {P:Program} {f:Nat} (hg:oX P f=true) (args:Array Value) (w:World):(callFunc f args).run P w=.ok (.enter f args) w:=by
 unfold oX at hg;cases hf:P.funcs[f]? with
 | none => rw [hf] at hg; cases hg
 | some fn =>
  rw [hf] at hg;simp only [zA,bne_iff_ne,ne_eq] at hg;have hb:fn.body≠none:=fun e=>by rw [e] at hg;cases hg.1
  have hp:(program:Sem Program).run P w=.ok P w:=rfl;simp [callFunc,hp,hf,hg.2,hb]
theorem u5 (h:FR c.N w0 J s a w β) {f:Nat} {ts:Array TypeId} {m:fI} {gs:List FV} {res:FV} (hs:zX c.P f gs m res) (hx:Zq s m xs.toList gs) {ty:TypeId} {pos:String} {after:Array Edge} {g:Option (Nat×Bool)}
{Q : Exit→Act→World→Prop} (hK:∀ v w',Below w.heap.size w w'→oP w w' (jb J w β s m) m v res→K (a.put dst v) w') :
   (⟨dst,.call { callee:=.value (.func f),args:=xs,argTypes:=ts },ty,pos,after,g⟩:Oper).wp c.P a w K Q:=by
 have nY:∀ b,jb J w β s m b→b<w.heap.size:=fun b hb=>by
  unfold jb at hb;split at hb
  ·exact hb.1
  ·exact hb
 have hc:=hs.calls w (jb J w β s m) (xs.toList.map a.eval) nY (h.args hx);have bH:(xs.toList.map a.eval).toArray=xs.map a.eval:=by
  apply YQ;simp
 rw [bH] at hc;unfold Oper.wp;have bz:(execOp a.eval ⟨dst,.call { callee:=.value (.func f),args:=xs,argTypes:=ts },ty,pos,after,g⟩).run c.P w=.ok (.enter f (xs.map a.eval)) w:=by
  have:=Wi (P:=c.P) hs.go (xs.map a.eval) w;simp [execOp,resolve,Act.eval,Deferred.ofValue,invoke,this]
 rw [bz,Oper.upon_enter];refine hc.mono ?_;rintro e w' ⟨v,rfl,hb,hr⟩;exact hK v w' hb hr
end
section
variable {c:Ctx} {w0 w:World} {J:JJ} {s:ab} {a:Act} {β:Nat→Option Nat}
theorem Di (h:FR c.N w0 J s a w β) {f:Nat} {ts:Array TypeId} {gs aO:List FV} {res:FV} (ex:s.ev x=.fn f aO) (hs:zX c.P f (gs++aO) .fr res) (hx:Zq s .fr xs.toList gs) {ty:TypeId} {pos:String} {after:Array Edge} {g:Option (Nat×Bool)}
{Q : Exit→Act→World→Prop} (hK:∀ v w',Below w.heap.size w w'→oP w w' (fun b=>b<w.heap.size) .fr v res→K (a.put dst v) w') :
   (⟨dst,.call { callee:=.value x,args:=xs,argTypes:=ts },ty,pos,after,g⟩:Oper).wp c.P a w K Q:=by
 have ph:=h.args hx;have hl:∀ b,jb J w β s .fr b→b<w.heap.size:=fun b hb=>by simpa [jb] using hb
 have hv:=VR.rd (by have:=h.ev x;rwa [ex] at this) rfl;generalize Ai:a.eval x=v at hv;cases hv with
 | fn f us fs kN y9=>
  have c8:ay w (fun b=>b<w.heap.size) us aO:=⟨kN,fun j u q hu hq=>Rd.mono (fun b hb=>⟨hb.1,rfl⟩) (y9 j u q hu hq)⟩
  have qf:ay w (fun b=>b<w.heap.size) (xs.toList.map a.eval) gs:=⟨ph.1,fun j u q hu hq=>Rd.mono (fun b hb=>⟨hl b hb,rfl⟩) (ph.2 j u q hu hq)⟩
  have hc:=hs.calls w (fun b=>b<w.heap.size) (xs.toList.map a.eval++us) (fun b hb=>hb) (qf.append c8);have bH:(xs.toList.map a.eval++us).toArray=xs.map a.eval++us.toArray:=by
   apply YQ;simp
  rw [bH] at hc;unfold Oper.wp;have bz:(execOp a.eval ⟨dst,.call { callee:=.value x,args:=xs,argTypes:=ts },ty,pos,after,g⟩).run c.P w=.ok (.enter f (xs.map a.eval++us.toArray)) w:=by
   have:=Wi (P:=c.P) hs.go (xs.map a.eval++us.toArray) w;simp [execOp,resolve,Ai,Deferred.ofValue,invoke,this]
  rw [bz,Oper.upon_enter];refine hc.mono ?_;rintro e w' ⟨v,rfl,hb,hr⟩;exact hK v w' hb hr
theorem Bw (hF:FR c.N w0 J s a w β) {f:Nat} {aO:List FV} (hx:xs.toList.map s.ev=aO) (hc:∀ g∈aO,g.hand=none) :
  yK c w0 J s a ⟨dst,.makeFunc (.func f) #[] xs,ty,pos,after,g⟩ w (.fn f aO) []:=by
 have hl:ay w (aR J w β s) (xs.toList.map a.eval) aO:=by
  subst hx;refine ⟨by simp,fun j u q hu hq=>?_⟩;rw [xy] at hu hq;cases rk:xs.toList[j]? with
  | none => rw [rk] at hu; cases hu
  | some y =>
   rw [rk] at hu hq;simp only [xG,zK] at hu hq;subst hu;subst hq;exact VR.rd (hF.ev y) (hc _ (zL.2 ⟨y,ya rk,rfl⟩))
 have hv:(xs.toList.map a.eval).toArray=xs.map a.eval:=by apply YQ;simp
 exact .rd hF (v:=.func (.func f) #[] (xs.map a.eval)) (by simp [execOp,Instr.makeFunc]) (by rw [← hv];exact .fn f _ _ hl.1 hl.2) rfl
end
def mO (op:Op):Prop:=(∃ T x y,op=.store T x y)∨∃ T x y z,op=.mapUpdate T x y z
def VG:Op→Bool
 | .move _ => true
 | .assign _ => true
 | _ => false
def Xe (s:ab) (d:Nat) (op:Op):List Nat:=d::bif VG op then [] else op.operands.toList.filterMap fun x=>(s.ev x).hand.map (·.1)
theorem Ds (s:ab) (d:Nat) (op:Op):d∈Xe s d op:=List.mem_cons_self
theorem Dt {s:ab} (br:VG op=false) (hx:x∈op.operands.toList) {id:Nat} (h:(s.ev x).hand=some (id,aa)):id∈Xe s d op:=by
 unfold Xe;rw [br];exact Wy _ (ZI.2 ⟨x,hx,by rw [h];rfl⟩)
inductive ax (c:Ctx) (s:ab) (d:Nat):Op→FV→List (Nat×yo)→Prop where
 | move (x:Operand):ax c s d (.move x) (s.ev x) []
 | assign (x:Operand):ax c s d (.assign x) (s.ev x) []
 | pick (fQ x y:Operand) {b:Bool} (hb:s.ev fQ=.bool b):ax c s d (.pick fQ x y) (if b then s.ev x else s.ev y) []
 | cr (op:BinOp) (T T2:TypeId) (x y:Operand) {k:IntKind} {m n:Int} {f:FV} (ex:s.ev x=.int k m) (ey:s.ev y=.int k n) (hf:cr op k m n=some f):ax c s d (.binOp op T x y T2) f []
 | mA (op:BinOp) (T T2:TypeId) (x y:Operand) {k:IntKind} {m n:Int} (ex:s.ev x=.int k m) (ey:s.ev y=.int k n) (hn:n ≠ 0) (bM:op=.quo ∨ op=.rem):ax c s d (.binOp op T x y T2) (.int k (if op=.quo then k.wrap (m.tdiv n) else m.tmod n)) []
 | jg (op:BinOp) {T T2:TypeId} (x y:Operand) {m n:Bool} (hT:(c.ty T).k=.bool) (ex:s.ev x=.bool m) (ey:s.ev y=.bool n) (bM:op=.eql ∨ op=.neq):ax c s d (.binOp op T x y T2) (.bool (if op=.eql then m == n else m != n)) []
 | not (T:TypeId) (x:Operand) {b:Bool} (ex:s.ev x=.bool b):ax c s d (.unOp .not T x) (.bool (!b)) []
 | shift (op:BinOp) (T T2:TypeId) (x y:Operand) {k yk:IntKind} {m n:Int} (ex:s.ev x=.int k m) (ey:s.ev y=.int yk n) (hn:0 ≤ n) (bM:op=.shl ∨ op=.shr):ax c s d (.binOp op T x y T2) (.int k (if op=.shl then k.wrap (m * 2 ^ (min n.toNat k.bits)) else m.fdiv (2 ^ (min n.toNat k.bits)))) []
 | conv {T T2:TypeId} {k2:IntKind} (hT:(c.ty T).k ≠ .other) (lT:(c.ty T2).k=.int k2) (x:Operand) {k:IntKind} {n:Int} (ex:s.ev x=.int k n):ax c s d (.convert T T2 x) (.int k2 (k2.wrap n)) []
 | neg (T:TypeId) (x:Operand) {k:IntKind} {n:Int} (ex:s.ev x=.int k n):ax c s d (.unOp .neg T x) (.int k (k.wrap (-n))) []
 | min2 (bi:Builtin) (T T2:TypeId) (x y:Operand) {k:IntKind} {m n:Int} (ex:s.ev x=.int k m) (ey:s.ev y=.int k n) (eQ:bi=.min∨bi=.max) :
   ax c s d (.call { callee:=.builtin bi,args:=#[x,y],argTypes:=#[T,T2] }) (.int k (if bi=.min then (if n<m then n else m) else (if m<n then n else m))) []
 | fq {T e:TypeId} (hT:(c.ty T).k=.slice e) (x:Operand) {id aa o n:Nat} (ex:s.ev x=.own id aa o n) (hl:s.live id aa):ax c s d (.call { callee := .builtin .len, args := #[x], argTypes := #[T] }) (.int .i64 n) []
 | eg {T e:TypeId} (hT:(c.ty T).k=.slice e) (x:Operand) {sz:Nat} {es:List (List FV)} (ex:s.ev x=.list sz es):ax c s d (.call { callee := .builtin .len, args := #[x], argTypes := #[T] }) (.int .i64 es.length) []
 | fp {T e:TypeId} (hT:(c.ty T).k=.slice e) (x:Operand) (ex:s.ev x=.nil):ax c s d (.call { callee := .builtin .len, args := #[x], argTypes := #[T] }) (.int .i64 0) []
 | du {T ft i off:Nat} {fs:List (Nat×Nat)} (hT:(c.ty T).k=.aw fs) (hf:fs[i]? = some (off,ft)) (eu:(c.ty ft).k≠.other) (az:(c.ty ft).size≠0) (x:Operand) {id aa j o:Nat} (ex:s.ev x=.ptr id aa j o) (hl:s.live id aa) :
   ax c s d (.fieldAddr T x i) (.ptr id aa j (o+off)) []
 | cM {T ft i off:Nat} {fs:List (Nat×Nat)} (hT:(c.ty T).k=.aw fs) (hf:fs[i]? = some (off,ft)) (eu:(c.ty ft).k≠.other) (az:(c.ty ft).size≠0) (x:Operand) {sz j o:Nat} {es:List (List FV)} (ex:s.ev x=.aK sz es j o) :
   ax c s d (.fieldAddr T x i) (.aK sz es j (o+off)) []
 | cR {T e:Nat} (hT:(c.ty T).k=.slice e) (he:(c.ty e).k≠.other) (x y:Operand) {sz:Nat} {es:List (List FV)} {k:IntKind} {n:Nat} (ex:s.ev x=.list sz es) (az:(c.ty e).size=sz) (ey:s.ev y=.int k n) (h1:n<es.length) :
   ax c s d (.indexAddr T x y) (.aK sz es n 0) []
 | dC {T e:Nat} (hT:(c.ty T).k=.slice e) (he:(c.ty e).k≠.other) (x y:Operand) {id aa o m:Nat} {k:IntKind} {n:Nat} (ex:s.ev x=.own id aa o m) (hl:s.live id aa) (az:(c.ty e).size=(s.ob id).sz) (ey:s.ev y=.int k n) (h1:n<m) :
   ax c s d (.indexAddr T x y) (.ptr id aa (o+n) 0) []
 | cQ {T m e:Nat} (hT:(c.ty T).k=.arr m e) (he:(c.ty e).k≠.other) (x y:Operand) {id aa j o:Nat} {k:IntKind} {n:Nat} (ex:s.ev x=.ptr id aa j o) (hl:s.live id aa) (ey:s.ev y=.int k n) (h1:n<m) :
   ax c s d (.indexAddr T x y) (.ptr id aa j (o+n * (c.ty e).size)) []
 | dh {T m e:Nat} (hT:(c.ty T).k=.arr m e) (he:(c.ty e).k≠.other) (x y:Operand) {sz j o:Nat} {es:List (List FV)} {k:IntKind} {n:Nat} (ex:s.ev x=.aK sz es j o) (ey:s.ev y=.int k n) (h1:n<m) :
   ax c s d (.indexAddr T x y) (.aK sz es j (o+n * (c.ty e).size)) []
 | cJ {T:Nat} {bb:Bool} (hk:(c.ty T).k.aW = some bb) (x:Operand) {sz j o:Nat} {es:List (List FV)} (ex:s.ev x=.aK sz es j o) (hj:j<es.length) (ho:o+(c.ty T).size ≤ sz) (bX : o<sz):ax c s d (.load T x) (Zn (c.ty T) ((es.getD j []).drop o)) []
 | dD {T:Nat} {bb:Bool} (hk:(c.ty T).k.aW = some bb) (x:Operand) {id aa j o:Nat} (ex:s.ev x=.ptr id aa j o) (hl:s.live id aa) (bl:(s.ob id).ag.row=true) (hj:j<(s.ob id).es.length) (ho:o+(c.ty T).size≤(s.ob id).sz) (bX : o<(s.ob id).sz) :
   ax c s d (.load T x) (Zn (c.ty T) (((s.ob id).es.getD j []).drop o)) []
 | store {T:Nat} (hk:(c.ty T).k≠.other) (x y:Operand) {id aa j o:Nat} (ex:s.ev x=.ptr id aa j o) (hl:(s.ob id).ag=.own) (hv:(s.ob id).aa=aa) {f:FV} (ey:s.ev y=f) (hf:f.cells.all FV.one=true) (cz:f.cells.length=(c.ty T).size)
   (hj:j<(s.ob id).es.length) (ho:o+(c.ty T).size≤(s.ob id).sz):ax c s d (.store T x y) .undef [(id,{ s.ob id with es:=(s.ob id).es.set j (ai ((s.ob id).es.getD j []) o f.cells) })]
 | alloc {T:Nat} (hk:(c.ty T).k ≠ .other) (hz:(c.ty T).zero.all FV.one=true):ax c s d (.alloc T) (.ptr d ((s.ob d).aa+1) 0 0) [(d, ⟨(s.ob d).aa+1, .own, T, (c.ty T).zero.length, [(c.ty T).zero]⟩)]
 | box {T:Nat} (x:Operand) {f:FV} (ex:s.ev x=f) (hf:f.cells.all FV.one=true):ax c s d (.box T x) (.ptr d ((s.ob d).aa+1) 0 0) [(d, ⟨(s.ob d).aa+1, .own, T, f.cells.length, [f.cells]⟩)]
 | build {T:Nat} {fs:List (Nat×Nat)} (hT:(c.ty T).k=.aw fs) (iW:∀ p∈fs,(c.ty p.2).k≠.other) (ps:Array (Nat×Operand)) {cs:List FV} (hf:Zg (fun i=>(fs[i]?).map fun p=>(p.1,(c.ty p.2).size)) (c.ty T).zero (s.parts ps)=some cs) :
   ax c s d (.build T ps) (.agg cs) []
 | gI {T n e:Nat} (hT:(c.ty T).k=.arr n e) (he:(c.ty e).k ≠ .other) (ps:Array (Nat × Operand)) {cs:List FV} (hf:Zg (fun i => some (i * (c.ty e).size, (c.ty e).size)) (c.ty T).zero (s.parts ps)=some cs):ax c s d (.build T ps) (.agg cs) []
 | buildSlice {T e n:Nat} (hT:(c.ty T).k=.slice e) (he:(c.ty e).k≠.other) (ps:Array (Nat×Operand)) (es:List (List FV)) (hn:es.length=n) (hw:∀ x∈es,x.length=(c.ty e).size) (ho:∀ f∈es.flatten,f.one=true) (c8:n * (c.ty e).size≤16777216) (jO:n≤16777216)
   (hf:Zg (fun i=>some (i * (c.ty e).size,(c.ty e).size)) (List.replicate (n * (c.ty e).size) .undef) (s.parts ps)=some es.flatten):ax c s d (.buildSlice T n ps) (.own d ((s.ob d).aa+1) 0 n) [(d,⟨(s.ob d).aa+1,.own,e,(c.ty e).size,es⟩)]
 | bO {T e n:Nat} (hT:(c.ty T).k=.slice e) (he:(c.ty e).k≠.other) (ps:Array (Nat×Operand)) (es:List (List FV)) (hn:es.length=n) (hw:∀ x∈es,x.length=(c.ty e).size) (ho:∀ f∈es.flatten,f.one=true) (c8:n * (c.ty e).size≤16777216) (jO:n≤16777216)
   (hf:Zg (fun i=>some (i * (c.ty e).size,(c.ty e).size)) (List.replicate (n * (c.ty e).size) .undef) (s.parts ps)=some es.flatten):ax c s d (.buildSlice T n ps) (.list (c.ty e).size es) []
 | makeSlice {T e n:Nat} (hT:(c.ty T).k=.slice e) (he:(c.ty e).k≠.other) (x y:Operand) {k1 k2:IntKind} (ex:s.ev x=.int k1 n) (ey:s.ev y=.int k2 n) (ho:(c.ty e).zero.all FV.one=true) (hb:(c.ty e).bytes * n≤281474976710656) (hn:n≤281474976710656) :
   ax c s d (.makeSlice T x y) (.own d ((s.ob d).aa+1) 0 n) [(d,⟨(s.ob d).aa+1,.own,e,(c.ty e).size,List.replicate n (c.ty e).zero⟩)]
 | eG {T e:Nat} (hT:(c.ty T).k=.slice e) (he:(c.ty e).k≠.other) (x:Operand) (lo hi:Option Operand) {id aa o m l u:Nat} (ex:s.ev x=.own id aa o m) (hl:s.live id aa) (az:(c.ty e).size=(s.ob id).sz) (dp:s.lo lo l) (cI:s.hi hi m u) (h1:l≤u) (h2:u≤m) :
   ax c s d (.slice T x lo hi none) (.own id aa (o+l) (u - l)) []
 | cT {T e:Nat} (hT:(c.ty T).k=.slice e) (he:(c.ty e).k≠.other) (x:Operand) (lo hi:Option Operand) {sz l u:Nat} {es:List (List FV)} (ex:s.ev x=.list sz es) (az:(c.ty e).size=sz) (dp:s.lo lo l) (cI:s.hi hi es.length u) (h1:l≤u) (h2:u≤es.length) :
   ax c s d (.slice T x lo hi none) (.list sz ((es.drop l).take (u - l))) []
 | eF {T e:Nat} (hT:(c.ty T).k=.slice e) (he:(c.ty e).k ≠ .other) (x:Operand) (lo hi:Option Operand) (ex:s.ev x=.nil) (dp:s.lo lo 0) (cI:s.hi hi 0 0):ax c s d (.slice T x lo hi none) .nil []
 | extract (x:Operand) {i:Nat} {fs:List FV} {f:FV} (ex:s.ev x=.bN fs) (hf:fs[i]? = some f) (hn:f.hand=none):ax c s d (.extract x i) f []
 | nilPtr (x:Operand) {id aa i o:Nat} (ex:s.ev x=.ptr id aa i o) (hl:s.live id aa):ax c s d (.nilCheck x) (.ptr id aa i o) []
 | fx (x:Operand) {sz i o:Nat} {es:List (List FV)} (ex:s.ev x=.aK sz es i o):ax c s d (.nilCheck x) (.aK sz es i o) []
 | append {T e:Nat} (hT:(c.ty T).k=.slice e) (he:(c.ty e).k≠.other) (bm:0<(c.ty e).size) (x y:Operand) {f1 f2:FV} {bJ aA:List (List FV)} {i:Option Nat} (ex:s.ev x=f1) (ey:s.ev y=f2) (h1:jc s f1 (c.ty e).size bJ i) (hE:∀ k,i=some k→(s.ob k).E=e)
   (h2:Src s f2 (c.ty e).size aA) (hb:(bJ.length+aA.length) * (c.ty e).bytes≤140737488355328) (hm:bJ.length+aA.length≤140737488355328) :
   ax c s d (.call { callee:=.builtin .append,args:=#[x,y],argTypes:=#[T,T] }) (.own d ((s.ob d).aa+1) 0 (bJ++aA).length) (ZE s d e (c.ty e).size (bJ++aA) i)
 | e9 {T e:Nat} (hT:(c.ty T).k=.slice e) (he:(c.ty e).k≠.other) (bm:0<(c.ty e).size) (x y:Operand) {f1 f2:FV} {bJ aA:List (List FV)} {i:Option Nat} (ex:s.ev x=f1) (ey:s.ev y=f2) (h1:jc s f1 (c.ty e).size bJ i) (hE:∀ k,i=some k→(s.ob k).E=e)
   (h2:Src s f2 (c.ty e).size aA) (hb:(bJ.length+aA.length) * (c.ty e).bytes≤140737488355328) (hm:bJ.length+aA.length≤140737488355328) :
   ax c s d (.call { callee:=.builtin .append,args:=#[x,y],argTypes:=#[T,T] }) (.list (c.ty e).size (bJ++aA)) (ZE s d e (c.ty e).size (bJ++aA) i++[(d,⟨(s.ob d).aa+1,.dead,e,(c.ty e).size,bJ++aA⟩)])
 | call {f:Nat} {xs:Array Operand} {ts:Array TypeId} {m:fI} {gs:List FV} {res:FV} (hs:zX c.P f gs m res) (hm:m=.fr ∨ m=.sh) (hx:Zq s m xs.toList gs):ax c s d (.call { callee := .value (.func f), args := xs, argTypes := ts }) res []
 | fP {f:Nat} {x:Operand} {xs:Array Operand} {ts:Array TypeId} {gs aO:List FV} {res:FV} (ex:s.ev x=.fn f aO) (hs:zX c.P f (gs ++ aO) .fr res) (hx:Zq s .fr xs.toList gs):ax c s d (.call { callee := .value x, args := xs, argTypes := ts }) res []
 | eC {f:Nat} {xs:Array Operand} {aO:List FV} (hx:xs.toList.map s.ev=aO) (hc:∀ g ∈ aO, g.hand=none):ax c s d (.makeFunc (.func f) #[] xs) (.fn f aO) []
 | ep {f:Nat} {xs:Array Operand} {ts:Array TypeId} {E sz:Nat} {gs:List FV} {es:List (List FV)} (hs:zX c.P f gs (.ow E sz) (.list sz es)) (hx:Zq s (.ow E sz) xs.toList gs) :
   ax c s d (.call { callee:=.value (.func f),args:=xs,argTypes:=ts }) (.own d ((s.ob d).aa+1) 0 es.length) [(d,⟨(s.ob d).aa+1,.own,E,sz,es⟩)]
 | e8 {T e:Nat} (hT:(c.ty T).k=.slice e) (he:(c.ty e).k≠.other) (bm:0<(c.ty e).size) (x y:Operand) {id aa o n:Nat} (ex:s.ev x=.own id aa o n) (bt:(s.ob id).ag=.roomy) (aH:(s.ob id).aa=aa)
   (hE:(s.ob id).E=e) (az:(s.ob id).sz=(c.ty e).size) (fE:o+n=(s.ob id).es.length) {f2:FV} {aA:List (List FV)} (ey:s.ev y=f2) (h2:Src s f2 (c.ty e).size aA) (h1:aA.length=1) :
   ax c s d (.call { callee:=.builtin .append,args:=#[x,y],argTypes:=#[T,T] }) (.own d ((s.ob d).aa+1) o (n+1)) [(id,{ s.ob id with ag:=.dead }),(d,⟨(s.ob d).aa+1,.own,e,(c.ty e).size,(s.ob id).es++aA⟩)]
 | eY {T e:Nat} (hT:(c.ty T).k=.slice e) (he:(c.ty e).k≠.other) (bm:0<(c.ty e).size) (x y:Operand) {id aa o n:Nat} (ex:s.ev x=.own id aa o n) (bt:(s.ob id).ag=.full) (aH:(s.ob id).aa=aa)
   (hE:(s.ob id).E=e) (az:(s.ob id).sz=(c.ty e).size) (fE:o+n=(s.ob id).es.length) {f2:FV} {aA:List (List FV)} (ey:s.ev y=f2) (h2:Src s f2 (c.ty e).size aA) (h1:aA.length=1)
   (hb:(n+1) * (c.ty e).bytes≤140737488355328) (hm:n+1≤140737488355328) :
   ax c s d (.call { callee:=.builtin .append,args:=#[x,y],argTypes:=#[T,T] }) (.own d ((s.ob d).aa+1) 0 (n+1)) [(id,{ s.ob id with ag:=.dead }),(d,⟨(s.ob d).aa+1,.own,e,(c.ty e).size,(s.ob id).es.drop o++aA⟩)]
 | j6 {T:Nat} (hk:(c.ty T).k.aW = some false) (hz:(c.ty T).size=1) (x:Operand) {id aa j:Nat} (ex:s.ev x=.ptr id aa j 0) (bt:(s.ob id).ag=.aJ) (aH:(s.ob id).aa=aa) (az:(s.ob id).sz=1) {f:FV} (hj:(s.ob id).es[j]? = some [f]):ax c s d (.load T x) f []
 | fA {T:Nat} (hk:(c.ty T).k≠.other) (hz:(c.ty T).size=1) (x y:Operand) {id aa j:Nat} (ex:s.ev x=.ptr id aa j 0) (bt:(s.ob id).ag=.aJ) (aH:(s.ob id).aa=aa) (az:(s.ob id).sz=1) {f:FV} (ey:s.ev y=f)
   (hf:oO s f) (hj:j<(s.ob id).es.length):ax c s d (.store T x y) .undef [(id,{ s.ob id with es:=(s.ob id).es.set j [f] })]
 | copy {T T2 e:Nat} (hT:(c.ty T).k=.slice e) (he:(c.ty e).k≠.other) (hz:(c.ty e).size=1) (x y:Operand) {id aa o m:Nat} (ex:s.ev x=.own id aa o m) (bt:(s.ob id).ag=.own) (aH:(s.ob id).aa=aa) (az:(s.ob id).sz=1) {f2:FV} {aA:List (List FV)} (ey:s.ev y=f2) (h2:Src s f2 1 aA) :
   ax c s d (.call { callee:=.builtin .copy,args:=#[x,y],argTypes:=#[T,T2] }) (.int .i64 ((aA.take m).length:Nat)) [(id,{ s.ob id with es:=ai (s.ob id).es o (aA.take m) })]
 | fw {T:Nat} (hk:(c.ty T).k ≠ .other) (dV:ZQ c.P T=false) (x:Operand) {f:FV} (ex:s.ev x=f) (hn:f.hand=none):ax c s d (.makeInterface T x) (.iface T f) []
 | eD {T:Nat} (hk:(c.ty T).k ≠ .other) (dV:ZQ c.P T=false) (x:Operand) {f:FV} (ex:s.ev x=f) (hn:f.bZ=true):ax c s d (.makeInterface T x) (.wrap (.pj T) [f]) []
 | fB {T T2:Nat} (hk:(c.ty T).k ≠ .other) (dV:ZQ c.P T=false) (x:Operand) {f:FV} (ex:s.ev x=.iface T f) (hn:f.hand=none):ax c s d (.typeAssert x T2 T false) f []
 | fu {f:Nat} {xs:Array Operand} {aO:List FV} (hx:xs.toList.map s.ev=aO) (hn:aO.all FV.bZ=true):ax c s d (.makeFunc (.func f) #[] xs) (.wrap (.fn f) aO) []
 | bound {f:Nat} {xs:Array Operand} {aO:List FV} (hx:xs.toList.map s.ev=aO) (hn:aO.all FV.bZ=true):ax c s d (.makeFunc (.func f) xs #[]) (.wrap (.bound f) aO) []
 | ji (op:BinOp) {T T2:Nat} (x y:Operand) {X Y:List FV} {b:Bool} (ex:s.ev x=.agg X) (hX:X.all FV.aG=true) (ey:s.ev y=.agg Y) (hY:Y.all FV.aG=true) (hl:vK c.P T X Y b) (bM:op=.eql ∨ op=.neq):ax c s d (.binOp op T x y T2) (.bool (if op=.eql then b else !b)) []
 | er (op:BinOp) {T T2 e:Nat} (hT:(c.ty T).k=.slice e) (x y:Operand) {f:FV} {b:Bool} (ex:s.ev x=f) (hb:mN s f b) (ey:s.ev y=.nil) (bM:op=.eql ∨ op=.neq):ax c s d (.binOp op T x y T2) (.bool (if op=.eql then b else !b)) []
 | makeMap (T:Nat):ax c s d (.makeMap T none) (.omap d ((s.ob d).aa+1)) [(d, ⟨(s.ob d).aa+1, .bc, T, 0, []⟩)]
 | look {T k e:Nat} (hT:(c.ty T).k=.map k e) {bb:Bool} (he:(c.ty e).k.aW = some bb) (K:Keyed c.P k) (x y:Operand) (ok:Bool) {es:List (List FV)} (ex:(∃ id aa,s.ev x=.omap id aa∧(s.live id aa∧(s.ob id).ag≠.bH)∧(s.ob id).es=es)∨s.ev x=.smap es)
   {kf:FV} (ey:s.ev y=kf) (hk:∀ row∈es,∀ kf,row.head? = some kf→YH c.P k kf) (cp:YH c.P k kf) {vf:FV} {found:Bool} (hl:VO es kf (c.ty e).kU vf found) (hn:vf.hand=none):ax c s d (.lookup T x y ok) (if ok then .bN [vf,.bool found] else vf) []
 | update {T k e:Nat} (hT:(c.ty T).k=.map k e) (K:Keyed c.P k) (x y z:Operand) {id aa:Nat} (ex:s.ev x=.omap id aa) (bt:(s.ob id).ag=.bc) (aH:(s.ob id).aa=aa)
   {kf vf:FV} (ey:s.ev y=kf) (ez:s.ev z=vf) (hk:∀ row∈(s.ob id).es,∀ kf,row.head? = some kf→YH c.P k kf) (cp:YH c.P k kf) (hn:vf.hand=none) {aY : List (List FV)} (hs:oU (s.ob id).es kf vf aY) :
   ax c s d (.mapUpdate T x y z) .undef [(id,{ s.ob id with es:=aY })]
 | jk {op:Op} {wr:List (Nat×yo)} (br:VG op=false) (cx:mO op) (hg:∀ s' : ab,(∀ x∈op.operands.toList,s'.ev x=s.ev x)→(∀ id∈Xe s d op,s'.ob id=s.ob id)→
   ∀ (w0:World) (J:JJ) (a:Act) (w:World) (β:Nat→Option Nat) (dst:Option Nat) (ty:TypeId) (pos:String) (after:Array Edge) (g:Option (Nat×Bool)),FR c.N w0 J s' a w β→
    ∃ w',(execOp a.eval ⟨dst,op,ty,pos,after,g⟩).run c.P w=.ok .skip w'∧FR c.N w0 J (s'.wr wr) a w' β):ax c s d op .undef wr
 | ext {op:Op} {f:FV} {wr:List (Nat×yo)} (br:VG op=false) (cx:¬ mO op) (hg:∀ s' : ab,(∀ x∈op.operands.toList,s'.ev x=s.ev x)→(∀ id∈Xe s d op,s'.ob id=s.ob id)→
   ∀ (w0:World) (J:JJ) (a:Act) (w:World) (β:Nat→Option Nat) (ty:TypeId) (pos:String) (after:Array Edge) (g:Option (Nat×Bool)),d<c.N→FR c.N w0 J s' a w β→
    ∀ (K:Act→World→Prop) (Q:Exit→Act→World→Prop),(∀ a' w' aS,FR c.N w0 J ((s'.wr wr).put d f) a' w' aS→K a' w')→(⟨some d,op,ty,pos,after,g⟩:Oper).wp c.P a w K Q):ax c s d op f wr
def ab.mH (s:ab):Option Nat→FV→ab
 | some d, f => s.put d f
 | none, _ => s
def ab.app (s:ab) (dst:Option Nat) (f:FV) (wr:List (Nat×yo)):ab:=(s.wr wr).mH dst f
section
variable {c:Ctx} {w0 w:World} {J:JJ} {s:ab} {a:Act} {β:Nat→Option Nat}
theorem yK.wp {o:Oper} {f:FV} {wr:List (Nat×yo)} (h:yK c w0 J s a o w f wr) (hd:∀ d,o.dst=some d→d<c.N) (hK:∀ a' w' aS,FR c.N w0 J (s.app o.dst f wr) a' w' aS→K a' w'):o.wp c.P a w K Q:=by
 obtain ⟨v,w',aS,hr,hF,hV,aH⟩:=h;unfold Oper.wp;rw [hr,Oper.upon_value];unfold ab.app at hK;cases hdd:o.dst with
 | none => rw [hdd] at hK; exact hK _ _ _ hF
 | some d => rw [hdd] at hK; exact hK _ _ _ (hF.put (hd d hdd) hV aH)
theorem ax.sound {f:FV} {wr:List (Nat×yo)} (h:ax c s d op f wr) (hF:FR c.N w0 J s a w β) (o:Oper) (ho:o.op=op) (hd:o.dst=some d∨(o.dst=none∧mO op)) (bk:∀ d,o.dst=some d→d<c.N)
(hK : ∀ a' w' aS,FR c.N w0 J (s.app o.dst f wr) a' w' aS→K a' w'):o.wp c.P a w K Q:=by
 obtain ⟨dst,j9,ty,pos,after,g⟩:=o;dsimp only at ho hd bk hK;subst ho;by_cases br:mO j9
 ·rcases br with ⟨T,x,y,rfl⟩|⟨T,x,y,z,rfl⟩
  ·cases h with
   | ext br cx hg => exact absurd (.inl ⟨_, _, _, rfl⟩) cx
   | jk br cx hg =>
    obtain ⟨w',h1,h2⟩:=hg s (fun _ _=>rfl) (fun _ _=>rfl) w0 J a w β dst ty pos after g hF;unfold Oper.wp;rw [h1,Zt];unfold ab.app at hK;cases dst with
    | none => exact hK _ _ _ h2
    | some d => exact hK _ _ _ (h2.put (bk d rfl) (VR.bu (.undef _) rfl) (fun id aa e => by cases e))
   | store hk x y ex hl hv ey hf cz hj ho =>
    obtain ⟨w',h1,h2⟩:=BI (dst:=dst) (ty:=ty) (pos:=pos) (after:=after) (g:=g) hF hk x y ex hl hv ey hf cz hj ho;unfold Oper.wp;rw [h1,Zt];unfold ab.app at hK;cases dst with
    | none => exact hK _ _ _ h2
    | some d => exact hK _ _ _ (h2.put (bk d rfl) (VR.bu (.undef _) rfl) (fun id aa e => by cases e))
   | fA hk hz x y ex bt aH az ey hf hj =>
    obtain ⟨w',h1,h2⟩:=Bx (dst:=dst) (ty:=ty) (pos:=pos) (after:=after) (g:=g) hF hk hz x y ex bt aH az ey hf hj;unfold Oper.wp;rw [h1,Zt];unfold ab.app at hK;cases dst with
    | none => exact hK _ _ _ h2
    | some d => exact hK _ _ _ (h2.put (bk d rfl) (VR.bu (.undef _) rfl) (fun id aa e => by cases e))
  ·cases h with
   | ext br cx hg => exact absurd (.inr ⟨_, _, _, _, rfl⟩) cx
   | jk br cx hg =>
    obtain ⟨w',h1,h2⟩:=hg s (fun _ _=>rfl) (fun _ _=>rfl) w0 J a w β dst ty pos after g hF;unfold Oper.wp;rw [h1,Zt];unfold ab.app at hK;cases dst with
    | none => exact hK _ _ _ h2
    | some d => exact hK _ _ _ (h2.put (bk d rfl) (VR.bu (.undef _) rfl) (fun id aa e => by cases e))
   | update hT K x y z ex bt aH ey ez hk cp hn hs =>
    obtain ⟨w',h1,h2⟩:=Vl (dst:=dst) (ty:=ty) (pos:=pos) (after:=after) (g:=g) hF hT K x y z ex bt aH ey ez hk cp hn hs;unfold Oper.wp;rw [h1,Zt];unfold ab.app at hK;cases dst with
    | none => exact hK _ _ _ h2
    | some d => exact hK _ _ _ (h2.put (bk d rfl) (VR.bu (.undef _) rfl) (fun id aa e => by cases e))
 ·obtain rfl:dst=some d:=by
   rcases hd with h'|⟨_,h'⟩
   ·exact h'
   ·exact absurd h' br
  cases h with
  | jk gT cx hg => exact absurd cx br
  | ext br cx hg => exact hg s (fun _ _ => rfl) (fun _ _ => rfl) w0 J a w β ty pos after g (bk d rfl) hF K Q hK
  | move x => exact (Cq hF x).wp bk hK
  | assign x => exact (Bu hF x).wp bk hK
  | pick fQ x y hb => exact (Cr hF fQ x y hb).wp bk hK
  | cr op T T2 x y ex ey hf => exact (Cm hF op T T2 x y ex ey hf).wp bk hK
  | mA op T T2 x y ex ey hn bM => exact (Cn hF op T T2 x y ex ey hn bM).wp bk hK
  | jg op x y hT ex ey bM => exact (CG hF op x y hT ex ey bM).wp bk hK
  | not T x ex => exact (Dx hF T x ex).wp bk hK
  | shift op T T2 x y ex ey hn bM => exact (BH hF op T T2 x y ex ey hn bM).wp bk hK
  | conv hT lT x ex => exact (Ck hF hT lT x ex).wp bk hK
  | neg T x ex => exact (Dw hF T x ex).wp bk hK
  | min2 bi T T2 x y ex ey eQ => exact (Cp hF bi T T2 x y ex ey eQ).wp bk hK
  | fq hT x ex hl => exact (AH hF hT x ex hl).wp bk hK
  | eg hT x ex => exact (AW hF hT x ex).wp bk hK
  | fp hT x ex => exact (AU hF hT x ex).wp bk hK
  | du hT hf eu az x ex hl => exact (VU hF hT hf eu az x ex hl).wp bk hK
  | cM hT hf eu az x ex => exact (Vg hF hT hf eu az x ex).wp bk hK
  | cR hT he x y ex az ey h1 => exact (Vi hF hT he x y ex az ey h1).wp bk hK
  | dC hT he x y ex hl az ey h1 => exact (VV hF hT he x y ex hl az ey h1).wp bk hK
  | cQ hT he x y ex hl ey h1 => exact (Vh hF hT he x y ex hl ey h1).wp bk hK
  | dh hT he x y ex ey h1 => exact (Wm hF hT he x y ex ey h1).wp bk hK
  | cJ hk x ex hj ho bX => exact (VW hF hk x ex hj ho bX).wp bk hK
  | dD hk x ex hl bl hj ho bX => exact (XA hF hk x ex hl bl hj ho bX).wp bk hK
  | store hk x y ex hl hv ey hf cz hj ho => exact absurd (.inl ⟨_, _, _, rfl⟩) br
  | fA hk hz x y ex bt aH az ey hf hj => exact absurd (.inl ⟨_, _, _, rfl⟩) br
  | j6 hk hz x ex bt aH az hj => exact (BG hF hk hz x ex bt aH az hj).wp bk hK
  | e8 hT he bm x y ex bt aH hE az fE ey h2 h1 => exact (AR hF d hT he bm x y ex bt aH hE az fE ey h2 h1).wp bk hK
  | eY hT he bm x y ex bt aH hE az fE ey h2 h1 hb hm => exact (AQ hF d hT he bm x y ex bt aH hE az fE ey h2 h1 hb hm).wp bk hK
  | update hT K x y z ex bt aH ey ez hk cp hn hs => exact absurd (.inr ⟨_, _, _, _, rfl⟩) br
  | makeMap T => exact (Wc hF d T).wp bk hK
  | look hT he K x y ok ex ey hk cp hl hn => exact (Co hF hT he K x y ok ex ey hk cp hl hn).wp bk hK
  | alloc hk hz => exact (B9 hF d hk hz).wp bk hK
  | box x ex hf => exact (Dv hF d x ex hf).wp bk hK
  | build hT iW ps hf => exact (Cb hF hT iW ps hf).wp bk hK
  | gI hT he ps hf => exact (Bv hF hT he ps hf).wp bk hK
  | buildSlice hT he ps es hn hw ho c8 jO hf => exact (Vf hF d hT he ps es hn hw ho c8 jO hf).wp bk hK
  | bO hT he ps es hn hw ho c8 jO hf => exact (Wl hF d hT he ps es hn hw ho c8 jO hf).wp bk hK
  | makeSlice hT he x y ex ey ho hb hn => exact (VX hF d hT he x y ex ey ho hb hn).wp bk hK
  | eG hT he x lo hi ex hl az dp cI h1 h2 => exact (Ua hF hT he x lo hi ex hl az dp cI h1 h2).wp bk hK
  | cT hT he x lo hi ex az dp cI h1 h2 => exact (Vk hF hT he x lo hi ex az dp cI h1 h2).wp bk hK
  | eF hT he x lo hi ex dp cI => exact (VZ hF hT he x lo hi ex dp cI).wp bk hK
  | extract x ex hf hn => exact (AT hF x ex hf hn).wp bk hK
  | nilPtr x ex hl => exact (XV hF x ex hl).wp bk hK
  | fx x ex => exact (XC hF x ex).wp bk hK
  | append hT he bm x y ex ey h1 hE h2 hb hm => exact (Ve hF d hT he bm x y ex ey h1 hE h2 hb hm).wp bk hK
  | e9 hT he bm x y ex ey h1 hE h2 hb hm => exact (AS hF d hT he bm x y ex ey h1 hE h2 hb hm).wp bk hK
  | call hs hm hx=>
   rename_i fi xs ts m gs;refine u5 hF hs hx (fun v w' hb hr=>?_);have hG:=hF.grow hb;have kI:∀ b,w.heap.size≤b∧b<w'.heap.size→aR J w' β s b∧w'.heap[b]? = w'.heap[b]?:=fun b bP=>⟨⟨bP.2,hF.fresh b (yT hF.bn.size bP.1) (.inl bP.1),fun id hl e=>by
    have:=((hF.obj id (xL.bo hl)).lt e).2;omega⟩,rfl⟩
   have iJ:Rd w' (aR J w' β s) v f:=by
    rcases hm with rfl|rfl
    ·exact Rd.mono kI hr
    ·refine Rd.mono (fun b bP=>?_) hr;rcases bP with h1|h1
     ·exact ⟨(aR.grow (by simpa [jb] using h1) hb).1,rfl⟩
     ·exact kI b h1
   exact hK _ _ _ (hG.put (bk d rfl) (VR.bu iJ hs.hand) (fun id aa e=>(FV.bf hs.hand e).elim))
  | fP ex hs hx=>
   refine Di hF ex hs hx (fun v w' hb hr=>?_);have hG:=hF.grow hb;have iJ:Rd w' (aR J w' β s) v _:=Rd.mono (fun b bP=>⟨⟨bP.2,hF.fresh b (yT hF.bn.size bP.1) (.inl bP.1),fun id hl e=>by
    have:=((hF.obj id (xL.bo hl)).lt e).2;omega⟩,rfl⟩) hr
   exact hK _ _ _ (hG.put (bk d rfl) (VR.bu iJ hs.hand) (fun id aa e=>(FV.bf hs.hand e).elim))
  | eC hx hc => exact (Bw hF hx hc).wp bk hK
  | copy hT hk hz x y ex bt aH az ey h2 => exact (Cl hF hT hk hz x y ex bt aH az ey h2).wp bk hK
  | fw hk dV x ex hn => exact (AJ hF hk dV x ex hn).wp bk hK
  | eD hk dV x ex hn => exact (AX hF hk dV x ex hn).wp bk hK
  | fB hk dV x ex hn => exact (AK hF hk dV x ex hn).wp bk hK
  | fu hx hn => exact (AI hF hx hn).wp bk hK
  | bound hx hn => exact (Ca hF hx hn).wp bk hK
  | ji op x y ex hX ey hY hl bM => exact (BE hF op x y ex hX ey hY hl bM).wp bk hK
  | er op hT x y ex hb ey bM => exact (BF hF op hT x y ex hb ey bM).wp bk hK
  | ep hs hx=>
   rename_i fi xs ts E sz gs es;refine u5 hF hs hx (fun v w' hb hr=>?_);obtain ⟨aY,us,e,hw,ho,aJ,bl⟩:=hr;injection e with _ e
   subst e;have hG:=hF.grow hb;have iH:=aJ.lt;have wm:∀ b,(w.heap.size≤b∧b<w'.heap.size∧v.ownBlock≠some b)→aR J w' (XZ β d v.ownBlock) (s.set d ⟨(s.ob d).aa+1,.own,E,sz,es⟩) b:=fun b bP=>⟨bP.2.1,hF.fresh b (yT hF.bn.size bP.1) (.inl bP.1),fun id hl e=>by
    rw [ab.av] at hl;unfold XZ at e;split at hl
    ·rename_i hh;rw [if_pos hh.symm] at e;exact bP.2.2 e
    ·rename_i hh;rw [if_neg (fun e=>hh e.symm)] at e;have:=((hF.obj id (xL.bo hl)).lt e).2;omega⟩
   have hM:FR c.N w0 J (s.set d ⟨(s.ob d).aa+1,.own,E,sz,es⟩) a w' (XZ β d v.ownBlock):=by
    have hI:∀ b,aR J w β s b→aR J w' (XZ β d v.ownBlock) (s.set d ⟨(s.ob d).aa+1,.own,E,sz,es⟩) b∧w'.heap[b]? = w.heap[b]?:=fun b aP=>by
     refine ⟨⟨xY aP.1 hb.size,aP.2.1,fun id hl=>?_⟩,hb.block b aP.1⟩;rw [ab.av] at hl;unfold XZ;split at hl
     ·rename_i hh;rw [if_pos hh.symm];intro e;have:=(iH b e).1;have:=aP.1;omega
     ·rename_i hh;rw [if_neg (fun e=>hh e.symm)];exact aP.2.2 id hl
    refine hF.step (C:=fun id=>id=d) hF.size hF.defers (hF.bn.trans (hb.mono hF.bn.size)) hI (fun k=>.inl ⟨rfl,rfl⟩) (fun id hC=>?_) (fun id hC=>?_) (fun id hC hl fF=>?_) (fun id hC hl _=>?_) ?_ ?_
    ·refine ⟨by rw [ab.av,if_neg (fun e=>hC e.symm)],by unfold XZ;rw [if_neg hC],fun hl b aP=>hb.block b ((hF.obj id hl).lt aP).2⟩
    ·subst hC;rw [ab.av,if_pos rfl];exact Nat.le_succ _
    ·subst hC;rw [ab.av,if_pos rfl] at fF;simp at fF
    ·subst hC;rw [ab.av,if_pos rfl];rw [xk];exact .ofRow ⟨hw,ho,v,us,ZT aJ hF.bn.size,rfl,bl.mono (fun b bP=>⟨wm b bP,rfl⟩)⟩ (.own rfl) rfl
    ·intro id ba b hl bw e e';rw [ab.av] at hl bw;unfold XZ at e e';by_cases h1:id=d
     ·by_cases h2:ba=d
      ·rw [h1,h2]
      ·rw [if_pos h1] at e;rw [if_neg h2] at e';rw [if_neg (fun e=>h2 e.symm)] at bw;have:=(iH b e).1;have:=((hF.obj ba bw).lt e').2;omega
     ·by_cases h2:ba=d
      ·rw [if_neg h1] at e;rw [if_pos h2] at e';rw [if_neg (fun e=>h1 e.symm)] at hl;have:=(iH b e').1;have:=((hF.obj id hl).lt e).2;omega
      ·rw [if_neg h1] at e;rw [if_neg h2] at e';rw [if_neg (fun e=>h1 e.symm)] at hl;rw [if_neg (fun e=>h2 e.symm)] at bw;exact hF.inj id ba b hl bw e e'
    ·intro b aD hn;refine ⟨hb.block b aD,fun id hl e=>?_⟩;rw [ab.av] at hl;unfold XZ at e;by_cases h1:id=d
     ·rw [if_pos h1] at e;have:=(iH b e).1;omega
     ·rw [if_neg h1] at e;rw [if_neg (fun e=>h1 e.symm)] at hl;exact hn id hl e
   refine hK _ _ _ (hM.put (bk d rfl) (fun _ _=>?_) (fun id aa e=>?_))
   ·rw [ab.av,if_pos rfl,xk];exact VP.fy aJ rfl rfl rfl rfl
   ·simp only [FV.hands,zP,yu] at e;obtain ⟨e1,e2⟩:=e;replace e1:=e1.symm;replace e2:=e2.symm;subst e1;subst e2;rw [ab.av,if_pos rfl];exact zf _
end
end
section
open Go.RowKit
section
variable {c:Ctx} {s s' : ab}
theorem Src.loc {f:FV} {sz:Nat} {es:List (List FV)} (h:Src s f sz es) (ho:∀ id aa,f.hand=some (id,aa)→s'.ob id=s.ob id):Src s' f sz es:=by
 cases h with
 | nil sz => exact .nil _
 | list sz es => exact .list _ _
 | own id aa o n hl bl =>
  have e:=ho id aa rfl;rw [← e];exact .own id aa o n (by unfold ab.live at *;rw [e];exact hl) (by rw [e];exact bl)
theorem jc.loc {f:FV} {sz:Nat} {es:List (List FV)} {i:Option Nat} (h:jc s f sz es i) (ho:∀ id aa,f.hand=some (id,aa)→s'.ob id=s.ob id):jc s' f sz es i:=by
 cases h with
 | nil sz => exact .nil _
 | own id aa hl hv n hn =>
  have e:=ho id aa rfl;rw [← e];exact .own id aa (by rw [e];exact hl) (by rw [e];exact hv) n (by rw [e];exact hn)
theorem Wj.loc {m:fI} {f g:FV} (h:Wj s m f g) (ho:∀ id aa,f.hand=some (id,aa)→s'.ob id=s.ob id):Wj s' m f g:=by
 cases h with
 | plain f hn => exact .plain _ hn
 | sub f g hn hle => exact .sub _ _ hn hle
 | nil sz => exact .nil _
 | own id aa o n hl bl hm =>
  have e:=ho id aa rfl;rw [← e];exact .own id aa o n (by unfold ab.live at *;rw [e];exact hl) (by rw [e];exact bl) (by rw [e];exact hm)
theorem Zq.loc {m:fI}:∀ {xs:List Operand} {gs:List FV},Zq s m xs gs→(∀ x∈xs,s'.ev x=s.ev x)→(∀ x∈xs,∀ id aa,(s.ev x).hand=some (id,aa)→s'.ob id=s.ob id)→Zq s' m xs gs
 | _, _, .nil, _, _ => .nil
 | _, _, .cons h hs, he, ho => .cons (by rw [he _ zd]; exact h.loc (ho _ zd)) (hs.loc (fun x hx => he x (by simp [hx])) (fun x hx => ho x (by simp [hx])))
theorem sb {l:Nat} (h:s.lo lo l) (he:∀ x∈lo.toList,s'.ev x=s.ev x):s'.lo lo l:=by
 cases lo with
 | none => exact h
 | some y => obtain ⟨k, hk⟩ := h; exact ⟨k, by rw [he y zd]; exact hk⟩
theorem rZ {l m:Nat} (h:s.hi lo m l) (he:∀ x∈lo.toList,s'.ev x=s.ev x):s'.hi lo m l:=by
 cases lo with
 | none => exact h
 | some y => obtain ⟨k, hk⟩ := h; exact ⟨k, by rw [he y zd]; exact hk⟩
theorem XH {ps:Array (Nat×Operand)} (he:∀ x∈(ps.toList.map (·.2)),s'.ev x=s.ev x):s'.parts ps=s.parts ps:=by
 unfold ab.parts;refine Wx fun p hp=>?_;rw [he p.2 (zL.2 ⟨p,hp,rfl⟩)]
theorem Zb {α γ:Type} {f g:α→Option γ}:∀ {l:List α},(∀ x∈l,f x=g x)→l.filterMap f=l.filterMap g
 | [], _ => rfl
 | x :: l, h => by rw [Yv, Yv, h x zd, Zb fun y hy => h y (by simp [hy])]
theorem ax.loc {f:FV} {wr:List (Nat×yo)} (h:ax c s d op f wr) (he:∀ x∈op.operands.toList,s'.ev x=s.ev x) (cZ:∀ id∈Xe s d op,s'.ob id=s.ob id):ax c s' d op f wr:=by
 have hd:=cZ d (Ds s d op);cases br:VG op with
 | true =>
  cases h <;> first|(cases br;done)|(rename_i h0 _ _;rw [br] at h0;cases h0;done)|(rename_i x;rw [← he x zh];first|exact .move x|exact .assign x)
 | false =>
 have hh:∀ x∈op.operands.toList,∀ id aa,(s.ev x).hand=some (id,aa)→s'.ob id=s.ob id:=fun x hx id aa hv=>cZ id (Dt br hx hv);have ak:∀ id aa,s'.ob id=s.ob id→s.live id aa→s'.live id aa:=fun id aa e hl=>by unfold ab.live at *;rw [e];exact hl
 cases h with
 | move x => rw [← he x zh]; exact .move x
 | assign x => rw [← he x zh]; exact .assign x
 | pick fQ x y hb => rw [← he x zh, ← he y zh]; exact .pick fQ x y (by rw [he fQ zh]; exact hb)
 | cr op T T2 x y ex ey hf => exact .cr op T T2 x y (by rw [he x zh]; exact ex) (by rw [he y zh]; exact ey) hf
 | mA op T T2 x y ex ey hn bM => exact .mA op T T2 x y (by rw [he x zh]; exact ex) (by rw [he y zh]; exact ey) hn bM
 | jg op x y hT ex ey bM => exact .jg op x y hT (by rw [he x zh]; exact ex) (by rw [he y zh]; exact ey) bM
 | not T x ex => exact .not T x (by rw [he x zh]; exact ex)
 | shift op T T2 x y ex ey hn bM => exact .shift op T T2 x y (by rw [he x zh]; exact ex) (by rw [he y zh]; exact ey) hn bM
 | conv hT lT x ex => exact .conv hT lT x (by rw [he x zh]; exact ex)
 | neg T x ex => exact .neg T x (by rw [he x zh]; exact ex)
 | min2 bi T T2 x y ex ey eQ => exact .min2 bi T T2 x y (by rw [he x zT]; exact ex) (by rw [he y zT]; exact ey) eQ
 | fq hT x ex hl => exact .fq hT x (by rw [he x zT]; exact ex) (ak _ _ (hh x zT _ _ (by rw [ex]; rfl)) hl)
 | eg hT x ex => exact .eg hT x (by rw [he x zT]; exact ex)
 | fp hT x ex => exact .fp hT x (by rw [he x zT]; exact ex)
 | du hT hf eu az x ex hl => exact .du hT hf eu az x (by rw [he x zh]; exact ex) (ak _ _ (hh x zh _ _ (by rw [ex]; rfl)) hl)
 | cM hT hf eu az x ex => exact .cM hT hf eu az x (by rw [he x zh]; exact ex)
 | cR hT hk x y ex az ey h1 => exact .cR hT hk x y (by rw [he x zh]; exact ex) az (by rw [he y zh]; exact ey) h1
 | dC hT hk x y ex hl az ey h1 =>
  have e:=hh x zh _ _ (by rw [ex];rfl);exact .dC hT hk x y (by rw [he x zh];exact ex) (ak _ _ e hl) (by rw [e];exact az) (by rw [he y zh];exact ey) h1
 | cQ hT hk x y ex hl ey h1 => exact .cQ hT hk x y (by rw [he x zh]; exact ex) (ak _ _ (hh x zh _ _ (by rw [ex]; rfl)) hl) (by rw [he y zh]; exact ey) h1
 | dh hT hk x y ex ey h1 => exact .dh hT hk x y (by rw [he x zh]; exact ex) (by rw [he y zh]; exact ey) h1
 | cJ hk x ex hj ho bX => exact .cJ hk x (by rw [he x zh]; exact ex) hj ho bX
 | dD hk x ex hl bl hj ho bX =>
  have e:=hh x zh _ _ (by rw [ex];rfl);rw [← e];exact .dD hk x (by rw [he x zh];exact ex) (ak _ _ e hl) (by rw [e];exact bl) (by rw [e];exact hj) (by rw [e];exact ho) (by rw [e];exact bX)
 | store hk x y ex hl hv ey hf cz hj ho =>
  have e:=hh x zh _ _ (by rw [ex];rfl);rw [← e];exact .store hk x y (by rw [he x zh];exact ex) (by rw [e];exact hl) (by rw [e];exact hv) (by rw [he y zh];exact ey) hf cz (by rw [e];exact hj) (by rw [e];exact ho)
 | alloc hk hz => rw [← hd]; exact .alloc hk hz
 | box x ex hf => rw [← hd]; exact .box x (by rw [he x zh]; exact ex) hf
 | build hT iW ps hf => exact .build hT iW ps (by rw [XH (fun x hx => he x (by simpa [Op.operands] using hx))]; exact hf)
 | gI hT hk ps hf => exact .gI hT hk ps (by rw [XH (fun x hx => he x (by simpa [Op.operands] using hx))]; exact hf)
 | buildSlice hT hk ps es hn hw ho c8 jO hf => rw [← hd]; exact .buildSlice hT hk ps es hn hw ho c8 jO (by rw [XH (fun x hx => he x (by simpa [Op.operands] using hx))]; exact hf)
 | bO hT hk ps es hn hw ho c8 jO hf => exact .bO hT hk ps es hn hw ho c8 jO (by rw [XH (fun x hx => he x (by simpa [Op.operands] using hx))]; exact hf)
 | makeSlice hT hk x y ex ey ho hb hn => rw [← hd]; exact .makeSlice hT hk x y (by rw [he x zh]; exact ex) (by rw [he y zh]; exact ey) ho hb hn
 | eG hT hk x lo hi ex hl az dp cI h1 h2 =>
  have e:=hh x zh _ _ (by rw [ex];rfl);exact .eG hT hk x lo hi (by rw [he x zh];exact ex) (ak _ _ e hl) (by rw [e];exact az) (sb dp (fun y hy=>he y (by cases lo <;> simp_all [Op.operands]))) (rZ cI (fun y hy=>he y (by cases hi <;> simp_all [Op.operands]))) h1 h2
 | cT hT hk x lo hi ex az dp cI h1 h2 =>
  exact .cT hT hk x lo hi (by rw [he x zh];exact ex) az (sb dp (fun y hy=>he y (by cases lo <;> simp_all [Op.operands]))) (rZ cI (fun y hy=>he y (by cases hi <;> simp_all [Op.operands]))) h1 h2
 | eF hT hk x lo hi ex dp cI =>
  exact .eF hT hk x lo hi (by rw [he x zh];exact ex) (sb dp (fun y hy=>he y (by cases lo <;> simp_all [Op.operands]))) (rZ cI (fun y hy=>he y (by cases hi <;> simp_all [Op.operands])))
 | extract x ex hf hn => exact .extract x (by rw [he x zh]; exact ex) hf hn
 | nilPtr x ex hl => exact .nilPtr x (by rw [he x zh]; exact ex) (ak _ _ (hh x zh _ _ (by rw [ex]; rfl)) hl)
 | fx x ex => exact .fx x (by rw [he x zh]; exact ex)
 | append hT hk bm x y ex ey h1 hE h2 hb hm=>
  rename_i T e f1 f2 bJ aA i;have e1:∀ id aa,f1.hand=some (id,aa)→s'.ob id=s.ob id:=fun id aa hv=>hh x zT id aa (by rw [ex];exact hv);have e2:∀ id aa,f2.hand=some (id,aa)→s'.ob id=s.ob id:=fun id aa hv=>hh y zT id aa (by rw [ey];exact hv);have p8:=h1.loc e1;have hi:∀ k,i=some k→s'.ob k=s.ob k:=fun k hk=>by
   generalize (c.ty e).size=sz at h1;cases h1 with
   | nil => cases hk
   | own id aa hl hv n hn => injection hk with hk; subst hk; exact e1 id aa rfl
  have hw:ZE s d e (c.ty e).size (bJ++aA) i=ZE s' d e (c.ty e).size (bJ++aA) i:=by
   cases i with
   | none => simp only [ZE, hd]
   | some k => simp only [ZE, hd, hi k rfl]
  rw [← hd,hw];exact .append hT hk bm x y (by rw [he x zT];exact ex) (by rw [he y zT];exact ey) p8 (fun k hk=>by rw [hi k hk];exact hE k hk) (h2.loc e2) hb hm
 | e9 hT hk bm x y ex ey h1 hE h2 hb hm=>
  rename_i T e f1 f2 bJ aA i;have e1:∀ id aa,f1.hand=some (id,aa)→s'.ob id=s.ob id:=fun id aa hv=>hh x zT id aa (by rw [ex];exact hv);have e2:∀ id aa,f2.hand=some (id,aa)→s'.ob id=s.ob id:=fun id aa hv=>hh y zT id aa (by rw [ey];exact hv);have p8:=h1.loc e1;have hi:∀ k,i=some k→s'.ob k=s.ob k:=fun k hk=>by
   generalize (c.ty e).size=sz at h1;cases h1 with
   | nil => cases hk
   | own id aa hl hv n hn => injection hk with hk; subst hk; exact e1 id aa rfl
  have hw:ZE s d e (c.ty e).size (bJ++aA) i=ZE s' d e (c.ty e).size (bJ++aA) i:=by
   cases i with
   | none => simp only [ZE, hd]
   | some k => simp only [ZE, hd, hi k rfl]
  rw [← hd,hw];exact .e9 hT hk bm x y (by rw [he x zT];exact ex) (by rw [he y zT];exact ey) p8 (fun k hk=>by rw [hi k hk];exact hE k hk) (h2.loc e2) hb hm
 | e8 hT hk bm x y ex bt aH hE az fE ey h2 h1=>
  have e:=hh x zT _ _ (by rw [ex];rfl);rw [← hd,← e];exact .e8 hT hk bm x y (by rw [he x zT];exact ex) (by rw [e];exact bt) (by rw [e];exact aH) (by rw [e];exact hE) (by rw [e];exact az) (by rw [e];exact fE)
   (by rw [he y zT];exact ey) (h2.loc fun id aa hv=>hh y zT id aa (by rw [ey];exact hv)) h1
 | eY hT hk bm x y ex bt aH hE az fE ey h2 h1 hb hm=>
  have e:=hh x zT _ _ (by rw [ex];rfl);rw [← hd,← e];exact .eY hT hk bm x y (by rw [he x zT];exact ex) (by rw [e];exact bt) (by rw [e];exact aH) (by rw [e];exact hE) (by rw [e];exact az) (by rw [e];exact fE)
   (by rw [he y zT];exact ey) (h2.loc fun id aa hv=>hh y zT id aa (by rw [ey];exact hv)) h1 hb hm
 | j6 hk hz x ex bt aH az hj =>
  have e:=hh x zh _ _ (by rw [ex];rfl);exact .j6 hk hz x (by rw [he x zh];exact ex) (by rw [e];exact bt) (by rw [e];exact aH) (by rw [e];exact az) (by rw [e];exact hj)
 | fA hk hz x y ex bt aH az ey hf hj =>
  have e:=hh x zh _ _ (by rw [ex];rfl);rw [← e];refine .fA hk hz x y (by rw [he x zh];exact ex) (by rw [e];exact bt) (by rw [e];exact aH) (by rw [e];exact az) (by rw [he y zh];exact ey) ?_ (by rw [e];exact hj);rcases hf with h1|⟨ba,cg,o,n,rfl,hl⟩|⟨ba,cg,o,n,rfl,hl⟩|hw|⟨ba,cg,rfl,hl⟩
  ·exact .inl h1
  ·exact .inr (.inl ⟨ba,cg,o,n,rfl,ak _ _ (hh y zh _ _ (by rw [ey];rfl)) hl⟩)
  ·exact .inr (.inr (.inl ⟨ba,cg,o,n,rfl,ak _ _ (hh y zh _ _ (by rw [ey];rfl)) hl⟩))
  ·exact .inr (.inr (.inr (.inl hw)))
  ·exact .inr (.inr (.inr (.inr ⟨ba,cg,rfl,ak _ _ (hh y zh _ _ (by rw [ey];rfl)) hl⟩)))
 | makeMap T => rw [← hd]; exact .makeMap T
 | ji op x y ex hX ey hY hl bM => exact .ji op x y (by rw [he x zh]; exact ex) hX (by rw [he y zh]; exact ey) hY hl bM
 | er op hT x y ex hb ey bM=>
  rename_i T T2 e f b;have bP : mN s' f b:=by
   cases hb with
   | nil => exact .nil
   | own id aa o n hl hn => exact .own id aa o n (ak _ _ (hh x zh _ _ (by rw [ex]; rfl)) hl) hn
   | list sz es hn => exact .list sz es hn
  exact .er op hT x y (by rw [he x zh];exact ex) bP (by rw [he y zh];exact ey) bM
 | copy hT hk hz x y ex bt aH az ey h2=>
  have e:=hh x zT _ _ (by rw [ex];rfl);rw [← e];exact .copy hT hk hz x y (by rw [he x zT];exact ex) (by rw [e];exact bt) (by rw [e];exact aH) (by rw [e];exact az) (by rw [he y zT];exact ey)
   (h2.loc fun id aa hv=>hh y zT id aa (by rw [ey];exact hv))
 | fw hk dV x ex hn => exact .fw hk dV x (by rw [he x zh]; exact ex) hn
 | eD hk dV x ex hn => exact .eD hk dV x (by rw [he x zh]; exact ex) hn
 | fB hk dV x ex hn => exact .fB hk dV x (by rw [he x zh]; exact ex) hn
 | fu hx hn => exact .fu (by rw [← hx]; exact Wx fun y hy => he y (by simp [Op.operands] at hy ⊢; exact hy)) hn
 | bound hx hn => exact .bound (by rw [← hx]; exact Wx fun y hy => he y (by simp [Op.operands] at hy ⊢; exact hy)) hn
 | look hT hk K x y ok ex ey gC cp hl hn=>
  refine .look hT hk K x y ok ?_ (by rw [he y zh];exact ey) gC cp hl hn;rcases ex with ⟨id,aa,e1,e2,e3⟩|e1
  ·have e:=hh x zh _ _ (by rw [e1];rfl);exact .inl ⟨id,aa,by rw [he x zh];exact e1,⟨ak _ _ e e2.1,by rw [e];exact e2.2⟩,by rw [e];exact e3⟩
  ·exact .inr (by rw [he x zh];exact e1)
 | update hT K x y z ex bt aH ey ez hk cp hn hs =>
  have e:=hh x zh _ _ (by rw [ex];rfl);rw [← e];exact .update hT K x y z (by rw [he x zh];exact ex) (by rw [e];exact bt) (by rw [e];exact aH) (by rw [he y zh];exact ey) (by rw [he z zh];exact ez) (by rw [e];exact hk) cp hn (by rw [e];exact hs)
 | call hs hm hx => exact .call hs hm (hx.loc (fun x hx => he x (by simp [Op.operands, Call.operands] at hx ⊢; exact .inr hx)) (fun x hx => hh x (by simp [Op.operands, Call.operands] at hx ⊢; exact .inr hx)))
 | @fP f x xs ts gs aO res ex hs hx => exact .fP (by rw [he x zT]; exact ex) hs (hx.loc (fun y hy => he y (by simp [Op.operands, Call.operands] at hy ⊢; exact .inr hy)) (fun y hy => hh y (by simp [Op.operands, Call.operands] at hy ⊢; exact .inr hy)))
 | eC hx hc => exact .eC (by rw [← hx]; exact Wx fun y hy => he y (by simp [Op.operands] at hy ⊢; exact hy)) hc
 | jk ho hn hg=>
  have kn:Xe s' d op=Xe s d op:=by
   unfold Xe;rw [br];refine congrArg (d::·) (Zb fun x hx=>?_);rw [he x hx]
  exact .jk ho hn fun ku h1 h2=>hg ku (fun x hx=>(h1 x hx).trans (he x hx)) (fun id hid=>(h2 id (by rw [kn];exact hid)).trans (cZ id hid))
 | ext ho hn hg=>
  have kn:Xe s' d op=Xe s d op:=by
   unfold Xe;rw [br];refine congrArg (d::·) (Zb fun x hx=>?_);rw [he x hx]
  exact .ext ho hn fun ku h1 h2=>hg ku (fun x hx=>(h1 x hx).trans (he x hx)) (fun id hid=>(h2 id (by rw [kn];exact hid)).trans (cZ id hid))
 | ep hs hx => rw [← hd]; exact .ep hs (hx.loc (fun x hx => he x (by simp [Op.operands, Call.operands] at hx ⊢; exact .inr hx)) (fun x hx => hh x (by simp [Op.operands, Call.operands] at hx ⊢; exact .inr hx)))
theorem FR.ext {w0:World} (h:FR N w0 J s a w β) (hg:∀ k,s'.get k=s.get k) (ho:∀ k,s'.ob k=s.ob k):FR N w0 J s' a w β:=by
 refine h.step (C:=fun _=>False) h.size h.defers h.bn (fun b hb=>⟨⟨hb.1,hb.2.1,fun id hl=>hb.2.2 id (by rw [← ho];exact hl)⟩,rfl⟩) (fun k=>.inl ⟨rfl,hg k⟩) (fun id _=>⟨ho id,rfl,fun _ _ _=>rfl⟩) (fun _ h=>h.elim) (fun _ h=>h.elim) (fun _ h=>h.elim) ?_ (fun b _ hn=>⟨rfl,fun id hl=>hn id (by rw [← ho];exact hl)⟩);intro id ba b hl bw;rw [ho] at hl bw;exact h.inj id ba b hl bw
end
structure Rec where
 o:Oper
 f:FV
 wr:List (Nat×yo)
 ft:List Nat
 deriving Inhabited
def ab.je (s:ab) (r:Rec):ab:=s.app r.o.dst r.f r.wr
def sB:FV→Bool→Option Bool
 | .bool v, want => some (v == want)
 | .bN [], _ => some false
 | _, _ => none
theorem CE {f:FV} {want:Bool} (h:sB f want=some b):(∃ v,f=.bool v∧(v == want)=b)∨(f=.bN []∧b=false):=by
 unfold sB at h;split at h
 ·injection h with h;exact .inl ⟨_,rfl,h⟩
 ·injection h with h;exact .inr ⟨rfl,h.symm⟩
 ·cases h
def Zf (ops:Array Oper) (s:ab) (o:Oper) (b:Bool):Prop:=
 match o.guard with
 | none => b=true
 | some (j, want) => ∃ d v, (ops[j]?).bind (·.dst)=some d ∧ s.get d=v ∧ sB v want=some b
inductive iT (c:Ctx) (ops:Array Oper):ab→List Oper→List Rec→ab→Prop where
 | nil (s:ab):iT c ops s [] [] s
 | step {o:Oper} {rest:List Oper} {s s' : ab} {f:FV} {wr:List (Nat×yo)} {tr:List Rec} {d:Nat} (hw:Zf ops s o true) (hd:o.dst=some d∨(o.dst=none∧mO o.op)) (bk:∀ d,o.dst=some d→d<c.N)
   (he:ax c s d o.op f wr) (hs:iT c ops (s.app o.dst f wr) rest tr s'):iT c ops s (o::rest) (⟨o,f,wr,Xe s d o.op⟩::tr) s'
 | skip {o:Oper} {rest:List Oper} {s s' : ab} {tr:List Rec} (hw:Zf ops s o false) (bk:∀ d, o.dst=some d → d<c.N) (hs:iT c ops (s.app o.dst (.bN []) []) rest tr s'):iT c ops s (o :: rest) (⟨o, .bN [], [], []⟩ :: tr) s'
def VQ (c:Ctx) (ops:Array Oper) (s:ab) (r:Rec):Prop:=
 (∀ d,r.o.dst=some d→d<c.N)∧((Zf ops s r.o true∧∃ d,(r.o.dst=some d∨(r.o.dst=none∧mO r.o.op))∧ax c s d r.o.op r.f r.wr∧r.ft=Xe s d r.o.op)∨(Zf ops s r.o false∧r.f=.bN []∧r.wr=[]∧r.ft=[]))
def sig (tr:List Rec) (s0:ab) (S:Nat→Bool):Nat→ab
 | 0 => s0
 | k+1 => if S k then (sig tr s0 S k).je (tr.getD k default) else sig tr s0 S k
theorem xT (r:Rec) (tr:List Rec) (s0:ab) (S:Nat→Bool):∀ k,sig (r::tr) s0 S (k+1)=sig tr (if S 0 then s0.je r else s0) (fun j=>S (j+1)) k
 | 0 => by simp [sig]
 | k+1 => by
  rw [sig,xT r tr s0 S k];simp [sig]
theorem iT.at {s:ab} {l:List Oper} {tr:List Rec} {s' : ab} (h:iT c ops s l tr s'):tr.length=l.length∧s'=sig tr s (fun _=>true) tr.length∧
  ∀ k,k<l.length→(tr.getD k default).o=l.getD k default∧VQ c ops (sig tr s (fun _=>true) k) (tr.getD k default):=by
 induction h with
 | nil s => exact ⟨rfl, rfl, fun k hk => by simp at hk⟩
 | @step o rest s s' f wr tr d hw hd bk he hs ih=>
  obtain ⟨h1,h2,h3⟩:=ih;refine ⟨by simp [h1],?_,fun k hk=>?_⟩
  ·rw [yZ,xT];exact h2
  ·cases k with
   | zero => exact ⟨rfl, bk, .inl ⟨hw, d, hd, he, rfl⟩⟩
   | succ k =>
    rw [xT];exact h3 k (by simpa using hk)
 | @skip o rest s s' tr hw bk hs ih=>
  obtain ⟨h1,h2,h3⟩:=ih;refine ⟨by simp [h1],?_,fun k hk=>?_⟩
  ·rw [yZ,xT];exact h2
  ·cases k with
   | zero => exact ⟨rfl, bk, .inr ⟨hw, rfl, rfl, rfl⟩⟩
   | succ k =>
    rw [xT];exact h3 k (by simpa using hk)
def fJ (r:Rec) (t:Nat):Option FV:=if r.o.dst=some t then some r.f else none
def xq:List (Nat×yo)→Nat→Option yo
 | [], _ => none
 | p :: l, id => match xq l id with|some b => some b|none => if p.1=id then some p.2 else none
theorem oQ:∀ (l:List (Nat×yo)) (s:ab) (id:Nat),(s.wr l).ob id=(xq l id).getD (s.ob id)
 | [], _, _ => rfl
 | p :: l, s, id => by
  show (ab.wr (s.set p.1 p.2) l).ob id=_;rw [oQ l,xq,ab.av];cases xq l id with
  | some b => rfl
  | none => by_cases h:p.1=id <;> simp [h]
theorem xJ:∀ {l:List (Nat×yo)} {id:Nat},(xq l id).isSome→id∈l.map (·.1)
 | p::l,id,h=>by
  unfold xq at h;cases hl:xq l id with
  | some b => exact Wy _ (xJ (by rw [hl]; rfl))
  | none =>
   rw [hl] at h;dsimp only at h;split at h
   ·rename_i e;subst e;simp
   ·simp at h
theorem Yq (s:ab) (r:Rec) (t:Nat):(s.je r).get t=(fJ r t).getD (s.get t):=by
 unfold ab.je ab.app fJ;cases h:r.o.dst with
 | none => simp [ab.mH, ab.ct]
 | some d =>
  simp only [ab.mH,ab.ec,ab.ct,zK];split <;> rfl
theorem XI (s:ab) (r:Rec) (id:Nat):(s.je r).ob id=(xq r.wr id).getD (s.ob id):=by
 unfold ab.je ab.app;cases r.o.dst with
 | none => exact oQ _ _ _
 | some d => exact oQ _ _ _
section
variable {α:Type}
def gF (u:Nat→Option α) (S:Nat→Bool) (x0:α):Nat→α
 | 0 => x0
 | k+1 => if S k then (u k).getD (gF u S x0 k) else gF u S x0 k
theorem yJ (u:Nat→Option α) (S S' : Nat→Bool) (x0:α):∀ n,(∀ k,k<n→(u k).isSome→S k=S' k)→gF u S x0 n=gF u S' x0 n
 | 0, _ => rfl
 | n+1, h => by
  have ih:=yJ u S S' x0 n (fun k hk=>h k za);have hn:=h n za;unfold gF;rw [ih];cases hu:u n with
  | none => simp
  | some v => rw [hn (by rw [hu]; rfl)]
theorem xj (u:Nat→Option α) (S:Nat→Bool) (x0:α) (m:Nat):∀ j,(∀ k,m≤k→k<m+j→S k=true→u k=none)→gF u S x0 (m+j)=gF u S x0 m
 | 0, _ => rfl
 | j+1, h => by
  have ih:=xj u S x0 m j (fun k h1 h2=>h k h1 za);rw [← WE,gF];split
  ·rename_i hS;rw [h (m+j) za za hS,ih];rfl
  ·exact ih
theorem XN (u:Nat→Option α) (S:Nat→Bool) (x0:α) (i:Nat) (hS:S i=false):∀ n,i<n→(∀ k,i<k→k<n→S k=true→(u k).isSome→u i=none)→gF u (fun k=>k == i || S k) x0 n=(u i).getD (gF u S x0 n)
 | 0, h, _ => by omega
 | n + 1,hi,h=>by
  by_cases cA:i=n
  ·subst cA;unfold gF;simp only [beq_self_eq_true,Bool.true_or,if_true,hS,ZF,if_false];congr 1;refine yJ _ _ _ _ _ (fun k hk _=>?_);have:(k == i)=false:=by simp;omega
   rw [this];rfl
  ·have ih:=XN u S x0 i hS n za (fun k h1 h2=>h k h1 za);have hn:(n == i)=false:=by simp;omega
   unfold gF;rw [hn,xw,ih];split
   ·rename_i wo;cases hu:u n with
    | none => rfl
    | some v =>
     have:=h n za za wo (by rw [hu];rfl);rw [this];rfl
   ·rfl
end
theorem yI (tr:List Rec) (s0:ab) (S:Nat→Bool) (t:Nat):∀ k,(sig tr s0 S k).get t=gF (fun k=>fJ (tr.getD k default) t) S (s0.get t) k
 | 0 => rfl
 | k+1 => by
  unfold sig gF;split
  ·rw [Yq,yI tr s0 S t k]
  ·exact yI tr s0 S t k
theorem xM (tr:List Rec) (s0:ab) (S:Nat→Bool) (id:Nat):∀ k,(sig tr s0 S k).ob id=gF (fun k=>xq (tr.getD k default).wr id) S (s0.ob id) k
 | 0 => rfl
 | k+1 => by
  unfold sig gF;split
  ·rw [XI,xM tr s0 S id k]
  ·exact xM tr s0 S id k
def iZ:List Oper→List (List Nat)→List (List Nat)
 | [], acc => acc
 | o :: l, acc => iZ l (acc ++ [o.after.toList.flatMap fun e => if Region.binds .any e then e.on :: acc.getD e.on [] else []])
def yS (ops:Array Oper) (r q:Rec):Bool:=
 r.o.apart ops q.o && (r.wr.all fun p=>!q.ft.contains p.1 && !(q.wr.map (·.1)).contains p.1) && (q.wr.all fun p=>!r.ft.contains p.1)
def rT (ops:Array Oper) (tr:List Rec) (A:List (List Nat)):Bool:=
 (List.range tr.length).all fun i=>(List.range i).all fun j=>(A.getD i []).contains j || yS ops (tr.getD j default) (tr.getD i default)
def rS (l:List Oper):Bool:=(List.range l.length).all fun i=>(l.getD i default).after.toList.all fun e=>!Region.binds .any e || decide (e.on<i)
def Ym (ops:Array Oper) (tr:List Rec):Bool:=rS ops.toList && rT ops tr (iZ ops.toList [])
theorem WT (S:Nat→Bool):∀ (l:List Oper) (acc:List (List Nat)),(∀ i,i<acc.length→S i=true→∀ j∈acc.getD i [],S j=true)→
  (∀ k,k<l.length→S (acc.length+k)=true→∀ e∈(l.getD k default).after.toList,Region.binds .any e=true→S e.on=true)→(∀ k,k<l.length→∀ e∈(l.getD k default).after.toList,Region.binds .any e=true→e.on<acc.length+k)→
  ∀ i,i<acc.length+l.length→S i=true→∀ j∈(iZ l acc).getD i [],S j=true
 | [], acc, ha, _, _, i, hi, hS, j, hj => ha i (by simpa using hi) hS j hj
 | o ::l,acc,ha,hl,hb,i,hi,hS,j,hj=>by
  rw [iZ] at hj;refine WT S l _ (fun i hi hS j hj=>?_) (fun k hk hS e he kD=>?_) (fun k hk e he kD=>?_) i (by simp at hi ⊢;omega) hS j hj
  ·rcases yd i acc.length with h|h
   ·rw [yC,Yw h,← yC] at hj;exact ha i h hS j hj
   ·have ef:i=acc.length:=by simp at hi;omega
    subst ef;rw [yC,Xl (zf _),Nat.sub_self] at hj;simp only [List.getElem?_cons_zero,xF,List.mem_flatMap] at hj;obtain ⟨e,he,hj⟩:=hj;split at hj
    ·rename_i kD;have fE:=hl 0 zd (by simpa using hS) e he kD;rcases zZ.1 hj with h|h
     ·rw [h];exact fE
     ·exact ha e.on (by have:=hb 0 zd e he kD;omega) fE j h
    ·simp at hj
  ·refine hl (k+1) (by simpa using hk) ?_ e he kD;simp only [zH,yZ,Ww] at hS;rwa [show acc.length+(k+1)=acc.length+(0+1)+k by omega]
  ·have:=hb (k+1) (by simpa using hk) e he kD;simp;omega
theorem BM {o:Oper} {s s' : ab} (h:∀ t∈o.looksAt ops,s'.get t=s.get t):∀ x∈o.op.operands.toList,s'.ev x=s.ev x:=by
 intro x hx;cases x with
 | tmp t => exact h t (List.mem_append_left _ (ZI.2 ⟨.tmp t, hx, rfl⟩))
 | const v => rfl
 | global g => rfl
 | func f => rfl
theorem Zf.loc {o:Oper} {s s' : ab} (hw:Zf ops s o b) (h:∀ t∈o.looksAt ops,s'.get t=s.get t):Zf ops s' o b:=by
 unfold Zf at *;cases hg:o.guard with
 | none => rw [hg] at hw; exact hw
 | some p =>
  obtain ⟨j,want⟩:=p;rw [hg] at hw;obtain ⟨d,v,h1,h2,h3⟩:=hw;refine ⟨d,v,h1,?_,h3⟩;rw [h d (List.mem_append_right _ (by simp [hg,h1]))];exact h2
theorem VQ.loc {s s' : ab} {r:Rec} (hr:VQ c ops s r) (h:∀ t∈r.o.looksAt ops,s'.get t=s.get t) (ho:∀ id∈r.ft,s'.ob id=s.ob id):VQ c ops s' r:=by
 obtain ⟨hN,hr⟩:=hr;refine ⟨hN,?_⟩;have eL:=BM h;rcases hr with ⟨hw,d,hd,he,hf⟩|⟨hw,h1,h2,h3⟩
 ·refine .inl ⟨hw.loc h,d,hd,he.loc eL (by rw [← hf];exact ho),?_⟩;rw [hf];unfold Xe;congr 2;have key:∀ l:List Operand,(∀ x∈l,s'.ev x=s.ev x)→(l.filterMap fun x=>(s.ev x).hand.map (·.1))=l.filterMap fun x=>(s'.ev x).hand.map (·.1):=by
   intro l
   induction l with
   | nil => intro _; rfl
   | cons x l ih => intro h; rw [Yv, Yv, h x zd, ih (fun y hy => h y (by simp [hy]))]
  exact key _ eL
 ·exact .inr ⟨hw.loc h,h1,h2,h3⟩
section
variable {c:Ctx} {w0:World} {J:JJ} {ops:Array Oper} {Q:Exit→Act→World→Prop}
theorem Zf.model {s:ab} (hF:FR c.N w0 J s a w β) {o:Oper} (hw:Zf ops s o b):Region.wanted o (yielded ops a.tmps)=b:=by
 unfold Zf at hw;unfold Region.wanted;cases hg:o.guard with
 | none => rw [hg] at hw; rw [hw]
 | some p=>
  obtain ⟨j,want⟩:=p;rw [hg] at hw;obtain ⟨d,v,h1,h2,h3⟩:=hw;rcases CE h3 with ⟨v,rfl,h4⟩|⟨rfl,rfl⟩
  ·have hv:a.tmps.getD d undef=.bool v:=hF.cL (x:=.tmp d) (b:=v) h2;have hy:yielded ops a.tmps j=some v:=by
    unfold yielded;rw [h1];simp only [Yb];rw [YR] at hv;cases ha:a.tmps[d]? with
    | none => rw [ha] at hv; simp [undef] at hv
    | some u => rw [ha] at hv; simp only [xF] at hv; rw [hv]
   simp only [hy];rw [← h4];cases v <;> cases want <;> rfl
  ·have hv:a.tmps.getD d undef=.tuple #[]:=by
    have:=hF.ev (.tmp d);rw [show s.ev (.tmp d)=.bN [] from h2] at this;have:=VR.rd this rfl;have e:a.eval (.tmp d)=a.tmps.getD d undef:=rfl;rw [e] at this;generalize a.tmps.getD d undef=v at this;cases this with
    | bN us fs hl hr=>
     have:us=[]:=by cases us with
      | nil => rfl
      | cons u us => simp at hl
     subst this;rfl
   have hy:yielded ops a.tmps j=none:=by
    unfold yielded;rw [h1];simp only [Yb];rw [YR] at hv;cases ha:a.tmps[d]? with
    | none => rfl
    | some u => rw [ha] at hv; simp only [xF] at hv; rw [hv]
   simp only [hy];cases want <;> rfl
theorem VQ.wpOp {s:ab} (hF:FR c.N w0 J s a w β) {r:Rec} (hi:ops[i]? = some r.o) (hr:VQ c ops s r) (hK:∀ a' w' aS,FR c.N w0 J (s.je r) a' w' aS→K a' w') :
  wpOp c.P ops Q i K a w:=by
 obtain ⟨hN,hr⟩:=hr;unfold Go.wpOp;simp only [hi];rcases hr with ⟨hw,d,hd,he,hf⟩|⟨hw,h1,h2,h3⟩
 ·rw [if_pos (hw.model hF)];exact .inl (he.sound hF r.o rfl hd hN hK)
 ·rw [if_neg (by rw [hw.model hF];decide)];refine hK _ _ β ?_;unfold ab.je ab.app;rw [h1,h2];cases hd:r.o.dst with
  | none => exact hF
  | some d => exact hF.put (hN d hd) (VR.bu (Rd.bN [] [] rfl zd) rfl) (fun id aa e => by cases e)
def gZ (S:Nat→Bool):Nat→Nat
 | 0 => 0
 | k+1 => gZ S k+if S k then 0 else 1
theorem UU {S:Nat→Bool} {i:Nat} (hS:S i=false):∀ n,i<n→gZ (fun k=>k == i || S k) n+1=gZ S n
 | 0, h => by omega
 | n + 1,h=>by
  unfold gZ;by_cases cA:i=n
  ·subst cA;have key:∀ m,m≤i→gZ (fun k=>k == i || S k) m=gZ S m:=by
    intro m
    induction m with
    | zero => intro _; rfl
    | succ m ih =>
     intro hm;unfold gZ;have:(m == i)=false:=by simp;omega
     rw [ih za,this];rfl
   rw [key i (zf _),hS];simp
  ·have ih:=UU hS n za;have:(n == i)=false:=by simp;omega
   rw [this,xw];omega
theorem WY {S:Nat→Bool}:∀ n,gZ S n=0→∀ k,k<n→S k=true
 | 0, _, k, hk => by omega
 | n+1,h,k,hk=>by
  unfold gZ at h;by_cases lh:k=n
  ·subst lh;cases hS:S k with
   | true => rfl
   | false => rw [hS] at h; simp at h
  ·exact WY n za k za
theorem CR {s0 s' : ab} {tr:List Rec} (hx:iT c ops s0 ops.toList tr s') (cW:Ym ops tr=true) (hQ:∀ a w β,FR c.N w0 J s' a w β→Q .normal a w) :
  ∀ (fuel:Nat) (listed:Array Bool) (a:Act) (w:World) (β:Nat→Option Nat),listed.size=ops.size→(∀ i,i<ops.size→listed.getD i false=true→∀ e∈(ops.toList.getD i default).after.toList,Region.binds .any e=true→listed.getD e.on false=true)→
   gZ (fun k=>listed.getD k false) ops.size≤fuel→FR c.N w0 J (sig tr s0 (fun k=>listed.getD k false) ops.size) a w β→wpAny c.P .any ops Q fuel listed a w:=by
 obtain ⟨jI,pg,gi⟩:=hx.at;have hlen:tr.length=ops.size:=by rw [jI];simp
 rw [UR] at gi;unfold Ym at cW;rw [zA] at cW;obtain ⟨et,dg⟩:=cW;have dc : ∀ i,i<ops.size→∀ e∈(ops.toList.getD i default).after.toList,Region.binds .any e=true→e.on<i:=by
  intro i hi e he hb;unfold rS at et;rw [zI] at et;have:=et i (by simpa using hi);rw [zI] at this;have:=this e he;simpa [hb] using this
 have dA : ∀ i,i<ops.size→∀ j,j<i→j∈(iZ ops.toList []).getD i []∨yS ops (tr.getD j default) (tr.getD i default)=true:=by
  intro i hi j hj;unfold rT at dg;rw [zI] at dg;have:=dg i (by simp [hlen];exact hi);rw [zI] at this;have:=this j (by simpa using hj);rw [ZG] at this;exact this.imp (fun h=>by simpa using h) id
 have gO:∀ (listed:Array Bool) (i:Nat),i<listed.size→listed.getD i true=listed.getD i false:=fun listed i hi=>by simp [hi]
 have jz:∀ (listed:Array Bool) (a:Act) (w:World) (β:Nat→Option Nat),(∀ k,k<ops.size→listed.getD k false=true)→FR c.N w0 J (sig tr s0 (fun k=>listed.getD k false) ops.size) a w β→Q .normal a w:=by
  intro listed a w β bG hF;refine hQ a w β (hF.ext (fun k=>?_) (fun k=>?_))
  ·rw [pg,hlen,yI,yI];exact yJ _ _ _ _ _ (fun k hk _=>(bG k hk).symm)
  ·rw [pg,hlen,xM,xM];exact yJ _ _ _ _ _ (fun k hk _=>(bG k hk).symm)
 have eT:∀ (listed:Array Bool),listed.size=ops.size→Region.ready .any ops listed=[]→∀ k,k<ops.size→listed.getD k false=true:=by
  intro listed az hr k
  induction k using Nat.strongRecOn with
  | _ k ih=>
   intro hk;cases hl:listed.getD k false with
   | true => rfl
   | false=>
    exfalso;have:k∈Region.ready .any ops listed:=by
     rw [mem_ready];refine ⟨by rw [gO listed k za];exact hl,ops.toList.getD k default,by simp [hk],fun e he hb=>?_⟩;have aD:=dc k hk e (by simpa using he) hb;exact ih e.on aD za
    rw [hr] at this;simp at this
 intro fuel
 induction fuel with
 | zero=>
  intro listed a w β az cq l6 hF;have bG:=WY (S:=fun k=>listed.getD k false) ops.size za;refine ⟨?_,jz listed a w β bG hF⟩;cases hr:Region.ready .any ops listed with
  | nil => rfl
  | cons i l =>
   exfalso;have:i∈Region.ready .any ops listed:=by rw [hr];simp
   rw [mem_ready] at this;obtain ⟨h0,o,ho,_⟩:=this;have hi:i<ops.size:=(yy.1 ho).1;rw [gO listed i za,bG i hi] at h0;cases h0
 | succ fuel ih=>
  intro listed a w β az cq l6 hF;refine ⟨fun hr=>jz listed a w β (eT listed az hr) hF,fun i hi=>?_⟩;rw [mem_ready] at hi;obtain ⟨h0,o,ho,bG⟩:=hi;have dM:i<ops.size:=(yy.1 ho).1;rw [gO listed i za] at h0;have mj:ops.toList.getD i default=o:=by simp [yC,ho]
  obtain ⟨gm,q9⟩:=gi i dM;rw [mj] at gm;have cG : ∀ k,k<ops.size→(k == i || listed.getD k false)=true→∀ e∈(ops.toList.getD k default).after.toList,Region.binds .any e=true→(e.on == i || listed.getD e.on false)=true:=by
   intro k hk hS e he hb;by_cases iG:k=i
   ·subst iG;rw [mj] at he;rw [bG e (by simpa using he) hb,Ws]
   ·have:(k == i)=false:=by simpa using iG
    rw [this,xw] at hS;rw [cq k hk hS e he hb,Ws]
  have lV:∀ j∈(iZ ops.toList []).getD i [],(j == i || listed.getD j false)=true:=
   WT (fun k=>k == i || listed.getD k false) ops.toList [] (fun i hi=>by simp at hi) (fun k hk hS e he hb=>cG k (by simpa using hk) (by simpa using hS) e he hb) (fun k hk e he hb=>by simpa using dc k (by simpa using hk) e he hb) i (by simpa using dM) zd
  have js:∀ k,listed.getD k false=true→k<ops.size→∀ j∈(iZ ops.toList []).getD k [],listed.getD j false=true:=fun k hS hk=>
   WT (fun k=>listed.getD k false) ops.toList [] (fun i hi=>by simp at hi) (fun k hk hS e he hb=>cq k (by simpa using hk) (by simpa using hS) e he hb) (fun k hk e he hb=>by simpa using dc k (by simpa using hk) e he hb) k (by simpa using hk) hS
  have lW:∀ k,k<ops.size→∀ j∈(iZ ops.toList []).getD k [],j<k∨j=k→True:=fun _ _ _ _ _=>trivial;have dw:∀ k,k<i→yS ops (tr.getD k default) (tr.getD i default)=true∨listed.getD k false=true:=by
   intro k hk;rcases dA i dM k hk with h|h
   ·have:=lV k h;have aZ:(k == i)=false:=by simp;omega
    rw [aZ,xw] at this;exact .inr this
   ·exact .inl h
  have bR:∀ k,i<k→k<ops.size→listed.getD k false=true→yS ops (tr.getD i default) (tr.getD k default)=true:=by
   intro k hk ew hS;rcases dA k ew i hk with h|h
   ·rw [js k hS ew i h] at h0;cases h0
   ·exact h
  have iA:∀ {r q:Rec},yS ops r q=true→(∀ d,r.o.dst=some d→d∉q.o.looksAt ops)∧(∀ d,r.o.dst=some d→q.o.dst≠some d)∧(∀ d,q.o.dst=some d→d∉r.o.looksAt ops)∧
    (∀ id,(xq r.wr id).isSome→id∉q.ft∧xq q.wr id=none)∧(∀ id,(xq q.wr id).isSome→id∉r.ft):=by
   intro r q h;unfold yS at h;rw [zA,zA] at h;obtain ⟨⟨h1,h2⟩,h3⟩:=h;obtain ⟨k1,k2,k3⟩:=Oper.apart_spec h1;rw [zI] at h2 h3;refine ⟨k1,k2,k3,fun id hid=>?_,fun id hid=>?_⟩
   ·obtain ⟨p,hp,rfl⟩:=zL.1 (xJ hid);have:=h2 p hp;rw [zA] at this;refine ⟨by simpa using this.1,?_⟩;cases hl:xq q.wr p.1 with
    | none => rfl
    | some b =>
     have hm:=xJ (l:=q.wr) (id:=p.1) (by rw [hl];rfl);have h4:=this.2;simp only [Wr,UM,decide_eq_false_iff_not] at h4;exact absurd hm h4
   ·obtain ⟨p,hp,rfl⟩:=zL.1 (xJ hid);have:=h3 p hp;simpa using this
  have c6:∀ t∈(tr.getD i default).o.looksAt ops,(sig tr s0 (fun k=>listed.getD k false) ops.size).get t=(sig tr s0 (fun _=>true) i).get t:=by
   intro t ht;rw [yI,yI];obtain ⟨m,hm⟩:∃ m,ops.size=i+m:=⟨ops.size - i,by omega⟩
   rw [hm,xj _ _ _ i m]
   ·refine yJ _ _ _ _ _ (fun k hk hu=>?_);rcases dw k hk with h|h
    ·exfalso;unfold fJ at hu;split at hu
     ·rename_i hd;exact (iA h).1 t hd ht
     ·simp at hu
    ·exact h
   ·intro k df ew hS;rcases WG df with e|aD
    ·subst e;rw [h0] at hS;cases hS
    ·unfold fJ;rw [if_neg];intro hd;exact (iA (bR k aD za hS)).2.2.1 t hd ht
  have iI:∀ id∈(tr.getD i default).ft,(sig tr s0 (fun k=>listed.getD k false) ops.size).ob id=(sig tr s0 (fun _=>true) i).ob id:=by
   intro id hid;rw [xM,xM];obtain ⟨m,hm⟩:∃ m,ops.size=i+m:=⟨ops.size - i,by omega⟩
   rw [hm,xj _ _ _ i m]
   ·refine yJ _ _ _ _ _ (fun k hk hu=>?_);rcases dw k hk with h|h
    ·exact absurd hid ((iA h).2.2.2.1 id hu).1
    ·exact h
   ·intro k df ew hS;rcases WG df with e|aD
    ·subst e;rw [h0] at hS;cases hS
    ·cases hl:xq (tr.getD k default).wr id with
     | none => rfl
     | some b => exact absurd hid ((iA (bR k aD za hS)).2.2.2.2 id (by rw [hl]; rfl))
  have oq:=q9.loc c6 iI;refine oq.wpOp hF (by rw [gm];exact ho) (fun a' w' aS iz=>?_);have gS:∀ k,(listed.setIfInBounds i true).getD k false=(k == i || listed.getD k false):=by
   intro k;by_cases iG:k=i
   ·subst iG;have:k<listed.size:=by omega
    simp [this]
   ·have aZ:(k == i)=false:=by simpa using iG
    rw [aZ,xw];simp [u4 (fun e=>iG e.symm)]
  have jC:(fun k=>(listed.setIfInBounds i true).getD k false)=(fun k=>k == i || listed.getD k false):=funext gS;refine ih _ a' w' aS (by simp [az]) (fun k hk hS e he hb=>?_) ?_ ?_
  ·rw [gS] at hS ⊢;exact cG k hk hS e he hb
  ·rw [jC];have:=UU (S:=fun k=>listed.getD k false) h0 ops.size dM;omega
  ·rw [jC];refine iz.ext (fun t=>?_) (fun id=>?_)
   ·rw [Yq,yI,yI];refine XN _ _ _ i h0 ops.size dM (fun k df ew hS hu=>?_);cases jY:fJ (tr.getD i default) t with
    | none => rfl
    | some v=>
     exfalso;unfold fJ at hu jY;split at jY
     ·rename_i iE;split at hu
      ·rename_i jw;exact (iA (bR k df ew hS)).2.1 t iE jw
      ·simp at hu
     ·cases jY
   ·rw [XI,xM,xM];refine XN _ _ _ i h0 ops.size dM (fun k df ew hS hu=>?_);cases jY:xq (tr.getD i default).wr id with
    | none => rfl
    | some v =>
     exfalso;have:=((iA (bR k df ew hS)).2.2.2.1 id (by rw [jY];rfl)).2;rw [this] at hu;cases hu
theorem BA {s0 s' : ab} {tr:List Rec} (hx:iT c ops s0 ops.toList tr s') (cW:Ym ops tr=true) (hQ:∀ a w β,FR c.N w0 J s' a w β→Q .normal a w) (hF:FR c.N w0 J s0 a w β) :
  wpAny c.P .any ops Q ops.size (Array.replicate ops.size false) a { w with drawn:=w.drawn+1 }:=by
 refine CR hx cW hQ ops.size _ a _ β zd (fun i hi hS=>?_) ?_ ?_
 ·have:(Array.replicate ops.size false).getD i false=false:=by simp [hi]
  rw [this] at hS;cases hS
 ·have key:∀ n,gZ (fun k=>(Array.replicate ops.size false).getD k false) n≤n:=by
   intro n
   induction n with
   | zero => exact zf _
   | succ n ih => unfold gZ; split <;> omega
  exact key _
 ·have hD:FR c.N w0 J s0 a { w with drawn:=w.drawn+1 } β:=hF.grow ⟨rfl,rfl,rfl,zf _,fun _ _=>rfl⟩;refine hD.ext (fun t=>?_) (fun id=>?_)
  ·have key:=xj (fun k=>fJ (tr.getD k default) t) (fun k=>(Array.replicate ops.size false).getD k false) (s0.get t) 0 ops.size (fun k _ hk hS=>by
    have:(Array.replicate ops.size false).getD k false=false:=by
     rw [YR];cases h:(Array.replicate ops.size false)[k]? with
     | none => rfl
     | some b => rw [rV] at h; split at h <;> simp_all
    rw [this] at hS;cases hS)
   rw [zM] at key;rw [yI,key];rfl
  ·have key:=xj (fun k=>xq (tr.getD k default).wr id) (fun k=>(Array.replicate ops.size false).getD k false) (s0.ob id) 0 ops.size (fun k _ hk hS=>by
    have:(Array.replicate ops.size false).getD k false=false:=by
     rw [YR];cases h:(Array.replicate ops.size false)[k]? with
     | none => rfl
     | some b => rw [rV] at h; split at h <;> simp_all
    rw [this] at hS;cases hS)
   rw [zM] at key;rw [xM,key];rfl
end
def iw (K:Act→World→Prop):Exit→Act→World→Prop
 | .normal, a, w => K a w
 | _, _, _ => False
def kj (P:Program):Code→(Exit→Act→World→Prop)→Act→World→Prop
 | .skip, Q, a, w => Q .normal a w
 | .label _, Q, a, w => Q .normal a w
 | .exit id, Q, a, w => Q (.exit id) a w
 | .ret, Q, a, w => Q .ret a w
 | .seq x y, Q, a, w => kj P x (Exit.then (kj P y Q) Q) a w
 | .block id x, Q, a, w => kj P x (Exit.inBlock id Q) a w
 | .cond c x y, Q, a, w => ∃ t, a.eval c=.bool t ∧ (t=true → kj P x Q a w) ∧ (t=false → kj P y Q a w)
 | .loop x, Q, a, w => ∃ (I:Nat → Act → World → Prop) (n:Nat), I n a w ∧ ∀ n a w, I n a w → kj P x (Exit.then (fun a w => ∃ m, m<n ∧ I m a w) Q) a w
 | .region _ ops false, Q, a, w => wpList P ops (iw (Q .normal)) ops.toList a w
 | .region _ ops true, Q, a, w => wpAny P .any ops (iw (Q .normal)) ops.size (Array.replicate ops.size false) a { w with drawn := w.drawn+1 }
 | _, _, _, _ => False
section
variable {P:Program}
theorem Vs (K:Act→World→Prop):¬ LetsOut (iw K):=fun ⟨_,_,h⟩=>h
theorem Vt {o:Oper} {K' G G' : Act→World→Prop} (h:∀ a w,K a w→K' a w) (hg:∀ a w,G a w→G' a w) (hh:o.wp P a w K (iw G)):o.wp P a w K' (iw G'):=by
 unfold Oper.wp at *;generalize (execOp a.eval o).run P w=r at *;cases r with
 | ok n w'=>
  cases n <;> simp only [Oper.upon] at hh ⊢ <;>
   first
    | exact h _ _ hh
    | exact Calls.mono hh (fun e Fg he => by cases e <;> first|exact h _ _ he|exact he.elim|(obtain ⟨_, _, q⟩ := he; exact q.elim))
    | exact Rows.mono hh (fun _ _ he => h _ _ he)
 | halt x w' => cases x <;> simp only [Oper.upon] at hh ⊢ <;> exact hh.elim
theorem Yr {ops:Array Oper} {K K' : Act→World→Prop} (h:∀ a w,K a w→K' a w):∀ {l:List Oper} {a:Act} {w:World},wpList P ops (iw K) l a w→wpList P ops (iw K') l a w
 | [], a, w, hh => h a w hh
 | o::l,a,w,hh=>by
  unfold wpList at hh ⊢;split
  ·rename_i hw;rw [if_pos hw] at hh;rcases hh with hh|hh
   ·exact .inl (Vt (fun a w q=>Yr h q) h hh)
   ·exact absurd hh.2 (Vs _)
  ·rename_i hw;rw [if_neg hw] at hh;exact Yr h hh
theorem C7 {K' G G' : Act→World→Prop} (h:∀ a w,K a w→K' a w) (hg:∀ a w,G a w→G' a w) (hh:wpOp P ops (iw G) i K a w):wpOp P ops (iw G') i K' a w:=by
 unfold wpOp at *;split
 ·rename_i ho;rw [ho] at hh;exact h _ _ hh
 ·rename_i o ho;rw [ho] at hh;dsimp only at hh;split
  ·rename_i hw;rw [if_pos hw] at hh;rcases hh with hh|hh
   ·exact .inl (Vt h hg hh)
   ·exact absurd hh.2 (Vs _)
  ·rename_i hw;rw [if_neg hw] at hh;exact h _ _ hh
theorem VI {ops:Array Oper} {K K' : Act→World→Prop} (h:∀ a w,K a w→K' a w):∀ {fuel:Nat} {listed:Array Bool} {a:Act} {w:World},wpAny P .any ops (iw K) fuel listed a w→wpAny P .any ops (iw K') fuel listed a w
 | 0, _, a, w, hh => ⟨hh.1, h a w hh.2⟩
 | fuel+1, listed, a, w, hh => ⟨fun e => h a w (hh.1 e), fun i hi => C7 (fun a w q => VI h q) h (hh.2 i hi)⟩
theorem xd:∀ {c:Code} {Q Q' : Exit→Act→World→Prop} {a:Act} {w:World},kj P c Q a w→(∀ e a w,Q e a w→Q' e a w)→kj P c Q' a w
 | .skip, _, _, _, _, h, hq => hq _ _ _ h
 | .label _, _, _, _, _, h, hq => hq _ _ _ h
 | .exit _, _, _, _, _, h, hq => hq _ _ _ h
 | .ret, _, _, _, _, h, hq => hq _ _ _ h
 | .seq x y,Q,Q',a,w,h,hq=>xd (c:=x) h fun e a w q=>by
   cases e <;> first|exact xd (c:=y) q hq|exact hq _ _ _ q
 | .block id x,Q,Q',a,w,h,hq=>xd (c:=x) h fun e a w q=>by
   cases e with
   | exit ba =>
    simp only [Exit.inBlock] at q ⊢;split
    ·rename_i e;rw [if_pos e] at q;exact hq _ _ _ q
    ·rename_i e;rw [if_neg e] at q;exact hq _ _ _ q
   | _ => exact hq _ _ _ q
 | .cond c x y, Q, Q', a, w, ⟨t, h, h1, h2⟩, hq => ⟨t, h, fun e => xd (c := x) (h1 e) hq, fun e => xd (c := y) (h2 e) hq⟩
 | .loop x,Q,Q',a,w,⟨I,n,h0,h⟩,hq=>⟨I,n,h0,fun n a w hi=>xd (c:=x) (h n a w hi) fun e a w q=>by
   cases e <;> first|exact q|exact hq _ _ _ q⟩
 | .region _ ops false, _, _, _, _, h, hq => Yr (fun a w q => hq _ _ _ q) h
 | .region _ ops true, _, _, _, _, h, hq => VI (fun a w q => hq _ _ _ q) h
theorem Vb (hm:P.follows .mixedOrders=true):∀ {c:Code} {Q:Exit→Act→World→Prop} {a:Act} {w:World},kj P c Q a w→c.wp P Q a w
 | .skip, _, _, _, h => wp_skip h
 | .label _, _, _, _, h => wp_label h
 | .exit _, _, _, _, h => wp_exit h
 | .ret, _, _, _, h => wp_ret h
 | .seq x y, Q, a, w, h => wp_seq (Vb hm (xd (c := x) h fun e a w q => by cases e <;> first|exact Vb hm (c := y) q|exact q))
 | .block id x, Q, a, w, h => wp_block (Vb hm (c := x) h)
 | .cond c x y, Q, a, w, ⟨t, h, h1, h2⟩ => by
  cases t with
  | true => exact wp_cond_true h (Vb hm (c := x) (h1 rfl))
  | false => exact wp_cond_false h (Vb hm (c := y) (h2 rfl))
 | .loop x, Q, a, w, ⟨I, n, h0, h⟩ => wp_loop_ghost I n h0 fun n a w hi => Vb hm (c := x) (h n a w hi)
 | .region _ ops false, Q, _, _, h => wp_mono (wp_region_list h) fun e a w q => by cases e <;> first|exact q|exact q.elim
 | .region _ ops true, Q, _, _, h => wp_mono (wp_region_any hm h) fun e a w q => by cases e <;> first|exact q|exact q.elim
/-! in a round -/
section
variable {l n:Nat}
end
/-! the slots that the code does not write -/
end
end
end Go.Proofs.YtedkppfghdipdaaGreatDoor
