/-
  Some texts as one: FmMap, FmRows, FmU.
-/
import Derived.Test.YtlnehfplfoikaaaZA
import Derived.ArgAppend
import Derived.Laws.CopyRow
import Derived.Laws.IdiomCopy
import Derived.Laws.StructEq
namespace Go.Proofs.Ytlnehfplfoikaaa
set_option linter.unusedVariables false
set_option maxHeartbeats 16000000
section
open Go.RowKit Go.Maps Go.MapKept Go.ChangeMaps
theorem Rd.simple_val {w:World} {I:Nat→Prop} {v:Value} {f:FV} (h:Rd w I v f) (hf:f.simple=true):v=f.val:=by
 have one:∀ {u:Value} {g:FV},Rd w I u g→g.simple1=true→u=g.val1:=by
  intro u g hu hg;cases hu <;> first|rfl|(simp [FV.simple1] at hg)
 cases h with
 | agg us fs hl hr=>
  show Value.agg us.toArray=Value.agg (fs.map FV.val1).toArray;congr 2;refine List.ext_getElem? fun j=>?_;rw [List.getElem?_map];rcases Nat.lt_or_ge j us.length with hj|hj
  ·have hj2:j<fs.length:=by rw [← hl];exact hj
   have e1:us[j]? = some us[j]:=by simp [hj]
   have e2:fs[j]? = some fs[j]:=by simp [hj2]
   rw [e1,e2,Option.map_some];congr 1;exact one (hr j _ _ e1 e2) (List.all_eq_true.1 hf _ (List.getElem_mem hj2))
  ·have hj2:fs.length≤j:=by rw [← hl];exact hj
   simp [hj,hj2]
 | int k n => rfl
 | bool b => rfl
 | str s => rfl
 | _ => simp [FV.simple, FV.simple1] at hf
theorem WF {f g:FV} (hf:f.simple1=true) (hg:g.simple1=true) (h:f.val1=g.val1):f=g:=by
 cases f <;> simp [FV.simple1] at hf <;> cases g <;> simp [FV.simple1] at hg <;> simp [FV.val1] at h <;> first|(obtain ⟨rfl,rfl⟩:=h;rfl)|(subst h;rfl)
theorem Wn:∀ {fs gs:List FV},fs.all FV.simple1=true→gs.all FV.simple1=true→fs.map FV.val1=gs.map FV.val1→fs=gs
 | [], [], _, _, _ => rfl
 | [], _ :: _, _, _, h => by simp at h
 | _ :: _, [], _, _, h => by simp at h
 | f :: fs, g :: gs, hf, hg, h => by
  simp only [List.all_cons,Bool.and_eq_true] at hf hg;simp only [List.map_cons,List.cons.injEq] at h;rw [WF hf.1 hg.1 h.1,Wn hf.2 hg.2 h.2]
theorem ziB {f g:FV} (hf:f.simple=true) (hg:g.simple=true) (h:f.val=g.val):f=g:=by
 cases f with
 | agg cs=>
  cases g with
  | agg ds =>
   have:(cs.map FV.val1).toArray=(ds.map FV.val1).toArray:=by simpa [FV.val] using h
   rw [Wn hf hg (by simpa using congrArg Array.toList this)]
  | _ => first|(simp [FV.simple, FV.simple1] at hg; done)|(simp [FV.val, FV.val1] at h)
 | int k n =>
  cases g <;> first|(simp [FV.simple,FV.simple1] at hg;done)|(simp [FV.val,FV.val1] at h;done)|exact WF hf hg h
 | bool b =>
  cases g <;> first|(simp [FV.simple,FV.simple1] at hg;done)|(simp [FV.val,FV.val1] at h;done)|exact WF hf hg h
 | str b =>
  cases g <;> first|(simp [FV.simple,FV.simple1] at hg;done)|(simp [FV.val,FV.val1] at h;done)|exact WF hf hg h
 | _ => simp [FV.simple, FV.simple1] at hf
def Ui (P:Program) (k:TypeId) (kf:FV):Prop:=kf.simple=true∧∃ l,keyOf P k kf.val=some l
def TS.zfv (ts:TS):FV:=
 match ts.k.agg? with
 | some true => .agg ts.zero
 | _ => ts.zero.headD .undef
def zd7 (es:List (List FV)) (kf z:FV) (vf:FV) (b:Bool):Prop:=(b=true∧[kf,vf]∈es)∨(b=false∧vf=z∧∀ row∈es,row.head?≠some kf)
def zje (es:List (List FV)) (kf vf:FV) (es' : List (List FV)):Prop:=
 (∃ (j:Nat) (v0:FV),es[j]? = some [kf,v0]∧es'=es.set j [kf,vf])∨((∀ row∈es,row.head?≠some kf)∧es'=es++[[kf,vf]])
structure Mp (w:World) (I:Nat→Prop) (b clock:Nat) (ents:Array MapEntry) (es:List (List FV)):Prop where
 hb:w.heap[b]? = some (.map ents clock)
 st:Stamped ents clock
 sz:ents.size=es.length
 ks:∀ (j:Nat) e row,ents[j]? = some e→es[j]? = some row→∃ kf vf,row=[kf,vf]∧kf.simple=true∧e.key=kf.val
 vs:∀ (j:Nat) e row f,ents[j]? = some e→es[j]? = some row→row[1]? = some f→Rd w I e.val f
section
variable {w:World} {I:Nat→Prop} {b clock:Nat} {ents:Array MapEntry} {es:List (List FV)} {P:Program}
theorem Mp.row (h:Mp w I b clock ents es) {j:Nat} {e:MapEntry} (he:ents[j]? = some e):∃ kf vf,es[j]? = some [kf,vf]∧kf.simple=true∧e.key=kf.val∧Rd w I e.val vf:=by
 have hj:j<es.length:=by rw [← h.sz];exact (Array.getElem?_eq_some_iff.1 he).1
 have hr:es[j]? = some es[j]:=by simp [hj]
 obtain ⟨kf,vf,e1,e2,e3⟩:=h.ks j e _ he hr;refine ⟨kf,vf,by rw [hr,e1],e2,e3,h.vs j e _ vf he hr (by rw [e1];rfl)⟩
theorem Mp.ent (h:Mp w I b clock ents es) {j:Nat} {row:List FV} (hr:es[j]? = some row):∃ e,ents[j]? = some e:=by
 have hj:j<ents.size:=by rw [h.sz];exact (List.getElem?_eq_some_iff.1 hr).1
 exact ⟨ents[j],by simp [hj]⟩
theorem Mp.keys (h:Mp w I b clock ents es) {k:TypeId} (hk:∀ row∈es,∀ kf,row.head? = some kf→Ui P k kf):∀ e∈ents.toList,∃ l,keyOf P k e.key=some l:=fun e he=>by
 obtain ⟨j,hj⟩:=List.getElem?_of_mem he;have hj' : ents[j]? = some e:=by simpa using hj
 obtain ⟨kf,vf,e1,_,e3,_⟩:=h.row hj';obtain ⟨_,l,hl⟩:=hk _ (List.mem_of_getElem? e1) kf rfl;exact ⟨l,by rw [e3];exact hl⟩
theorem Mp.find (h:Mp w I b clock ents es) {k:TypeId} (K:Keyed P k) (hk:∀ row∈es,∀ kf,row.head? = some kf→Ui P k kf) {kf:FV} (hkf:Ui P k kf) :
  ((Instr.findKey k kf.val ents.toList).run P w=.ok none w∧(∀ e∈ents.toList,e.key≠kf.val)∧∀ row∈es,row.head?≠some kf)∨
  ∃ (j:Nat) (e:MapEntry) (vf:FV),(Instr.findKey k kf.val ents.toList).run P w=.ok (some (j,e.val)) w∧ents[j]? = some e∧e.key=kf.val∧es[j]? = some [kf,vf]∧Rd w I e.val vf∧∀ i v,es[i]? = some [kf,v]→i=j:=by
 obtain ⟨hs,l,hl⟩:=hkf;rcases K.find w hl ents.toList (h.keys hk) with ⟨h1,h2⟩|⟨j,e0,h1,h2,h3⟩
 ·refine .inl ⟨h1,h2,fun row hr hh=>?_⟩;obtain ⟨j,hj⟩:=List.getElem?_of_mem hr;obtain ⟨e,he⟩:=h.ent hj;obtain ⟨kf',vf,e1,_,e3,_⟩:=h.row he;rw [hj] at e1;injection e1 with e1
  subst e1;injection hh with hh
  subst hh;exact h2 e (List.mem_of_getElem? (by simpa using he)) e3
 ·have h2' : ents[j]? = some e0:=by simpa using h2
  obtain ⟨kf',vf,e1,e2,e3,e4⟩:=h.row h2';have:kf'=kf:=ziB e2 hs (by rw [← e3,h3]);subst this;refine .inr ⟨j,e0,vf,h1,h2',h3,e1,e4,fun i v hi=>?_⟩;obtain ⟨e,he⟩:=h.ent hi;obtain ⟨kf'',vf',q1,_,q3,_⟩:=h.row he;rw [hi] at q1;injection q1 with q1
  injection q1 with q1 _
  subst q1;have hd:=((stamped_iff ents clock).1 h.st).2.2;have hil:i<ents.toList.length:=by have:=(Array.getElem?_eq_some_iff.1 he).1;simpa using this
  have hjl:j<ents.toList.length:=by have:=(Array.getElem?_eq_some_iff.1 h2').1;simpa using this
  have ei:ents.toList[i].key=kf'.val:=by have:=(Array.getElem?_eq_some_iff.1 he).2;simp only [Array.getElem_toList];rw [this,q3]
  have ej:ents.toList[j].key=kf'.val:=by have:=(Array.getElem?_eq_some_iff.1 h2').2;simp only [Array.getElem_toList];rw [this,h3]
  rcases Nat.lt_trichotomy i j with hlt|heq|hgt
  ·exact absurd (ei.trans ej.symm) (List.pairwise_iff_getElem.1 hd i j hil hjl hlt)
  ·exact heq
  ·exact absurd (ej.trans ei.symm) (List.pairwise_iff_getElem.1 hd j i hjl hil hgt)
end
section
variable {c:Ctx} {w0 w:World} {J:JJ} {s:FSt} {a:Act} {β:Nat→Option Nat} {dst:Option Nat} {ty:TypeId} {pos:String} {after:Array Edge} {g:Option (Nat×Bool)}
theorem zgH {c:Ctx} {T:Nat} {bb:Bool} (hk:(c.ty T).k.agg? = some bb) (w:World) (I:Nat→Prop):∃ z,(zeroValue T).run c.P w=.ok z w∧Rd w I z (c.ty T).zfv:=by
 obtain ⟨d,i,z,h⟩:=c.get rfl (zfy hk);refine ⟨z,by simp [zeroValue,typeInfo,h.info,h.zo],?_⟩;have hz:=RdL.zeros (w:=w) (I:=I) h.zr;have hzk:=h.zk;unfold ziD at hzk;unfold TS.zfv;rw [hk] at hzk ⊢;cases bb with
 | true =>
  dsimp only at hzk ⊢;cases z <;> simp at hzk
  rename_i cs;have:=Rd.agg (w:=w) (I:=I) cs.toList (c.ty T).zero hz.1 hz.2;simpa using this
 | false=>
  dsimp only at hzk ⊢;have hc:z.cells.toList=[z]:=by
   cases z <;> first|rfl|(simp at hzk)
  rw [hc] at hz;cases hzz:(c.ty T).zero with
  | nil => rw [hzz] at hz; have := hz.1; simp at this
  | cons f fs => rw [hzz] at hz; exact hz.2 0 z f rfl rfl
theorem zgF {T k e:Nat} (hT:(c.ty T).k=.map k e) {bb:Bool} (he:(c.ty e).k.agg? = some bb) (K:Keyed c.P k) {I:Nat→Prop} {b clock:Nat} {ents:Array MapEntry} {es:List (List FV)} (h:Mp w I b clock ents es)
  (hk:∀ row∈es,∀ kf,row.head? = some kf→Ui c.P k kf) {kf:FV} (hkf:Ui c.P k kf) (ok:Bool) {vf:FV} {found:Bool} (hl:zd7 es kf (c.ty e).zfv vf found) :
  ∃ v,(Instr.lookup T (.map (some b)) kf.val ok).run c.P w=.ok v w∧Rd w I v (if ok then .tup [vf,.bool found] else vf):=by
 obtain ⟨d,ii,z,ht⟩:=c.get hT zc;have hd:=ht.k;rw [hT] at hd;obtain rfl:=zaB hd;obtain ⟨l,hll⟩:=hkf.2;obtain ⟨zv,hz,hzr⟩:=zgH he w I;rcases h.find K hk hkf with ⟨h1,_,h2⟩|⟨j,e0,vf',h1,h2,h3,h4,h5,h6⟩
 ·have hv:vf=(c.ty e).zfv∧found=false:=by
   rcases hl with ⟨_,hm⟩|⟨hb,hv,_⟩
   ·exact absurd rfl (h2 _ hm)
   ·exact ⟨hv,hb⟩
  obtain ⟨rfl,rfl⟩:=hv;cases ok
  ·exact ⟨zv,by simp [Instr.lookup,run_underlying ht.u,MapKept.run_getObj_map h.hb,K.check w _ hll,h1,hz,Result.andThen],hzr⟩
  ·refine ⟨.tuple #[zv,.bool false],by simp [Instr.lookup,run_underlying ht.u,MapKept.run_getObj_map h.hb,K.check w _ hll,h1,hz,Result.andThen],?_⟩;have:=RdL.cons hzr (RdL.cons (Rd.bool (w:=w) (I:=I) false) RdL.nil);exact .tup [zv,.bool false] _ this.1 this.2
 ·have hv:vf=vf'∧found=true:=by
   rcases hl with ⟨hb,hm⟩|⟨_,_,hm⟩
   ·obtain ⟨i,hi⟩:=List.getElem?_of_mem hm;have:=h6 i vf hi;subst this;rw [h4] at hi;simp at hi;exact ⟨hi.symm,hb⟩
   ·exact absurd rfl (hm _ (List.mem_of_getElem? h4))
  obtain ⟨rfl,rfl⟩:=hv;cases ok
  ·exact ⟨e0.val,by simp [Instr.lookup,run_underlying ht.u,MapKept.run_getObj_map h.hb,K.check w _ hll,h1,Result.andThen],h5⟩
  ·refine ⟨.tuple #[e0.val,.bool true],by simp [Instr.lookup,run_underlying ht.u,MapKept.run_getObj_map h.hb,K.check w _ hll,h1,Result.andThen],?_⟩;have:=RdL.cons h5 (RdL.cons (Rd.bool (w:=w) (I:=I) true) RdL.nil);exact .tup [e0.val,.bool true] _ this.1 this.2
theorem FR.mp (h:FR c.N w0 J s a w β) {x:Operand} {id ver:Nat} (ex:s.ev x=.omap id ver) (hl:s.live id ver) (hm:(s.ob id).life≠.hmap):∃ b clock ents,a.eval x=.map (some b)∧β id=some b∧Mp w (Imm J w β s) b clock ents (s.ob id).es:=by
 obtain ⟨hrow,b,hb,hv⟩:=h.ev_omap ex hl.1 hl.2;obtain ⟨b',clock,ents,h1,h2,h3,h4,h5,h6,h7⟩:=((h.obj id hl.1).mapR hrow hm).ex;rw [hb] at h1;injection h1 with h1
 subst h1;exact ⟨b,clock,ents,hv,hb,h3,h4,h5,h6,h7⟩
theorem FR.smp (h:FR c.N w0 J s a w β) {x:Operand} {es:List (List FV)} (ex:s.ev x=.smap es):∃ b clock ents,a.eval x=.map (some b)∧Mp w (Imm J w β s) b clock ents es:=by
 have hr:=h.ev_rd ex rfl;generalize a.eval x=v at hr;cases hr with
 | smap b clock ents es hI hb hst hl hk hr => exact ⟨b, clock, ents, rfl, hb, hst, hl, hk, hr⟩
theorem zfW (h:FR c.N w0 J s a w β) {T k e:Nat} (hT:(c.ty T).k=.map k e) {bb:Bool} (he:(c.ty e).k.agg? = some bb) (K:Keyed c.P k) (x y:Operand) (ok:Bool) {es:List (List FV)}
  (ex:(∃ id ver,s.ev x=.omap id ver∧(s.live id ver∧(s.ob id).life≠.hmap)∧(s.ob id).es=es)∨s.ev x=.smap es) {kf:FV} (ey:s.ev y=kf) (hk:∀ row∈es,∀ kf,row.head? = some kf→Ui c.P k kf) (hkf:Ui c.P k kf)
  {vf:FV} {found:Bool} (hl:zd7 es kf (c.ty e).zfv vf found) (hn:vf.hand=none) :
  yL c w0 J s a ⟨dst,.lookup T x y ok,ty,pos,after,g⟩ w (if ok then .tup [vf,.bool found] else vf) []:=by
 obtain ⟨b,clock,ents,hx,hm⟩:∃ b clock ents,a.eval x=.map (some b)∧Mp w (Imm J w β s) b clock ents es:=by
  rcases ex with ⟨id,ver,e1,e2,rfl⟩|e1
  ·obtain ⟨b,clock,ents,h1,_,h2⟩:=h.mp e1 e2.1 e2.2;exact ⟨b,clock,ents,h1,h2⟩
  ·exact h.smp e1
 have hy:a.eval y=kf.val:=(h.ev_rd ey (by have:=hkf.1;cases kf <;> first|rfl|(simp [FV.simple,FV.simple1] at this))).simple_val hkf.1;obtain ⟨v,h1,h2⟩:=zgF (w:=w) hT he K hm hk hkf ok hl;refine .rd h (v:=v) (by simp [execOp,hx,hy,h1]) h2 ?_;cases ok
 ·exact hn
 ·rfl
theorem FR.newMap (h:FR c.N w0 J s a w β) (d T:Nat):FR c.N w0 J (s.set d ⟨(s.ob d).ver+1,.mapo,T,0,[]⟩) a (w.alloc (.map #[] 0)) (Yg β d (some w.heap.size)):=by
 have hb:=xI w (.map #[] 0);have hI:∀ b,Imm J w β s b→Imm J (w.alloc (.map #[] 0)) (Yg β d (some w.heap.size)) (s.set d ⟨(s.ob d).ver+1,.mapo,T,0,[]⟩) b∧(w.alloc (.map #[] 0)).heap[b]? = w.heap[b]?:=fun b hbb=>by
  refine ⟨⟨Nat.lt_of_lt_of_le hbb.1 hb.size,hbb.2.1,fun id hl=>?_⟩,hb.block b hbb.1⟩;rw [FSt.ob_set] at hl;unfold Yg;split at hl
  ·rename_i hh;rw [if_pos hh.symm];intro e;injection e with e;have:=hbb.1;omega
  ·rename_i hh;rw [if_neg (fun e=>hh e.symm)];exact hbb.2.2 id hl
 refine h.step (C:=fun id=>id=d) h.size h.defers (h.bel.trans (hb.mono h.bel.size)) hI (fun k=>.inl ⟨rfl,rfl⟩) (fun id hC=>?_) (fun id hC=>?_) (fun id hC hl hvv=>?_) (fun id hC hl _=>?_) ?_ ?_
 ·refine ⟨by rw [FSt.ob_set,if_neg (fun e=>hC e.symm)],by unfold Yg;rw [if_neg hC],fun hl b hbb=>hb.block b ((h.obj id hl).lt hbb).2⟩
 ·subst hC;rw [FSt.ob_set,if_pos rfl];exact Nat.le_succ _
 ·subst hC;rw [FSt.ob_set,if_pos rfl] at hvv;simp at hvv
 ·subst hC;rw [FSt.ob_set,if_pos rfl,zW];exact .ofMap ⟨w.heap.size,0,#[],rfl,h.bel.size,heap_alloc_new w _,stamped_empty _,rfl,by simp,by simp⟩ rfl (fun e=>by cases e)
 ·intro id id' b hl hl' e e';rw [FSt.ob_set] at hl hl';unfold Yg at e e';by_cases h1:id=d
  ·by_cases h2:id'=d
   ·rw [h1,h2]
   ·rw [if_pos h1] at e;rw [if_neg h2] at e';rw [if_neg (fun e=>h2 e.symm)] at hl';injection e with e;have:=((h.obj id' hl').lt e').2;omega
  ·by_cases h2:id'=d
   ·rw [if_neg h1] at e;rw [if_pos h2] at e';rw [if_neg (fun e=>h1 e.symm)] at hl;injection e' with e';have:=((h.obj id hl).lt e).2;omega
   ·rw [if_neg h1] at e;rw [if_neg h2] at e';rw [if_neg (fun e=>h1 e.symm)] at hl;rw [if_neg (fun e=>h2 e.symm)] at hl';exact h.inj id id' b hl hl' e e'
 ·intro b hlt hn;refine ⟨hb.block b hlt,fun id hl e=>?_⟩;rw [FSt.ob_set] at hl;unfold Yg at e;by_cases h1:id=d
  ·rw [if_pos h1] at e;injection e with e;omega
  ·rw [if_neg h1] at e;rw [if_neg (fun e=>h1 e.symm)] at hl;exact hn id hl e
theorem zbB (h:FR c.N w0 J s a w β) (d T:Nat):yL c w0 J s a ⟨some d,.makeMap T none,ty,pos,after,g⟩ w (.omap d ((s.ob d).ver+1)) [(d,⟨(s.ob d).ver+1,.mapo,T,0,[]⟩)]:=by
 have hob:(s.wr [(d,(⟨(s.ob d).ver+1,.mapo,T,0,[]⟩:zn))]).ob d=⟨(s.ob d).ver+1,.mapo,T,0,[]⟩:=(FSt.ob_set s d _ d).trans (if_pos rfl);refine ⟨.map (some w.heap.size),w.alloc (.map #[] 0),Yg β d (some w.heap.size),?_,h.newMap d T,fun _ _=>⟨by rw [hob];rfl,w.heap.size,zW _ _ _,rfl⟩,fun id ver e=>?_⟩
 ·have:=run_makeMap (P:=c.P) T w;simp [execOp,this]
 ·simp only [FV.hands,List.mem_singleton,Prod.mk.injEq] at e;obtain ⟨e1,e2⟩:=e;replace e1:=e1.symm;replace e2:=e2.symm;subst e1;subst e2;rw [hob];exact Nat.le_refl _
theorem FR.setMap (h:FR c.N w0 J s a w β) {id b clock clock' : Nat} {ents ents' : Array MapEntry} {es' : List (List FV)} (hl:(s.ob id).life=.mapo) (hb:β id=some b) (hbl:w.heap[b]? = some (.map ents clock)) (st:Stamped ents' clock') (sz:ents'.size=es'.length)
  (ks:∀ (j:Nat) e row,ents'[j]? = some e→es'[j]? = some row→∃ kf vf,row=[kf,vf]∧kf.simple=true∧e.key=kf.val)
  (vs:∀ (j:Nat) e row f,ents'[j]? = some e→es'[j]? = some row→row[1]? = some f→Rd w (Imm J w β s) e.val f) :
  FR c.N w0 J (s.set id { s.ob id with es:=es' }) a (setBlock w b (.map ents' clock')) β:=by
 have hlive:(s.ob id).life≠.dead:=by rw [hl];decide
 have hlt:=(h.obj id hlive).lt hb;have hg:w.grownBy (setBlock w b (.map ents' clock')) (some b):=⟨rfl,rfl,rfl,by simp [setBlock],fun i _ hi=>heap_setBlock_other hbl _ (fun e=>hi (by rw [e]))⟩
 have hI:∀ b',Imm J w β s b'→Imm J (setBlock w b (.map ents' clock')) β (s.set id { s.ob id with es:=es' }) b'∧(setBlock w b (.map ents' clock')).heap[b']? = w.heap[b']?:=fun b' hbb=>by
  refine ⟨⟨Nat.lt_of_lt_of_le hbb.1 hg.size,hbb.2.1,fun id' hl'=>?_⟩,hg.block b' hbb.1 (fun e=>hbb.2.2 id (by rw [hl];rfl) (by rw [hb];exact e.symm))⟩;rw [FSt.ob_set] at hl';split at hl'
  ·rename_i e;subst e;exact hbb.2.2 id (by rw [hl];rfl)
  ·exact hbb.2.2 id' hl'
 refine h.step (C:=fun k=>k=id) h.size h.defers (h.bel.grown hg h.bel.size (fun k hk=>by injection hk with hk;subst hk;exact hlt.1)) hI (fun k=>.inl ⟨rfl,rfl⟩) (fun k hC=>?_) (fun k hC=>?_) (fun k hC hl2 hvv=>?_) (fun k hC hl2 _=>?_) ?_ (fun b' hlt' hn=>⟨hg.block b' hlt' (fun e=>hn id hlive (by rw [hb];exact e.symm)),fun k hl2=>hn k (by rw [FSt.ob_set] at hl2;split at hl2;(· rename_i e;subst e;exact hlive);(· exact hl2))⟩)
 ·refine ⟨by rw [FSt.ob_set,if_neg (fun e=>hC e.symm)],rfl,fun hl2 b' hbb=>hg.block b' ((h.obj k hl2).lt hbb).2 (fun e=>hC (h.inj k id b' hl2 hlive hbb (by rw [hb];exact e.symm)))⟩
 ·subst hC;rw [FSt.ob_set,if_pos rfl];exact Nat.le_refl _
 ·subst hC;refine ⟨hlive,rfl,by rw [FSt.ob_set,if_pos rfl],by rw [FSt.ob_set,if_pos rfl],fun v o n hv=>?_⟩;have:=hv.row;rw [hl] at this;cases this
 ·subst hC;rw [FSt.ob_set,if_pos rfl];exact .ofMap ⟨b,clock',ents',hb,hlt.1,heap_setBlock_same hbl _,st,sz,ks,fun j e row f h1 h2 h3=>(vs j e row f h1 h2 h3).mono hI⟩ (by show (s.ob k).life.slic=false;rw [hl];rfl) (by show (s.ob k).life≠.hmap;rw [hl];decide)
 ·intro k k' b' hl2 hl2' e e';refine h.inj k k' b' ?_ ?_ e e'
  ·rw [FSt.ob_set] at hl2;split at hl2
   ·rename_i e;subst e;exact hlive
   ·exact hl2
  ·rw [FSt.ob_set] at hl2';split at hl2'
   ·rename_i e;subst e;exact hlive
   ·exact hl2'
theorem zcT (h:FR c.N w0 J s a w β) {T k e:Nat} (hT:(c.ty T).k=.map k e) (K:Keyed c.P k) (x y z:Operand) {id ver:Nat} (ex:s.ev x=.omap id ver) (hlf:(s.ob id).life=.mapo) (hver:(s.ob id).ver=ver)
  {kf vf:FV} (ey:s.ev y=kf) (ez:s.ev z=vf) (hk:∀ row∈(s.ob id).es,∀ kf,row.head? = some kf→Ui c.P k kf) (hkf:Ui c.P k kf) (hn:vf.hand=none) {es' : List (List FV)} (hs:zje (s.ob id).es kf vf es') :
  ∃ w',(execOp a.eval ⟨dst,.mapUpdate T x y z,ty,pos,after,g⟩).run c.P w=.ok .skip w'∧FR c.N w0 J (s.wr [(id,{ s.ob id with es:=es' })]) a w' β:=by
 have hlive:s.live id ver:=⟨by rw [hlf];decide,hver⟩
 obtain ⟨d,ii,zz,ht⟩:=c.get hT zc;have hd:=ht.k;rw [hT] at hd;obtain rfl:=zaB hd;obtain ⟨l,hll⟩:=hkf.2;obtain ⟨b,clock,ents,hx,hb,hm⟩:=h.mp ex hlive (by rw [hlf];decide);have hy:a.eval y=kf.val:=(h.ev_rd ey (by have:=hkf.1;cases kf <;> first|rfl|(simp [FV.simple,FV.simple1] at this))).simple_val hkf.1;have hzr:=h.ev_rd ez hn;generalize hzv:a.eval z=u at hzr;generalize hes:(s.ob id).es=es at hm hk hs;rcases hm.find K hk hkf with ⟨h1,h2,h3⟩|⟨j,e0,vf',h1,h2,h3,h4,h5,h6⟩
 ·have he' : es'=es++[[kf,vf]]:=by
   rcases hs with ⟨j,v0,hj,_⟩|⟨_,he⟩
   ·exact absurd rfl (h3 _ (List.mem_of_getElem? hj))
   ·exact he
  subst he';refine ⟨setBlock w b (.map (ents.push ⟨kf.val,u,clock⟩) (clock+1)),?_,?_⟩
  ·have:(Instr.mapUpdate T (.map (some b)) kf.val u).run c.P w=.ok () (setBlock w b (.map (ents.push ⟨kf.val,u,clock⟩) (clock+1))):=by
    simp [Instr.mapUpdate,run_underlying ht.u,MapKept.run_getObj_map hm.hb,K.check w false hll,h1,MapKept.run_setObj_map _ hm.hb,Result.andThen,setBlock]
   simp [execOp,hx,hy,hzv,this]
  ·have hcase:∀ (j:Nat) e row,(ents.push ⟨kf.val,u,clock⟩)[j]? = some e→(es++[[kf,vf]])[j]? = some row→(ents[j]? = some e∧es[j]? = some row)∨(e=⟨kf.val,u,clock⟩∧row=[kf,vf]):=by
    intro j e row he hr;rcases Nat.lt_trichotomy j ents.size with hj|hj|hj
    ·left;rw [Array.getElem?_push,if_neg zb] at he;rw [List.getElem?_append_left (by rw [← hm.sz];exact hj)] at hr;exact ⟨he,hr⟩
    ·right;subst hj;rw [Array.getElem?_push,if_pos rfl] at he;rw [hm.sz,List.getElem?_append_right (Nat.le_refl _),Nat.sub_self] at hr;injection he with he
     injection hr with hr
     exact ⟨he.symm,hr.symm⟩
    ·rw [Array.getElem?_push,if_neg zb] at he;rw [Array.getElem?_eq_none zb] at he;cases he
   refine h.setMap hlf hb hm.hb (stamped_push hm.st h2) (by simp [hm.sz]) (fun j e row he hr=>?_) (fun j e row f he hr hf=>?_)
   ·rcases hcase j e row he hr with ⟨q1,q2⟩|⟨rfl,rfl⟩
    ·exact hm.ks j e row q1 q2
    ·exact ⟨kf,vf,rfl,hkf.1,rfl⟩
   ·rcases hcase j e row he hr with ⟨q1,q2⟩|⟨rfl,rfl⟩
    ·exact hm.vs j e row f q1 q2 hf
    ·simp at hf;subst hf;exact hzr
 ·have he' : es'=es.set j [kf,vf]:=by
   rcases hs with ⟨i,v0,hi,he⟩|⟨hno,_⟩
   ·rw [h6 i v0 hi] at he;exact he
   ·exact absurd rfl (hno _ (List.mem_of_getElem? h4))
  subst he';have hkeyf:∀ e',ents[j]? = some e'→({ e' with key:=kf.val,val:=u }:MapEntry).key=e'.key:=fun e' he'=>by rw [h2] at he';cases he';exact h3.symm
  refine ⟨setBlock w b (.map (ents.modify j (fun e'=>{ e' with key:=kf.val,val:=u })) clock),?_,?_⟩
  ·have:(Instr.mapUpdate T (.map (some b)) kf.val u).run c.P w=.ok () (setBlock w b (.map (ents.modify j (fun e'=>{ e' with key:=kf.val,val:=u })) clock)):=by
    simp [Instr.mapUpdate,run_underlying ht.u,MapKept.run_getObj_map hm.hb,K.check w false hll,h1,h2,h3,K.stays w hll,MapKept.run_setObj_map _ hm.hb,Result.andThen,setBlock]
   simp [execOp,hx,hy,hzv,this]
  ·have hcase:∀ (i:Nat) e row,(ents.modify j (fun e'=>{ e' with key:=kf.val,val:=u }))[i]? = some e→(es.set j [kf,vf])[i]? = some row→(ents[i]? = some e∧es[i]? = some row)∨(e.key=kf.val∧e.val=u∧row=[kf,vf]):=by
    intro i e row he hr;rw [Array.getElem?_modify] at he;rw [List.getElem?_set] at hr;by_cases hij:j=i
    ·subst hij;right;rw [if_pos rfl,h2] at he;rw [if_pos rfl,if_pos (List.getElem?_eq_some_iff.1 h4).1] at hr;simp only [Option.map_some,Option.some.injEq] at he hr;subst he;exact ⟨rfl,rfl,hr.symm⟩
    ·left;rw [if_neg hij] at he hr;exact ⟨he,hr⟩
   refine h.setMap hlf hb hm.hb (stamped_modify hm.st _ _ (fun _ _=>rfl) (fun e' _ he'=>hkeyf e' he')) (by simp [hm.sz]) (fun i e row he hr=>?_) (fun i e row f he hr hf=>?_)
   ·rcases hcase i e row he hr with ⟨q1,q2⟩|⟨q1,q2,rfl⟩
    ·exact hm.ks i e row q1 q2
    ·exact ⟨kf,vf,rfl,hkf.1,q1⟩
   ·rcases hcase i e row he hr with ⟨q1,q2⟩|⟨q1,q2,rfl⟩
    ·exact hm.vs i e row f q1 q2 hf
    ·simp at hf;subst hf;rw [q2];exact hzr
end
end
section
open Go.RowKit
theorem zaf {α:Type} {X:List α} {p:Nat} (x:α) (h:p<X.length):splice X p [x]=X.set p x:=by
 unfold splice;rw [List.set_eq_take_append_cons_drop,if_pos h];simp
theorem zf0 {w w' : World} (h:w.grownBy w' none) (r:Option Nat):w.grownBy w' r:={ h with block:=fun k hk _=>h.block k hk zc }
theorem YR (P:Program) (w:World) (t ty e:TypeId) (i:TypeInfo) (ht:P.underlying t=some (.slice e)) (hi:P.info? e=some i) (g off sLen sCap:Nat) (cur:Array Value) (hg:w.heap[g]? = some (.cells cur e (0,0)))
  (a:Addr) (m c:Nat) (news:List Value) (hl:news.length=m * i.size) (hnews:∀ (j:Nat) u,news[j]? = some u→w.cell? (a.add j)=some u) (h1:∀ u∈news,u.oneCell'=true) (hroom:sLen+m≤sCap) (hfit:off+sLen * i.size+news.length≤cur.size) :
  (Builtin.append_ #[t,t] ty #[.slice (some ⟨g,off,none⟩) sLen sCap,.slice (some a) m c]).run P w=.ok (.slice (some ⟨g,off,none⟩) (sLen+m) sCap) (w.setRow g (splice cur.toList (off+sLen * i.size) news).toArray):=by
 have hf:=run_firstCells_some (P:=P) w i.size m a m c news hl hnews;have hst:=run_storeCells_at P g (off+sLen * i.size) e news 0 cur w hg (by simpa using hfit) h1;simp only [Nat.add_zero] at hst;simp [Builtin.append_,run_underlying ht,sizeOf,typeInfo,hi,Builtin.lenOf,hroom,hf,Addr.add_lit,hst,splice]
section
variable {c:Ctx} {w0 w:World} {J:JJ} {s:FSt} {a:Act} {β:Nat→Option Nat} {dst:Option Nat} {ty:TypeId} {pos:String} {after:Array Edge} {g:Option (Nat×Bool)}
theorem zd4 (s:FSt) (id d:Nat) (b1 b2:zn) (k:Nat):(s.wr [(id,b1),(d,b2)]).ob k=if d=k then b2 else if id=k then b1 else s.ob k:=by
 show (FSt.set (FSt.set s id b1) d b2).ob k=_;rw [FSt.ob_set,FSt.ob_set]
theorem Src.nonil (h:FR c.N w0 J s a w β) {y:Operand} {f2:FV} {sz:Nat} {es2:List (List FV)} (ey:s.ev y=f2) (h2:Src s f2 sz es2) (h1:es2.length=1) :
  (∀ e∈es2,e.length=sz)∧(∀ f∈es2.flatten,f.one=true)∧∃ ad cc us,a.eval y=.slice (some ad) 1 cc∧us.length=1 * sz∧RdL w (Imm J w β s) us es2.flatten∧(∀ (j:Nat) u,us[j]? = some u→w.cell? (ad.add j)=some u)∧∀ u∈us,u.oneCell'=true:=by
 obtain ⟨hw,ho,A,cc,us,hy,hc,hr,hA,hcell⟩:=h.src ey h2;refine ⟨hw,ho,?_⟩;cases A with
 | none => have := (hA rfl).2; rw [this] at h1; simp at h1
 | some ad =>
  refine ⟨ad,cc,us,by rw [hy,h1],by rw [hr.1,yR hw,h1],hr,hcell ad rfl,fun u hu=>?_⟩;obtain ⟨j,hj,rfl⟩:=List.getElem_of_mem hu;have hj2:j<es2.flatten.length:=by rw [← hr.1];exact hj
  exact (hr.2 j _ es2.flatten[j] (by simp [hj]) zc).oneCell (ho _ (List.getElem_mem hj2))
theorem zbv (h:FR c.N w0 J s a w β) (d:Nat) {T e:Nat} (hT:(c.ty T).k=.slice e) (he:(c.ty e).k≠.other) (hpos:0<(c.ty e).size) (x y:Operand) {id ver o n:Nat} (ex:s.ev x=.own id ver o n) (hlf:(s.ob id).life=.roomy) (hver:(s.ob id).ver=ver)
  (hE:(s.ob id).E=e) (hsz:(s.ob id).sz=(c.ty e).size) (hon:o+n=(s.ob id).es.length) {f2:FV} {es2:List (List FV)} (ey:s.ev y=f2) (h2:Src s f2 (c.ty e).size es2) (h1:es2.length=1) :
  yL c w0 J s a ⟨some d,.call { callee:=.builtin .append,args:=#[x,y],argTypes:=#[T,T] },ty,pos,after,g⟩ w (.own d ((s.ob d).ver+1) o (n+1)) [(id,{ s.ob id with life:=.dead }),(d,⟨(s.ob d).ver+1,.own,e,(c.ty e).size,(s.ob id).es++es2⟩)]:=by
 obtain ⟨dd,ii,z,ht⟩:=c.get hT zc;have hd:=ht.k;rw [hT] at hd;obtain rfl:=yo hd;obtain ⟨d',i',z',ht'⟩:=c.get rfl he;obtain ⟨hw2,ho2,ad,c2,us2,hy,hl2,hr2,hcell2,hone2⟩:=Src.nonil h ey h2 h1;have hlive:(s.ob id).life≠.dead:=by rw [hlf];decide
 have hrl:(s.ob id).life.row=true:=by rw [hlf];rfl
 have hO:=h.obj id hlive;have hroom:=hO.roomR hrl;unfold ZQ at hroom;rw [hlf] at hroom;obtain ⟨b,cur,hb,hblk,hfit⟩:=hroom;obtain ⟨v1,us1,r1,r2,r3⟩:=(hO.rowR hrl).row;have hw1:=(hO.rowR hrl).wide;have ho1:=(hO.rowR hrl).one;have hlt:=hO.lt hb;obtain ⟨A,cc,e1,e2,e3,e4,e5⟩:=(h.ev_own ex hlive hver).ex;obtain ⟨o',rfl,k2,k3⟩:=e5 b hb;have hcur:=k3 cur hblk;rw [hE,hsz] at r1;rw [hE] at hblk;rw [hsz] at k2 hcur hw1 hfit;generalize hes:(s.ob id).es=es at hon r1 r3 hw1 ho1 hfit;generalize hszz:(c.ty e).size=sz at hpos hw1 hfit r1 hw2 hl2 hcur k2;rcases r1.2 with ⟨rfl,_⟩|⟨g',cap,cur',rfl,_,hgg,hn,hcm,hcs,htk⟩
 ·rw [← r2] at hb;simp [Value.ownBlock] at hb
 have hgb:g'=b:=by rw [← r2] at hb;simpa [Value.ownBlock] using hb
 subst hgb;rw [hblk] at hgg;injection hgg with hgg
 injection hgg with hgg _ _
 subst hgg;have hoc:o+cc=cap:=Nat.eq_of_mul_eq_mul_right hpos (by rw [← hcur,hcs]);have hcap:es.length+1≤cap:=Nat.le_of_mul_le_mul_right (by rw [← hcs];exact hfit) hpos;have ho' : o'=o * sz:=k2 (.inl zb);subst ho';have hlen:o * sz+n * sz=es.length * sz:=by rw [← hon,Nat.add_mul]
 have hls:es.length * sz+sz≤cur.size:=by rw [Nat.add_mul] at hfit;omega
 have hrun:=YR c.P w T ty e i' ht.u ht'.info g' (o * sz) n cc cur hblk ad 1 c2 us2 (by rw [ht'.size,hszz];exact hl2) hcell2 hone2 zb (by rw [ht'.size,hszz,hlen];omega);rw [ht'.size,hszz,hlen] at hrun;have hcl:cur.toList.length=cur.size:=by simp
 have hul:us1.length=es.length * sz:=r1.1;obtain ⟨W,hW⟩:∃ W,W=w.setRow g' (splice cur.toList (es.length * sz) us2).toArray:=⟨_,rfl⟩
 rw [← hW] at hrun;have hWb:W.heap[g']? = some (.cells (splice cur.toList (es.length * sz) us2).toArray e (0,0)):=by rw [hW];exact yp w g' _ cur _ hblk
 have hWs:(splice cur.toList (es.length * sz) us2).toArray.size=cur.size:=by
  rw [List.size_toArray,yt (by rw [hcl];omega),hcl]
 have hgr:w.grownBy W (some g'):=by
  subst hW;exact ⟨rfl,rfl,rfl,by simp [World.setRow],fun k hk hne=>yx w g' k _ (fun e=>hne (by rw [e]))⟩
 have hlenes:(es++es2).length=es.length+1:=by rw [List.length_append,h1]
 have hrow' : W.ownsRow w0.heap.size e sz (.slice (some ⟨g',0,none⟩) (es.length+1) cap) (es++es2).length (us1++us2):=by
  rw [hlenes];refine ⟨by rw [List.length_append,hul,hl2,Nat.add_mul],.inr ⟨g',cap,_,rfl,hlt.1,hWb,hcap,hcm,by rw [hWs,hcs],?_⟩⟩;show (splice cur.toList (es.length * sz) us2).take ((es.length+1) * sz)=us1++us2;unfold splice;rw [← htk,List.append_assoc,List.take_append,List.take_take,Nat.min_eq_right (by rw [Nat.add_mul];omega),List.length_take,Nat.min_eq_left zb,show (es.length+1) * sz - es.length * sz=sz by rw [Nat.add_mul];omega,
   List.take_append_of_le_length zb,List.take_of_length_le (by omega:us2.length≤sz)]
 have hexec:(execOp a.eval ⟨some d,.call { callee:=.builtin .append,args:=#[x,y],argTypes:=#[T,T] },ty,pos,after,g⟩).run c.P w=.ok (.value (.slice (some ⟨g',o * sz,none⟩) (n+1) cc)) W:=by
  simp [execOp,resolve,invoke,builtin,e1,hy,hrun]
 have hFR:=h.make (some id) d (E:=e) (sz:=sz) (es:=es++es2) (v:=.slice (some ⟨g',0,none⟩) (es.length+1) cap) (xs:=us1++us2) (fun k hk=>by injection hk with hk;subst hk;rw [hlf];rfl) (by rw [Option.bind_some,hb];exact hgr)
  (fun q hq=>by
   rcases List.mem_append.1 hq with h'|h'
   ·exact hw1 q h'
   ·exact hw2 q h')
  (fun f hf=>by
   rw [List.flatten_append] at hf;rcases List.mem_append.1 hf with h'|h'
   ·exact ho1 f h'
   ·exact ho2 f h') hrow' (by rw [List.flatten_append];exact r3.append hr2) (.inl (by rw [Option.bind_some,hb];rfl)) (s':=s.wr [(id,{ s.ob id with life:=.dead }),(d,⟨(s.ob d).ver+1,.own,e,sz,es++es2⟩)]) (fun k=>by
    rw [zd4];split
    ·rfl
    ·by_cases hik:id=k
     ·subst hik;simp
     ·rw [if_neg hik,if_neg (by simpa using hik)]) (fun k=>FSt.wr_get _ _ _)
 have hobd:(s.wr [(id,{ s.ob id with life:=.dead }),(d,(⟨(s.ob d).ver+1,.own,e,sz,es++es2⟩:zn))]).ob d=⟨(s.ob d).ver+1,.own,e,sz,es++es2⟩:=by rw [zd4,if_pos rfl]
 refine ⟨_,W,_,hexec,hFR,fun _ _=>?_,fun id' ver' e=>?_⟩
 ·rw [hobd,zW];refine ⟨rfl,some ⟨g',o * sz,none⟩,cc,rfl,by omega,by show o+(n+1)≤(es++es2).length;omega,(fun hb=>by simp [Value.ownBlock] at hb),fun b' hb'=>?_⟩;obtain rfl:g'=b':=by simpa [Value.ownBlock] using hb'
  refine ⟨o * sz,rfl,fun _=>rfl,fun cur' hc'=>?_⟩;rw [hWb] at hc';injection hc' with hc'
  injection hc' with hc' _ _
  rw [← hc',hWs,hcur]
 ·simp only [FV.hands,List.mem_singleton,Prod.mk.injEq] at e;obtain ⟨e1,e2⟩:=e;replace e1:=e1.symm;replace e2:=e2.symm;subst e1;subst e2;rw [hobd];exact Nat.le_refl _
theorem zbu (h:FR c.N w0 J s a w β) (d:Nat) {T e:Nat} (hT:(c.ty T).k=.slice e) (he:(c.ty e).k≠.other) (hpos:0<(c.ty e).size) (x y:Operand) {id ver o n:Nat} (ex:s.ev x=.own id ver o n) (hlf:(s.ob id).life=.full) (hver:(s.ob id).ver=ver)
  (hE:(s.ob id).E=e) (hsz:(s.ob id).sz=(c.ty e).size) (hon:o+n=(s.ob id).es.length) {f2:FV} {es2:List (List FV)} (ey:s.ev y=f2) (h2:Src s f2 (c.ty e).size es2) (h1:es2.length=1)
  (hb:(n+1) * (c.ty e).bytes≤140737488355328) (hm:n+1≤140737488355328) :
  yL c w0 J s a ⟨some d,.call { callee:=.builtin .append,args:=#[x,y],argTypes:=#[T,T] },ty,pos,after,g⟩ w (.own d ((s.ob d).ver+1) 0 (n+1)) [(id,{ s.ob id with life:=.dead }),(d,⟨(s.ob d).ver+1,.own,e,(c.ty e).size,(s.ob id).es.drop o++es2⟩)]:=by
 obtain ⟨dd,ii,z,ht⟩:=c.get hT zc;have hd:=ht.k;rw [hT] at hd;obtain rfl:=yo hd;obtain ⟨d',i',z',ht'⟩:=c.get rfl he;have hzs:z'.cells.size=(c.ty e).size:=by
  have:=(RdL.zeros (w:=w) (I:=Imm J w β s) ht'.zr).1;rw [ht'.zl] at this;simpa using this
 obtain ⟨hw2,ho2,ad,c2,us2,hy,hl2,hr2,hcell2,hone2⟩:=Src.nonil h ey h2 h1;have hlive:(s.ob id).life≠.dead:=by rw [hlf];decide
 have hrl:(s.ob id).life.row=true:=by rw [hlf];rfl
 have hO:=h.obj id hlive;have hroom:=hO.roomR hrl;unfold ZQ at hroom;rw [hlf] at hroom;obtain ⟨v1,us1,r1,r2,r3⟩:=(hO.rowR hrl).row;have hw1:=(hO.rowR hrl).wide;have ho1:=(hO.rowR hrl).one;obtain ⟨A,cc,e1,e2,e3,e4,e5⟩:=(h.ev_own ex hlive hver).ex;rw [hE,hsz] at r1;rw [hsz] at hw1;have hlenes:((s.ob id).es.drop o++es2).length=n+1:=by rw [List.length_append,List.length_drop,h1];omega
 have hwd:∀ q∈(s.ob id).es.drop o++es2,q.length=(c.ty e).size:=fun q hq=>by
  rcases List.mem_append.1 hq with h'|h'
  ·exact hw1 q (List.mem_of_mem_drop h')
  ·exact hw2 q h'
 have hfl:((s.ob id).es.drop o).flatten=(s.ob id).es.flatten.drop (o * (c.ty e).size):=xj _ hw1 o;have hod:∀ f∈((s.ob id).es.drop o++es2).flatten,f.one=true:=fun f hf=>by
  rw [List.flatten_append] at hf;rcases List.mem_append.1 hf with h'|h'
  ·rw [hfl] at h';exact ho1 f (List.mem_of_mem_drop h')
  ·exact ho2 f h'
 have hrd:RdL w (Imm J w β s) (us1.drop (o * (c.ty e).size)++us2) ((s.ob id).es.drop o++es2).flatten:=by
  rw [List.flatten_append,hfl];exact (r3.drop _).append hr2
 obtain ⟨v',w',hrun,hrow',hgr,hblk⟩:∃ v' w',(Builtin.append_ #[T,T] ty #[a.eval x,a.eval y]).run c.P w=.ok v' w'∧w'.ownsRow w0.heap.size e (c.ty e).size v' (n+1) (us1.drop (o * (c.ty e).size)++us2)∧w.grownBy w' none∧
   (v'.ownBlock=none∨∃ b,v'.ownBlock=some b∧w.heap.size≤b):=by
  rw [e1,hy];cases hb0:β id with
  | none=>
   obtain ⟨rfl,rfl⟩:=e4 hb0;obtain rfl:n=0:=by omega
   rcases r1.2 with ⟨rfl,hz0⟩|⟨g',cap,cur',rfl,_⟩
   ·have hu0:us1=[]:=List.eq_nil_of_length_eq_zero (by rw [r1.1,hz0,Nat.zero_mul]);subst hu0;obtain ⟨v',w',q1,q2,q3,_,q5⟩:=run_append_own_at (P:=c.P) w w0.heap.size T ty e i' z' (c.ty e).size (c.ty e).bytes ht.u ht'.info ht'.zo ht'.size ht'.bytes hzs hpos (.slice none 0 0) 0 [] (World.ownsRow_nil _ _ _ _) ad 1 c2 us2 hl2 hcell2 hone2 zg (by simpa using hb) h.bel.size;refine ⟨v',w',q1,by simpa using q2,q3,?_⟩;rcases q5 with e|e
    ·exact .inl e
    ·exact .inr ⟨_,e,Nat.le_refl _⟩
   ·rw [hb0] at r2;simp [Value.ownBlock] at r2
  | some b=>
   obtain ⟨o',rfl,k2,k3⟩:=e5 b hb0;rcases r1.2 with ⟨rfl,_⟩|⟨g',cap,cur,rfl,_,hgg,hn,hcm,hcs,htk⟩
   ·rw [hb0] at r2;simp [Value.ownBlock] at r2
   have hgb:g'=b:=by rw [hb0] at r2;simpa [Value.ownBlock] using r2
   subst hgb;have hc1:=hroom g' cur hb0 (by rw [hE];exact hgg);have hc2:=k3 cur (by rw [hE];exact hgg);rw [hsz] at hc1 hc2 k2;have hoc:o+cc=(s.ob id).es.length:=Nat.eq_of_mul_eq_mul_right hpos (by rw [← hc2,hc1]);obtain rfl:cc=n:=by omega
   have hcl:us1.length=(s.ob id).es.length * (c.ty e).size:=r1.1;obtain ⟨v',w',q1,q2,q3⟩:=run_append_arg_grows (P:=c.P) w T ty e i' z' (c.ty e).size (c.ty e).bytes ht.u ht'.info ht'.zo ht'.size ht'.bytes hzs hpos ⟨g',o',none⟩ cc cc (us1.drop (o * (c.ty e).size)) (by rw [List.length_drop,hcl,← hon,Nat.add_mul];omega)
    (fun j u hu=>by
     rw [List.getElem?_drop] at hu;have hj:=(List.getElem?_eq_some_iff.1 hu).1;have hcc0:cc≠0:=by rintro rfl;rw [hcl,← hon,Nat.add_zero] at hj;omega
     have:=k2 (.inl hcc0);subst this;have hcell:=r1.cells (g:=g') rfl _ u hu;rw [yM] at hcell ⊢;rwa [Nat.zero_add] at hcell) ad 1 c2 us2 hl2 hcell2 zb (by unfold maxLen;omega) hb
   refine ⟨v',w',q1,zdO q2 h.bel.size,q3,?_⟩;cases hvb:v'.ownBlock with
   | none => exact .inl rfl
   | some b2 => exact .inr ⟨b2, rfl, (q2.lt b2 hvb).1⟩
 have hexec:(execOp a.eval ⟨some d,.call { callee:=.builtin .append,args:=#[x,y],argTypes:=#[T,T] },ty,pos,after,g⟩).run c.P w=.ok (.value v') w':=by
  simp [execOp,resolve,invoke,builtin,hrun]
 rw [← hlenes] at hrow';have hFR:=h.make (some id) d (E:=e) (sz:=(c.ty e).size) (es:=(s.ob id).es.drop o++es2) (v:=v') (xs:=us1.drop (o * (c.ty e).size)++us2) (fun k hk=>by injection hk with hk;subst hk;rw [hlf];rfl) (zf0 hgr _) hwd hod hrow' hrd (.inr hblk)
  (s' :=s.wr [(id,{ s.ob id with life:=.dead }),(d,⟨(s.ob d).ver+1,.own,e,(c.ty e).size,(s.ob id).es.drop o++es2⟩)]) (fun k=>by
      rw [zd4];split
      ·rfl
      ·by_cases hik:id=k
       ·subst hik;simp
       ·rw [if_neg hik,if_neg (by simpa using hik)]) (fun k=>FSt.wr_get _ _ _)
 have hobd:(s.wr [(id,{ s.ob id with life:=.dead }),(d,(⟨(s.ob d).ver+1,.own,e,(c.ty e).size,(s.ob id).es.drop o++es2⟩:zn))]).ob d=⟨(s.ob d).ver+1,.own,e,(c.ty e).size,(s.ob id).es.drop o++es2⟩:=by rw [zd4,if_pos rfl]
 refine ⟨v',w',_,hexec,hFR,fun _ _=>?_,fun id' ver' e=>?_⟩
 ·rw [hobd,zW];rw [← hlenes];exact YC.of_row hrow' rfl rfl rfl rfl
 ·simp only [FV.hands,List.mem_singleton,Prod.mk.injEq] at e;obtain ⟨e1,e2⟩:=e;replace e1:=e1.symm;replace e2:=e2.symm;subst e1;subst e2;rw [hobd];exact Nat.le_refl _
theorem FR.blockH (h:FR c.N w0 J s a w β) {id:Nat} (hlf:(s.ob id).life=.hrow) {b:Nat} (hb:β id=some b) :
  ∃ cur cap,w.heap[b]? = some (.cells cur (s.ob id).E (0,0))∧(s.ob id).es.length≤cap∧cap≤maxLen∧cur.size=cap * (s.ob id).sz∧(cur.toList.take ((s.ob id).es.length * (s.ob id).sz)).length=(s.ob id).es.flatten.length∧
   ∀ (j:Nat) u f,(cur.toList.take ((s.ob id).es.length * (s.ob id).sz))[j]? = some u→(s.ob id).es.flatten[j]? = some f→VR w (Imm J w β s) β s u f:=by
 have hlive:(s.ob id).life≠.dead:=by rw [hlf];decide
 obtain ⟨v,us,r1,r2,r3,r4⟩:=((h.obj id hlive).rowH (by rw [hlf];rfl) (by rw [hlf];rfl)).row;rcases r1.2 with ⟨rfl,_⟩|⟨g',cap,cur,rfl,_,hgg,hn,hm,hcs,htk⟩
 ·rw [← r2] at hb;simp [Value.ownBlock] at hb
 ·have hgb:g'=b:=by rw [← r2] at hb;simpa [Value.ownBlock] using hb
  subst hgb;subst htk;exact ⟨cur,cap,hgg,hn,hm,hcs,r3,r4⟩
theorem Va {α:Type}:∀ (es:List (List α)),(∀ e∈es,e.length=1)→∀ (j:Nat) f,es[j]? = some [f]→es.flatten[j]? = some f
 | [], _, j, f, h => by simp at h
 | e :: es, he, 0, f, h => by simp at h; subst h; simp
 | e :: es, he, j+1, f, h => by
  have h1:=he e zc;obtain ⟨x,rfl⟩:=List.length_eq_one_iff.1 h1;simp at h;simpa using Va es (fun q hq=>he q (by simp [hq])) j f h
theorem zbp {α:Type}:∀ (es:List (List α)),(∀ e∈es,e.length=1)→∀ (j:Nat) f,(es.set j [f]).flatten=es.flatten.set j f
 | [], _, j, f => by simp
 | e :: es, he, 0, f => by
  obtain ⟨x,rfl⟩:=List.length_eq_one_iff.1 (he e zc);simp
 | e :: es, he, j+1, f => by
  obtain ⟨x,rfl⟩:=List.length_eq_one_iff.1 (he e zc);simpa using zbp es (fun q hq=>he q (by simp [hq])) j f
theorem zer (h:FR c.N w0 J s a w β) {T:Nat} (hk:(c.ty T).k.agg? = some false) (hz:(c.ty T).size=1) (x:Operand) {id ver j:Nat} (ex:s.ev x=.ptr id ver j 0) (hlf:(s.ob id).life=.hrow) (hver:(s.ob id).ver=ver) (hsz:(s.ob id).sz=1) {f:FV} (hj:(s.ob id).es[j]? = some [f]) :
  yL c w0 J s a ⟨dst,.load T x,ty,pos,after,g⟩ w f []:=by
 have hlive:(s.ob id).life≠.dead:=by rw [hlf];decide
 obtain ⟨_,b,hb,hv⟩:=h.ev_ptr ex hlive hver;obtain ⟨cur,cap,hblk,hn,hm,hcs,hl,hr⟩:=h.blockH hlf hb;have hH:=(h.obj id hlive).rowH (by rw [hlf];rfl) (by rw [hlf];rfl);have hw:=hH.wide;rw [hsz] at hv hcs hl hr hw;have hjl:=(List.getElem?_eq_some_iff.1 hj).1;have hjf:=Va _ hw j f hj;have hjc:j<cur.size:=by omega
 have hu:(cur.toList.take ((s.ob id).es.length * 1))[j]? = some cur[j]:=by
  rw [List.getElem?_take,if_pos zb];simp [hjc]
 have hcell:w.cell? ⟨b,j,none⟩=some cur[j]:=by
  have:=cell_of_row w b j cur (s.ob id).E (0,0) hblk;rw [this];simp [hjc]
 refine .pure h (v:=cur[j]) ?_ (hr j _ f hu hjf) (fun id' ver' e=>hH.vers f (List.mem_of_getElem? hjf) id' ver' e);have:(loadVar T ⟨b,j,none⟩).run c.P w=.ok cur[j] w:=by simp [loadVar,Zt hk,load,Sem.run,hcell]
 simp [execOp,Instr.loadAt,hv,Instr.sureAddr,this]
def Zx (s:FSt) (f:FV):Prop:=f.one=true∨(∃ id ver o n,f=.own id ver o n∧s.live id ver)∨(∃ id ver j o,f=.ptr id ver j o∧s.live id ver)∨(∃ k fs,f=.wrap (.fn k) fs)∨∃ id ver,f=.omap id ver∧s.live id ver
theorem Zx.val (h:FR c.N w0 J s a w β) {y:Operand} {f:FV} (ey:s.ev y=f) (hf:Zx s f):(a.eval y).cells=#[a.eval y]∧(a.eval y).oneCell'=true:=by
 rcases hf with h1|⟨id,ver,o,n,rfl,hl⟩|⟨id,ver,j,o,rfl,hl⟩|⟨k,fs,rfl⟩|⟨id,ver,rfl,hl⟩
 ·have hn:f.hand=none:=by cases f <;> first|rfl|(simp [FV.one] at h1)
  have hr:=h.ev_rd ey hn;generalize a.eval y=v at hr;cases hr <;> first|exact ⟨rfl,rfl⟩|(simp [FV.one] at h1)
 ·obtain ⟨A,cc,e,_⟩:=(h.ev_own ey hl.1 hl.2).ex;rw [e];exact ⟨rfl,rfl⟩
 ·obtain ⟨_,b,_,e⟩:=h.ev_ptr ey hl.1 hl.2;rw [e];exact ⟨rfl,rfl⟩
 ·have hv:=h.ev y;rw [ey] at hv;obtain ⟨us,e,_⟩:=hv;rw [e];exact ⟨rfl,rfl⟩
 ·obtain ⟨_,b,_,e⟩:=h.ev_omap ey hl.1 hl.2;rw [e];exact ⟨rfl,rfl⟩
theorem zcS (h:FR c.N w0 J s a w β) {T:Nat} (hk:(c.ty T).k≠.other) (hz:(c.ty T).size=1) (x y:Operand) {id ver j:Nat} (ex:s.ev x=.ptr id ver j 0) (hlf:(s.ob id).life=.hrow) (hver:(s.ob id).ver=ver) (hsz:(s.ob id).sz=1) {f:FV} (ey:s.ev y=f)
  (hf:Zx s f) (hj:j<(s.ob id).es.length) :
  ∃ w',(execOp a.eval ⟨dst,.store T x y,ty,pos,after,g⟩).run c.P w=.ok .skip w'∧FR c.N w0 J (s.wr [(id,{ s.ob id with es:=(s.ob id).es.set j [f] })]) a w' β:=by
 have hlive:(s.ob id).life≠.dead:=by rw [hlf];decide
 obtain ⟨_,b,hb,hvx⟩:=h.ev_ptr ex hlive hver;obtain ⟨cur,cap,hblk,hn,hm,hcs,hl,hr⟩:=h.blockH hlf hb;have hH:=(h.obj id hlive).rowH (by rw [hlf];rfl) (by rw [hlf];rfl);have hw:=hH.wide;obtain ⟨hc1,hc2⟩:=Zx.val h ey hf;have hvr:=h.ev y;have hvv:∀ id' ver',(id',ver')∈f.hands→ver'≤(s.ob id').ver:=fun id' ver' e=>h.evers y (by rw [ey];exact e);rw [ey] at hvr;generalize hy:a.eval y=v at hc1 hc2 hvr;rw [hsz] at hvx hcs hl hr hw;have hst:=run_storeCells_at c.P b j (s.ob id).E [v] 0 cur w hblk zI (by simpa using hc2);simp only [Nat.add_zero] at hst;have hjc:j<cur.toList.length:=by simp;omega
 obtain ⟨W,hW⟩:∃ W,W=w.setRow b (splice cur.toList j [v]).toArray:=⟨_,rfl⟩
 have hWb:W.heap[b]? = some (.cells (cur.toList.set j v).toArray (s.ob id).E (0,0)):=by rw [hW,zaf v hjc];exact yp w b _ cur _ hblk
 have hg:w.grownBy W (some b):=by
  subst hW;exact ⟨rfl,rfl,rfl,by simp [World.setRow],fun k hk hne=>yx w b k _ (fun e=>hne (by rw [e]))⟩
 have hlt:=(h.obj id hlive).lt hb;refine ⟨W,?_,?_⟩
 ·have hs:=yi (c:=c) hk w;have hst' : (storeCells ⟨b,j,none⟩ [v]).run c.P w=.ok () W:=by rw [hW];exact hst
  simp [execOp,Instr.storeAt,storeVar,hvx,hy,Instr.sureAddr,hs,hz,hc1,hst']
 ·have hob:∀ k,(s.wr [(id,{ s.ob id with es:=(s.ob id).es.set j [f] })]).ob k=if id=k then { s.ob id with es:=(s.ob id).es.set j [f] } else s.ob k:=fun k=>FSt.ob_set s id _ k
  have hI:∀ b',Imm J w β s b'→Imm J W β (s.wr [(id,{ s.ob id with es:=(s.ob id).es.set j [f] })]) b'∧W.heap[b']? = w.heap[b']?:=fun b' hbb=>by
   refine ⟨⟨Nat.lt_of_lt_of_le hbb.1 hg.size,hbb.2.1,fun id' hl'=>?_⟩,hg.block b' hbb.1 (fun e=>hbb.2.2 id (by rw [hlf];rfl) (by rw [hb];exact e.symm))⟩;rw [hob] at hl';split at hl'
   ·rename_i e;subst e;exact hbb.2.2 id (by rw [hlf];rfl)
   ·exact hbb.2.2 id' hl'
  refine h.step (C:=fun k=>k=id) h.size h.defers (h.bel.grown hg h.bel.size (fun k hk=>by injection hk with hk;subst hk;exact hlt.1)) hI (fun k=>.inl ⟨rfl,rfl⟩) (fun k hC=>?_) (fun k hC=>?_) (fun k hC hl2 hvv2=>?_) (fun k hC hl2 T'=>?_) ?_ (fun b' hlt' hn=>⟨hg.block b' hlt' (fun e=>hn id hlive (by rw [hb];exact e.symm)),fun k hl2=>hn k (by rw [hob] at hl2;split at hl2;(· rename_i e;subst e;exact hlive);(· exact hl2))⟩)
  ·refine ⟨by rw [hob,if_neg (fun e=>hC e.symm)],rfl,fun hl2 b' hbb=>hg.block b' ((h.obj k hl2).lt hbb).2 (fun e=>hC (h.inj k id b' hl2 hlive hbb (by rw [hb];exact e.symm)))⟩
  ·subst hC;rw [hob,if_pos rfl];exact Nat.le_refl _
  ·subst hC;refine ⟨hlive,rfl,by rw [hob,if_pos rfl],by rw [hob,if_pos rfl],fun v2 o n hv2=>?_⟩;rw [hob,if_pos rfl];obtain ⟨A,cc,q1,q2,q3,q4,q5⟩:=hv2.ex;refine ⟨hv2.row,A,cc,q1,q2,by simpa using q3,q4,fun b2 hbb=>?_⟩;obtain ⟨o',k1,k2,k3⟩:=q5 b2 hbb;refine ⟨o',k1,k2,fun cur' hc'=>?_⟩;rw [hb] at hbb;injection hbb with hbb
   subst hbb;dsimp only at hc';rw [hWb] at hc';injection hc' with hc'
   injection hc' with hc' _ _
   rw [← hc'];have:=k3 cur hblk;simpa using this
  ·subst hC;rw [hob,if_pos rfl];have hvers:∀ id',(s.ob id').ver≤((s.wr [(k,{ s.ob k with es:=(s.ob k).es.set j [f] })]).ob id').ver:=fun id'=>by
    rw [hob];split
    ·rename_i e;subst e;exact Nat.le_refl _
    ·exact Nat.le_refl _
   have hfl:=zbp _ hw j f;have hfll:(s.ob k).es.flatten.length=(s.ob k).es.length:=by have:=yR hw;omega
   refine .ofH ⟨fun e he=>?_,fun f' hf' id' ver' e=>?_,.slice (some ⟨b,0,none⟩) (s.ob k).es.length cap,(cur.toList.take ((s.ob k).es.length * 1)).set j v,?_,by rw [hb];rfl,?_,fun i u f' hu hf'=>?_⟩ hlf
   ·rw [hsz];rcases List.mem_or_eq_of_mem_set he with h'|h'
    ·exact hw e h'
    ·subst h';rfl
   ·dsimp only at hf';rw [hfl] at hf';refine Nat.le_trans ?_ (hvers id');rcases List.mem_or_eq_of_mem_set hf' with h'|h'
    ·exact hH.vers f' h' id' ver' e
    ·subst h';exact hvv id' ver' e
   ·rw [hsz];simp only [List.length_set];refine ⟨by rw [List.length_set,hl,hfll,Nat.mul_one],.inr ⟨b,cap,_,rfl,hlt.1,hWb,hn,hm,by simpa using hcs,?_⟩⟩;simp only [List.take_set]
   ·dsimp only;rw [List.length_set,hl,hfl,List.length_set]
   ·dsimp only at hf';rw [hfl] at hf';rw [List.getElem?_set] at hu hf';by_cases hij:j=i
    ·subst hij;rw [if_pos rfl] at hu hf';split at hu
     ·split at hf'
      ·injection hu with hu
       injection hf' with hf'
       subst hu;subst hf';exact T' _ _ hvr hvv
      ·cases hf'
     ·cases hu
    ·rw [if_neg hij] at hu hf';exact T' _ _ (hr i u f' hu hf') (hH.vers f' (List.mem_of_getElem? hf'))
  ·intro k k' b' hl2 hl2' e e';refine h.inj k k' b' ?_ ?_ e e'
   ·rw [hob] at hl2;split at hl2
    ·rename_i e;subst e;exact hlive
    ·exact hl2
   ·rw [hob] at hl2';split at hl2'
    ·rename_i e;subst e;exact hlive
    ·exact hl2'
end
end
section
open Go.RowKit Go.Maps
section
variable {c:Ctx} {w0 w:World} {J:JJ} {s:FSt} {a:Act} {β:Nat→Option Nat} {dst:Option Nat} {ty:TypeId} {pos:String} {after:Array Edge} {g:Option (Nat×Bool)}
theorem FR.ext0 {s' : FSt} {N:Nat} (h:FR N w0 J s a w β) (hg:∀ k,s'.get k=s.get k) (ho:∀ k,s'.ob k=s.ob k):FR N w0 J s' a w β:=by
 refine h.step (C:=fun _=>False) h.size h.defers h.bel (fun b hb=>⟨⟨hb.1,hb.2.1,fun id hl=>hb.2.2 id (by rw [← ho];exact hl)⟩,rfl⟩) (fun k=>.inl ⟨rfl,hg k⟩) (fun id _=>⟨ho id,rfl,fun _ _ _=>rfl⟩) (fun _ h=>h.elim) (fun _ h=>h.elim) (fun _ h=>h.elim) ?_ (fun b _ hn=>⟨rfl,fun id hl=>hn id (by rw [← ho];exact hl)⟩);intro id id' b hl hl';rw [ho] at hl hl';exact h.inj id id' b hl hl'
theorem zfj {α:Type} (L:List α) (o:Nat):splice L o []=L:=by
 unfold splice;simp
theorem YM {α:Type}:∀ {es:List (List α)},(∀ e∈es,e.length=1)→es.flatten.length=es.length
 | [], _ => rfl
 | e :: es, h => by
  rw [List.flatten_cons,List.length_append,YM (fun q hq=>h q (by simp [hq])),h e zc];simp;omega
theorem Wj {α:Type} {es ds:List (List α)} (he:∀ e∈es,e.length=1) (hd:∀ e∈ds,e.length=1) (o:Nat):(splice es o ds).flatten=splice es.flatten o ds.flatten:=by
 unfold splice;rw [List.flatten_append,List.flatten_append,xL es he,xj es he,YM hd,Nat.mul_one,Nat.mul_one]
theorem zfT (h:FR c.N w0 J s a w β) {T T2 e:Nat} (hT:(c.ty T).k=.slice e) (he:(c.ty e).k≠.other) (hz:(c.ty e).size=1) (x y:Operand) {id ver o m:Nat} (ex:s.ev x=.own id ver o m) (hl:(s.ob id).life=.own) (hv:(s.ob id).ver=ver) (hsz:(s.ob id).sz=1)
  {f2:FV} {es2:List (List FV)} (ey:s.ev y=f2) (h2:Src s f2 1 es2) :
  yL c w0 J s a ⟨dst,.call { callee:=.builtin .copy,args:=#[x,y],argTypes:=#[T,T2] },ty,pos,after,g⟩ w (.int .i64 ((es2.take m).length:Nat)) [(id,{ s.ob id with es:=splice (s.ob id).es o (es2.take m) })]:=by
 have hlive:(s.ob id).life≠.dead:=by rw [hl];decide
 have hrl:(s.ob id).life.row=true:=by rw [hl];rfl
 obtain ⟨dd,ii,z,ht⟩:=c.get hT zc;have hd:=ht.k;rw [hT] at hd;obtain rfl:=yo hd;obtain ⟨d',i',z',ht'⟩:=c.get rfl he;have hsi:(c.P.info? e).map (·.size)=some 1:=by rw [ht'.info,← hz,← ht'.size];rfl
 obtain ⟨hw2,ho2,A2,c2,us2,hy,hc2,hr2,hA2,hcell2⟩:=h.src ey h2;obtain ⟨A,cc,e1,e2,e3,e4,e5⟩:=(h.ev_own ex hlive hv).ex;have hlen2:us2.length=es2.length:=by rw [hr2.1,YM hw2]
 have hmin:(es2.take m).length=Nat.min es2.length m:=by rw [List.length_take,Nat.min_comm]
 by_cases h0:es2.take m=[]
 ·have hn:Nat.min es2.length m=0:=by rw [← hmin,h0];rfl
  have hrun:=run_copy_none (P:=c.P) w T T2 ty e A A2 m cc es2.length c2 ht.u hsi hn;refine ⟨goInt 0,w,β,?_,?_,?_,fun _ _ hm=>(FV.no_hands rfl hm).elim⟩
  ·simp [execOp,resolve,invoke,builtin,e1,hy,hrun]
  ·refine h.ext0 (fun k=>FSt.wr_get _ _ _) (fun k=>?_);rw [h0,zfj];show (FSt.set s id _).ob k=_;rw [FSt.ob_set];split
   ·rename_i e;subst e;rfl
   ·rfl
  ·rw [h0];exact Rd.int _ _
 ·have hn0:0<(es2.take m).length:=by
   rcases Nat.eq_zero_or_pos (es2.take m).length with h'|h'
   ·exact absurd (List.eq_nil_of_length_eq_zero h') h0
   ·exact h'
  have hm0:0<m:=by rw [List.length_take] at hn0;omega
  obtain ⟨b,hb⟩:∃ b,β id=some b:=by
   cases hbb:β id with
   | none => obtain ⟨q1, q2⟩ := e4 hbb; omega
   | some b => exact ⟨b, rfl⟩
  obtain ⟨o',rfl,k2,k3⟩:=e5 b hb;have:=k2 (.inl zb);subst this;obtain ⟨ad,rfl⟩:∃ ad,A2=some ad:=by
   cases hA:A2 with
   | none => obtain ⟨_, q⟩ := hA2 hA; subst q; simp at hn0
   | some ad => exact ⟨ad, rfl⟩
  obtain ⟨cur,cap,hblk,hn,hm,hcs,hr,hrow⟩:=h.block hlive hrl hb;have hw:=((h.obj id hlive).rowR hrl).wide;have hone:=((h.obj id hlive).rowR hrl).one;rw [hsz] at hw hcs hr hrow e1;simp only [Nat.mul_one] at hcs hr hrow e1;generalize hes:(s.ob id).es=es at hn hr hrow hw hone e3;have hd1:∀ q∈es2.take m,q.length=1:=fun q hq=>hw2 q (List.mem_of_mem_take hq);have hcsl:(us2.take m).length=(es2.take m).length:=by rw [List.length_take,List.length_take,hlen2]
  have hfl:(es2.take m).flatten=es2.flatten.take m:=by rw [xL es2 hw2,Nat.mul_one]
  have hr3:RdL w (Imm J w β s) (us2.take m) (es2.take m).flatten:=by rw [hfl];exact hr2.take m
  have hsub:∀ f∈(es2.take m).flatten,f∈es2.flatten:=fun f hf=>by rw [hfl] at hf;exact List.mem_of_mem_take hf
  have h1u:∀ u∈us2.take m,u.oneCell'=true:=fun u hu=>by
   obtain ⟨j,hj,rfl⟩:=List.getElem_of_mem hu;have hj2:j<(es2.take m).flatten.length:=by rw [← hr3.1];exact hj
   exact (hr3.2 j _ (es2.take m).flatten[j] (by simp only [List.getElem?_eq_getElem hj]) (by simp only [List.getElem?_eq_getElem hj2])).oneCell (ho2 _ (hsub _ (List.getElem_mem hj2)))
  have hle:(es2.take m).length≤m:=by rw [List.length_take];omega
  have hfit:o+(us2.take m).length≤cur.size:=by rw [hcsl,hcs];omega
  have hrun:=run_copy_row (P:=c.P) w T T2 ty e b o m cc ad es2.length c2 cur (s.ob id).E (us2.take m) ht.u hsi hblk (by rw [hcsl,hmin]) (fun j u hu=>hcell2 ad rfl j u (by rw [List.getElem?_take] at hu;split at hu;exact hu;cases hu)) hfit h1u;obtain ⟨W,hW⟩:∃ W,W=w.setRow b (splice cur.toList o (us2.take m)).toArray:=⟨_,rfl⟩
  have hWb:W.heap[b]? = some (.cells (splice cur.toList o (us2.take m)).toArray (s.ob id).E (0,0)):=by rw [hW];exact yp w b _ cur _ hblk
  have hgrown:w.grownBy W (β id):=by
   subst hW;refine ⟨rfl,rfl,rfl,by simp [World.setRow],fun k hk hne=>yx w b k _ (fun e=>hne (by rw [e,hb]))⟩
  have hcl:cur.toList.length=cap:=by simpa using hcs
  have htl:(cur.toList.take es.length).length=es.length:=by rw [List.length_take,hcl];omega
  have hslen:(splice es o (es2.take m)).length=es.length:=yt zb;have hrow' : W.ownsRow w0.heap.size (s.ob id).E 1 (.slice (some ⟨b,0,none⟩) es.length cap) (splice es o (es2.take m)).length (splice (cur.toList.take es.length) o (us2.take m)):=by
   rw [hslen];refine ⟨?_,.inr ⟨b,cap,_,rfl,((h.obj id hlive).lt hb).1,hWb,hn,hm,?_,?_⟩⟩
   ·rw [yt zb,htl,Nat.mul_one]
   ·simp only [List.size_toArray];rw [yt zb,hcl,Nat.mul_one]
   ·rw [Nat.mul_one];have key:∀ (L p:Nat) (cs ds:List Value),p+ds.length≤L→L≤cs.length→(splice cs p ds).take L=splice (cs.take L) p ds:=by
     intro L p cs ds h1 h2;unfold splice;rw [List.append_assoc,List.append_assoc,List.take_append,List.length_take,Nat.min_eq_left zb,List.take_append,List.take_take,List.take_take,Nat.min_eq_right zb,Nat.min_eq_left zb,List.take_of_length_le (by omega:ds.length≤L - p),List.drop_take];congr 3;omega
    exact key _ _ _ _ zb zb
  refine ⟨goInt (us2.take m).length,W,β,?_,?_,?_,fun _ _ hm=>(FV.no_hands rfl hm).elim⟩
  ·have hrun' : (Builtin.copy_ #[T,T2] ty #[.slice (some ⟨b,o,none⟩) m cc,.slice (some ad) es2.length c2]).run c.P w=.ok (goInt (us2.take m).length) W:=by rw [hW];exact hrun
   obtain ⟨V,hV⟩:∃ V,V=goInt ((us2.take m).length:Nat):=⟨_,rfl⟩
   rw [← hV] at hrun' ⊢;simp [execOp,resolve,invoke,builtin,e1,hy,hrun']
  ·refine h.write id (es:=splice es o (es2.take m)) (v:=.slice (some ⟨b,0,none⟩) es.length cap) (xs:=splice (cur.toList.take es.length) o (us2.take m)) hl hgrown ?_ ?_ ?_ hb.symm ?_ ?_ ?_ (fun k=>?_) (fun k=>FSt.wr_get _ _ _)
   ·rw [hsz];intro q hq;rcases Zm hq with hq|hq
    ·exact hw q hq
    ·exact hd1 q hq
   ·intro f hf;obtain ⟨q,hq,hfq⟩:=List.mem_flatten.1 hf;rcases Zm hq with hq|hq
    ·exact hone f (List.mem_flatten.2 ⟨q,hq,hfq⟩)
    ·exact ho2 f (List.mem_flatten.2 ⟨q,List.mem_of_mem_take hq,hfq⟩)
   ·rw [hsz];exact hrow'
   ·rw [Wj hw hd1];exact hr.splice hr3 _
   ·rw [hes,hslen]
   ·intro b' cur1 cur2 hb' h1 h2;rw [hb] at hb';injection hb' with hb'
    subst hb';rw [hblk] at h1;injection h1 with h1
    injection h1 with h1 _ _
    subst h1;rw [hWb] at h2;injection h2 with h2
    injection h2 with h2 _ _
    rw [← h2];simp only [List.size_toArray];rw [yt zb,hcl,hcs]
   ·rw [← hes];exact FSt.ob_set s id _ k
  ·rw [← hcsl];exact Rd.int _ _
def xl (P:Program) (T:Nat):Bool:=
 match P.underlying T with
 | some (.interface _) => true
 | _ => false
theorem VV {T:Nat} (hk:(c.ty T).k≠.other) (hni:xl c.P T=false) (x:Operand):(execOp a.eval ⟨dst,.makeInterface T x,ty,pos,after,g⟩).run c.P w=.ok (.value (.iface T (a.eval x))) w:=by
 obtain ⟨d,i,z,ht⟩:=c.get rfl hk;unfold xl at hni;rw [ht.u] at hni;cases d <;> first|(cases hni;done)|(simp [execOp,Instr.makeInterface,run_underlying ht.u];done)
theorem zbC (h:FR c.N w0 J s a w β) {T:Nat} (hk:(c.ty T).k≠.other) (hni:xl c.P T=false) (x:Operand) {f:FV} (ex:s.ev x=f) (hn:f.hand=none) :
  yL c w0 J s a ⟨dst,.makeInterface T x,ty,pos,after,g⟩ w (.iface T f) []:=
 .rd h (v:=.iface T (a.eval x)) (VV hk hni x) (.iface T _ _ (h.ev_rd ex hn)) rfl
def FV.notWrap:FV→Bool
 | .wrap _ _ => false
 | _ => true
theorem FV.notWrap_ne {f:FV} (h:f.notWrap=true):∀ k fs,f≠.wrap k fs:=by rintro k fs rfl;cases h
theorem zev {k:Wk} {fs:List FV} {id ver:Nat} (h:(id,ver)∈(FV.wrap k fs).hands):∃ f∈fs,f.hand=some (id,ver):=List.mem_filterMap.1 h
theorem Vk (h:FR c.N w0 J s a w β) {k:Wk} {xs:List Operand} {fs:List FV} (hx:xs.map s.ev=fs) (hn:fs.all FV.notWrap=true) {o:Oper} (hr:(execOp a.eval o).run c.P w=.ok (.value (k.mk (xs.map a.eval))) w):yL c w0 J s a o w (.wrap k fs) []:=by
 subst hx;refine .pure h hr ⟨xs.map a.eval,rfl,by simp,fun j u f hu hf=>?_⟩ fun id ver hm=>?_
 ·rw [List.getElem?_map] at hu hf;cases hj:xs[j]? with
  | none => rw [hj] at hu; cases hu
  | some x =>
   rw [hj] at hu hf;injection hu with hu;injection hf with hf
   subst hu;subst hf;have hm:s.ev x∈xs.map s.ev:=List.mem_map.2 ⟨x,List.mem_of_getElem? hj,rfl⟩;exact (h.ev x).to1 (FV.notWrap_ne (List.all_eq_true.1 hn _ hm))
 ·obtain ⟨f,hf,e⟩:=zev hm;obtain ⟨x,hxm,rfl⟩:=List.mem_map.1 hf;refine h.evers x ?_;have hw:=List.all_eq_true.1 hn _ hf;generalize s.ev x=q at e hw;cases q with
  | own|ptr|omap => injection e with e; rw [← e]; exact List.mem_singleton.2 rfl
  | wrap => cases hw
  | _ => cases e
theorem zax (h:FR c.N w0 J s a w β) {T:Nat} (hk:(c.ty T).k≠.other) (hni:xl c.P T=false) (x:Operand) {f:FV} (ex:s.ev x=f) (hn:f.notWrap=true) :
  yL c w0 J s a ⟨dst,.makeInterface T x,ty,pos,after,g⟩ w (.wrap (.ifc T) [f]) []:=
 Vk h (k:=.ifc T) (xs:=[x]) (by simp [ex]) (by simpa using hn) (VV hk hni x)
theorem zbA (h:FR c.N w0 J s a w β) {f:Nat} {xs:Array Operand} {caps:List FV} (hx:xs.toList.map s.ev=caps) (hn:caps.all FV.notWrap=true) :
  yL c w0 J s a ⟨dst,.makeFunc (.func f) #[] xs,ty,pos,after,g⟩ w (.wrap (.fn f) caps) []:=by
 refine Vk h (k:=.fn f) (xs:=xs.toList) hx hn ?_;have:(xs.toList.map a.eval).toArray=xs.map a.eval:=by apply Array.ext';simp
 simp [execOp,Instr.makeFunc,Wk.mk,this]
theorem zem (h:FR c.N w0 J s a w β) {f:Nat} {xs:Array Operand} {caps:List FV} (hx:xs.toList.map s.ev=caps) (hn:caps.all FV.notWrap=true) :
  yL c w0 J s a ⟨dst,.makeFunc (.func f) xs #[],ty,pos,after,g⟩ w (.wrap (.bound f) caps) []:=by
 refine Vk h (k:=.bound f) (xs:=xs.toList) hx hn ?_;have:(xs.toList.map a.eval).toArray=xs.map a.eval:=by apply Array.ext';simp
 simp [execOp,Instr.makeFunc,Wk.mk,this]
theorem zbE (h:FR c.N w0 J s a w β) {T T2:Nat} (hk:(c.ty T).k≠.other) (hni:xl c.P T=false) (x:Operand) {f:FV} (ex:s.ev x=.iface T f) (hn:f.hand=none) :
  yL c w0 J s a ⟨dst,.typeAssert x T2 T false,ty,pos,after,g⟩ w f []:=by
 have hr:=h.ev_rd ex rfl;generalize hx:a.eval x=v at hr;cases hr with
 | iface t v f hr =>
  refine .rd h (v:=v) ?_ hr hn;obtain ⟨d,i,z,ht⟩:=c.get rfl hk;unfold xl at hni;rw [ht.u] at hni;cases d <;> first|(cases hni;done)|(simp [execOp,Instr.typeAssert,run_underlying ht.u,hx];done)
inductive zcv (s:FSt):FV→Bool→Prop where
 | nil:zcv s .nil true
 | own (id ver o n:Nat) (hl:s.live id ver) (hn:0<n):zcv s (.own id ver o n) false
 | list (sz:Nat) (es:List (List FV)) (hn:es ≠ []):zcv s (.list sz es) false
theorem FR.nilIs (h:FR c.N w0 J s a w β) {x:Operand} {f:FV} {b:Bool} (ex:s.ev x=f) (hb:zcv s f b):∃ A n cc,a.eval x=.slice A n cc∧A.isNone=b:=by
 cases hb with
 | nil => exact ⟨none, 0, 0, h.ev_nil ex, rfl⟩
 | own id ver o n hl hn =>
  obtain ⟨A,cc,e1,e2,e3,e4,e5⟩:=(h.ev_own ex hl.1 hl.2).ex;refine ⟨A,n,cc,e1,?_⟩;cases hb:β id with
  | none => obtain ⟨_, q⟩ := e4 hb; omega
  | some b => obtain ⟨o', rfl, _⟩ := e5 b hb; rfl
 | list sz es hn=>
  have hr:=h.ev_rd ex rfl;generalize hx:a.eval x=v at hr;cases hr with
  | list A m cc sz es us hm hc hw ho hA hl hrr =>
   refine ⟨A,m,cc,rfl,?_⟩;obtain ⟨b,off,rfl,_⟩:=hA (fun e=>hn (List.eq_nil_of_length_eq_zero zb));rfl
theorem zeq (h:FR c.N w0 J s a w β) (op:BinOp) {T T2 e:Nat} (hT:(c.ty T).k=.slice e) (x y:Operand) {f:FV} {b:Bool} (ex:s.ev x=f) (hb:zcv s f b) (ey:s.ev y=.nil) (hop:op=.eql∨op=.neq) :
  yL c w0 J s a ⟨dst,.binOp op T x y T2,ty,pos,after,g⟩ w (.bool (if op=.eql then b else !b)) []:=by
 obtain ⟨dd,ii,z,ht⟩:=c.get hT zc;have hd:=ht.k;rw [hT] at hd;obtain rfl:=yo hd;obtain ⟨A,n,cc,e1,rfl⟩:=h.nilIs ex hb;have e2:=h.ev_nil ey;have heq:(Op.equalIn Op.maxDepth T (.slice A n cc) (.slice none 0 0)).run c.P w=.ok A.isNone w:=by
  show (Op.equalIn (9999+1) T (.slice A n cc) (.slice none 0 0)).run c.P w=_;unfold Op.equalIn;cases A <;> simp [run_underlying ht.u]
 refine .rd h (v:=.bool (if op=.eql then A.isNone else !A.isNone)) ?_ (.bool _) rfl;rcases hop with rfl|rfl
 ·simp [execOp,e1,e2,eqGuard,binOp,Op.equal,heq]
 ·simp [execOp,e1,e2,eqGuard,binOp,Op.equal,heq]
end
def zd5 (P:Program) (T:Nat) (X Y:List FV) (b:Bool):Prop:=P.eqGuardType P.depth T=false∧∀ w:World,(Op.equalIn 10000 T (.agg (X.map FV.val1).toArray) (.agg (Y.map FV.val1).toArray)).run P w=.ok b w
theorem zep {c:Ctx} {w0 w:World} {J:JJ} {s:FSt} {a:Act} {β:Nat→Option Nat} {dst:Option Nat} {ty:TypeId} {pos:String} {after:Array Edge} {g:Option (Nat×Bool)} (h:FR c.N w0 J s a w β) (op:BinOp) {T T2:TypeId} (x y:Operand) {X Y:List FV} {b:Bool} (ex:s.ev x=.agg X) (hX:X.all FV.simple1=true) (ey:s.ev y=.agg Y) (hY:Y.all FV.simple1=true) (hl:zd5 c.P T X Y b) (hop:op=.eql∨op=.neq) :
  yL c w0 J s a ⟨dst,.binOp op T x y T2,ty,pos,after,g⟩ w (.bool (if op=.eql then b else !b)) []:=by
 have e1:a.eval x=.agg (X.map FV.val1).toArray:=(h.ev_rd ex rfl).simple_val hX;have e2:a.eval y=.agg (Y.map FV.val1).toArray:=(h.ev_rd ey rfl).simple_val hY;obtain ⟨h1,h2⟩:=hl;have h3:=fun op=>run_eqGuard_agg (P:=c.P) (w:=w) op T x y (X.map FV.val1).toArray (Y.map FV.val1).toArray h1;rcases hop with rfl|rfl
 ·refine .rd h (v:=.bool b) ?_ (.bool _) rfl;simp only [execOp,e1,e2,Sem.run_bind,h3,Result.andThen_ok,run_eql_struct,h2,Sem.run_pure]
 ·refine .rd h (v:=.bool (!b)) ?_ (.bool _) rfl;simp only [execOp,e1,e2,Sem.run_bind,h3,Result.andThen_ok,run_neq_struct,h2,Sem.run_pure]
end
end Go.Proofs.Ytlnehfplfoikaaa
