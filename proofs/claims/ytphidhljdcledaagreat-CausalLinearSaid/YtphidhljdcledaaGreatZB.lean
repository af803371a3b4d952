/-
  Lemmas, in parts.
-/
import Derived.Test.YtphidhljdcledaaGreatZA
import Derived.ArgAppend
import Derived.Laws.CopyRow
import Derived.Laws.IdiomCopy
import Derived.Laws.StructEq
import Derived.Orders
import Derived.Deep.LoopGhost
import Derived.RangeFuncRecord
import Derived.OrdersIn
import Derived.TacticsIn
import Derived.RangeFuncCalls
namespace Go.Proofs.YtphidhljdcledaaGreat
set_option linter.unusedVariables false
set_option maxHeartbeats 16000000
variable {w:World} {I:Nat→Prop} {v:Value} {N T clock d i j l ae:Nat} {k ty:TypeId} {b bb found:Bool} {aw:Array MapEntry} {x y:Operand} {α:Type} {xs:Array Operand} {c:Ctx} {J:JJ} {a:Act} {β:Nat→Option Nat} {dst:Option Nat} {pos:String} {after:Array Edge} {g:Option (Nat×Bool)} {K:Act→World→Prop} {op:Op} {Q:Exit→Act→World→Prop} {lo:Option Operand}
section
open Go.RowKit Go.Maps Go.MapKept Go.ChangeMaps
theorem Rd.dh {f:FV} (h:Rd w I v f) (hf:f.simple=true):v=f.val:=by
 have one:∀ {u:Value} {g:FV},Rd w I u g→g.aW=true→u=g.dU:=by
  intro u g hu hg;cases hu <;> first|rfl|(simp [FV.aW] at hg)
 cases h with
 | agg us fs hl hr=>
  show Value.agg us.toArray=Value.agg (fs.map FV.dU).toArray;congr 2;refine Lh fun j=>?_;rw [ye];rcases yg j us.length with hj|hj
  ·have gT:j<fs.length:=by rw [← hl];exact hj
   have e1:us[j]? = some us[j]:=by simp [hj]
   have e2:fs[j]? = some fs[j]:=by simp [gT]
   rw [e1,e2,Za];congr 1;exact one (hr j _ _ e1 e2) (zL.1 hf _ (xH gT))
  ·have gT:fs.length≤j:=by rw [← hl];exact hj
   simp [hj,gT]
 | int k n => rfl
 | bool b => rfl
 | str s => rfl
 | _ => simp [FV.simple, FV.aW] at hf
theorem LG {f g:FV} (hf:f.aW=true) (hg:g.aW=true) (h:f.dU=g.dU):f=g:=by
 cases f <;> simp [FV.aW] at hf <;> cases g <;> simp [FV.aW] at hg <;> simp [FV.dU] at h <;> first|(obtain ⟨rfl,rfl⟩:=h;rfl)|(subst h;rfl)
theorem X5:∀ {fs gs:List FV},fs.all FV.aW=true→gs.all FV.aW=true→fs.map FV.dU=gs.map FV.dU→fs=gs
 | [], [], _, _, _ => rfl
 | [], _ :: _, _, _, h => by simp at h
 | _ :: _, [], _, _, h => by simp at h
 | f :: fs, g :: gs, hf, hg, h => by
  simp only [Lg,zx] at hf hg;simp only [zZ,List.cons.injEq] at h;rw [LG hf.1 hg.1 h.1,X5 hf.2 hg.2 h.2]
theorem zwA {f g:FV} (hf:f.simple=true) (hg:g.simple=true) (h:f.val=g.val):f=g:=by
 cases f with
 | agg cs=>
  cases g with
  | agg ds =>
   have:(cs.map FV.dU).toArray=(ds.map FV.dU).toArray:=by simpa [FV.val] using h
   rw [X5 hf hg (by simpa using congrArg Array.toList this)]
  | _ => first|(simp [FV.simple, FV.aW] at hg; done)|(simp [FV.val, FV.dU] at h)
 | int k n =>
  cases g <;> first|(simp [FV.simple,FV.aW] at hg;done)|(simp [FV.val,FV.dU] at h;done)|exact LG hf hg h
 | bool b =>
  cases g <;> first|(simp [FV.simple,FV.aW] at hg;done)|(simp [FV.val,FV.dU] at h;done)|exact LG hf hg h
 | str b =>
  cases g <;> first|(simp [FV.simple,FV.aW] at hg;done)|(simp [FV.val,FV.dU] at h;done)|exact LG hf hg h
 | _ => simp [FV.simple, FV.aW] at hf
def XH (P:Program) (k:TypeId) (kf:FV):Prop:=kf.simple=true∧∃ l,keyOf P k kf.val=some l
def TS.mZ (ts:TS):FV:=
 match ts.k.bD with
 | some true => .agg ts.zero
 | _ => ts.zero.headD .undef
def lK (es:List (List FV)) (kf z:FV) (vf:FV) (b:Bool):Prop:=(b=true∧[kf,vf]∈es)∨(b=false∧vf=z∧∀ row∈es,row.head?≠some kf)
def qg (es:List (List FV)) (kf vf:FV) (ba : List (List FV)):Prop:=
 (∃ (j:Nat) (v0:FV),es[j]? = some [kf,v0]∧ba=es.set j [kf,vf])∨((∀ row∈es,row.head?≠some kf)∧ba=es++[[kf,vf]])
structure Mp (w:World) (I:Nat→Prop) (b clock:Nat) (aw:Array MapEntry) (es:List (List FV)):Prop where
 hb:w.heap[b]? = some (.map aw clock)
 st:Stamped aw clock
 sz:aw.size=es.length
 ks:∀ (j:Nat) e row,aw[j]? = some e→es[j]? = some row→∃ kf vf,row=[kf,vf]∧kf.simple=true∧e.key=kf.val
 vs:∀ (j:Nat) e row f,aw[j]? = some e→es[j]? = some row→row[1]? = some f→Rd w I e.val f
section
variable {w:World} {I:Nat→Prop} {b clock:Nat} {aw:Array MapEntry} {es:List (List FV)} {P:Program}
theorem Mp.row (h:Mp w I b clock aw es) {e:MapEntry} (he:aw[j]? = some e):∃ kf vf,es[j]? = some [kf,vf]∧kf.simple=true∧e.key=kf.val∧Rd w I e.val vf:=by
 have hj:j<es.length:=by rw [← h.sz];exact (YL.1 he).1
 have hr:es[j]? = some es[j]:=by simp [hj]
 obtain ⟨kf,vf,e1,e2,e3⟩:=h.ks j e _ he hr;refine ⟨kf,vf,by rw [hr,e1],e2,e3,h.vs j e _ vf he hr (by rw [e1];rfl)⟩
theorem Mp.SS (h:Mp w I b clock aw es) {row:List FV} (hr:es[j]? = some row):∃ e,aw[j]? = some e:=by
 have hj:j<aw.size:=by rw [h.sz];exact (yq.1 hr).1
 exact ⟨aw[j],by simp [hj]⟩
theorem Mp.keys (h:Mp w I b clock aw es) (hk:∀ row∈es,∀ kf,row.head? = some kf→XH P k kf):∀ e∈aw.toList,∃ l,keyOf P k e.key=some l:=fun e he=>by
 obtain ⟨j,hj⟩:=B4 he;have dT : aw[j]? = some e:=by simpa using hj
 obtain ⟨kf,vf,e1,_,e3,_⟩:=h.row dT;obtain ⟨_,l,hl⟩:=hk _ (zG e1) kf rfl;exact ⟨l,by rw [e3];exact hl⟩
theorem Mp.find (h:Mp w I b clock aw es) (K:Keyed P k) (hk:∀ row∈es,∀ kf,row.head? = some kf→XH P k kf) {kf:FV} (cG:XH P k kf) :
  ((Instr.findKey k kf.val aw.toList).run P w=.ok none w∧(∀ e∈aw.toList,e.key≠kf.val)∧∀ row∈es,row.head?≠some kf)∨
  ∃ (j:Nat) (e:MapEntry) (vf:FV),(Instr.findKey k kf.val aw.toList).run P w=.ok (some (j,e.val)) w∧aw[j]? = some e∧e.key=kf.val∧es[j]? = some [kf,vf]∧Rd w I e.val vf∧∀ i v,es[i]? = some [kf,v]→i=j:=by
 obtain ⟨hs,l,hl⟩:=cG;rcases K.find w hl aw.toList (h.keys hk) with ⟨h1,h2⟩|⟨j,e0,h1,h2,h3⟩
 ·refine .inl ⟨h1,h2,fun row hr hh=>?_⟩;obtain ⟨j,hj⟩:=B4 hr;obtain ⟨e,he⟩:=h.SS hj;obtain ⟨J3,vf,e1,_,e3,_⟩:=h.row he;rw [hj] at e1;injection e1 with e1
  subst e1;injection hh with hh
  subst hh;exact h2 e (zG (by simpa using he)) e3
 ·have eG : aw[j]? = some e0:=by simpa using h2
  obtain ⟨J3,vf,e1,e2,e3,e4⟩:=h.row eG;have:J3=kf:=zwA e2 hs (by rw [← e3,h3]);subst this;refine .inr ⟨j,e0,vf,h1,eG,h3,e1,e4,fun i v hi=>?_⟩;obtain ⟨e,he⟩:=h.SS hi;obtain ⟨kf'',Hm,q1,_,q3,_⟩:=h.row he;rw [hi] at q1;injection q1 with q1
  injection q1 with q1 _
  subst q1;have hd:=((stamped_iff aw clock).1 h.st).2.2;have eZ:i<aw.toList.length:=by have:=(YL.1 he).1;simpa using this
  have cN:j<aw.toList.length:=by have:=(YL.1 eG).1;simpa using this
  have ei:aw.toList[i].key=J3.val:=by have:=(YL.1 he).2;simp only [Array.getElem_toList];rw [this,q3]
  have ej:aw.toList[j].key=J3.val:=by have:=(YL.1 eG).2;simp only [Array.getElem_toList];rw [this,h3]
  rcases Yw i j with aA|heq|Bc
  ·exact absurd (ei.trans ej.symm) (Zw.1 hd i j eZ cN aA)
  ·exact heq
  ·exact absurd (ej.trans ei.symm) (Zw.1 hd j i cN eZ Bc)
end
section
variable {c:Ctx} {w0 w:World} {J:JJ} {s:ah} {a:Act} {β:Nat→Option Nat} {dst:Option Nat} {ty:TypeId} {pos:String} {after:Array Edge} {g:Option (Nat×Bool)}
theorem QT {c:Ctx} (hk:(c.ty T).k.bD = some bb) (w:World) (I:Nat→Prop):∃ z,(zeroValue T).run c.P w=.ok z w∧Rd w I z (c.ty T).mZ:=by
 obtain ⟨d,i,z,h⟩:=c.get rfl (Sa hk);refine ⟨z,by simp [zeroValue,typeInfo,h.info,h.zo],?_⟩;have hz:=aS.zeros (w:=w) (I:=I) h.zr;have Dp:=h.zk;unfold Su at Dp;unfold TS.mZ;rw [hk] at Dp ⊢;cases bb with
 | true =>
  dsimp only at Dp ⊢;cases z <;> simp at Dp
  rename_i cs;have:=Rd.agg (w:=w) (I:=I) cs.toList (c.ty T).zero hz.1 hz.2;simpa using this
 | false=>
  dsimp only at Dp ⊢;have hc:z.cells.toList=[z]:=by
   cases z <;> first|rfl|(simp at Dp)
  rw [hc] at hz;cases U9:(c.ty T).zero with
  | nil => rw [U9] at hz; have := hz.1; simp at this
  | cons f fs => rw [U9] at hz; exact hz.2 0 z f rfl rfl
theorem ztn {k e:Nat} (hT:(c.ty T).k=.map k e) (he:(c.ty e).k.bD = some bb) (K:Keyed c.P k) {b:Nat} {es:List (List FV)} (h:Mp w I b clock aw es)
  (hk:∀ row∈es,∀ kf,row.head? = some kf→XH c.P k kf) {kf:FV} (cG:XH c.P k kf) (ok:Bool) {vf:FV} (hl:lK es kf (c.ty e).mZ vf found) :
  ∃ v,(Instr.lookup T (.map (some b)) kf.val ok).run c.P w=.ok v w∧Rd w I v (if ok then .bd [vf,.bool found] else vf):=by
 obtain ⟨d,ii,z,ht⟩:=c.get hT zc;have hd:=ht.k;rw [hT] at hd;obtain rfl:=Ca hd;obtain ⟨l,fS⟩:=cG.2;obtain ⟨zv,hz,pQ⟩:=QT he w I;rcases h.find K hk cG with ⟨h1,_,h2⟩|⟨j,e0,Hm,h1,h2,h3,h4,h5,h6⟩
 ·have hv:vf=(c.ty e).mZ∧found=false:=by
   rcases hl with ⟨_,hm⟩|⟨hb,hv,_⟩
   ·exact absurd rfl (h2 _ hm)
   ·exact ⟨hv,hb⟩
  obtain ⟨rfl,rfl⟩:=hv;cases ok
  ·exact ⟨zv,by simp [Instr.lookup,run_underlying ht.u,Zx h.hb,K.check w _ fS,h1,hz,Result.andThen],pQ⟩
  ·refine ⟨.tuple #[zv,.bool false],by simp [Instr.lookup,run_underlying ht.u,Zx h.hb,K.check w _ fS,h1,hz,Result.andThen],?_⟩;have:=aS.cons pQ (aS.cons (Rd.bool (w:=w) (I:=I) false) aS.nil);exact .bd [zv,.bool false] _ this.1 this.2
 ·have hv:vf=Hm∧found=true:=by
   rcases hl with ⟨hb,hm⟩|⟨_,_,hm⟩
   ·obtain ⟨i,hi⟩:=B4 hm;have:=h6 i vf hi;subst this;rw [h4] at hi;simp at hi;exact ⟨hi.symm,hb⟩
   ·exact absurd rfl (hm _ (zG h4))
  obtain ⟨rfl,rfl⟩:=hv;cases ok
  ·exact ⟨e0.val,by simp [Instr.lookup,run_underlying ht.u,Zx h.hb,K.check w _ fS,h1,Result.andThen],h5⟩
  ·refine ⟨.tuple #[e0.val,.bool true],by simp [Instr.lookup,run_underlying ht.u,Zx h.hb,K.check w _ fS,h1,Result.andThen],?_⟩;have:=aS.cons h5 (aS.cons (Rd.bool (w:=w) (I:=I) true) aS.nil);exact .bd [e0.val,.bool true] _ this.1 this.2
theorem FR.mp (h:FR c.N w0 J s a w β) {id:Nat} (ex:s.ev x=.omap id ae) (hl:s.live id ae) (hm:(s.ob id).ao≠.bh):∃ b clock aw,a.eval x=.map (some b)∧β id=some b∧Mp w (aF J w β s) b clock aw (s.ob id).es:=by
 obtain ⟨aj,b,hb,hv⟩:=h.iR ex hl.1 hl.2;obtain ⟨b',clock,aw,h1,h2,h3,h4,h5,h6,h7⟩:=((h.obj id hl.1).jZ aj hm).ex;rw [hb] at h1;injection h1 with h1
 subst h1;exact ⟨b,clock,aw,hv,hb,h3,h4,h5,h6,h7⟩
theorem FR.Pe (h:FR c.N w0 J s a w β) {es:List (List FV)} (ex:s.ev x=.smap es):∃ b clock aw,a.eval x=.map (some b)∧Mp w (aF J w β s) b clock aw es:=by
 have hr:=h.bY ex rfl;generalize a.eval x=v at hr;cases hr with
 | smap b clock aw es hI hb aO hl hk hr => exact ⟨b, clock, aw, rfl, hb, aO, hl, hk, hr⟩
theorem zrZ (h:FR c.N w0 J s a w β) {k e:Nat} (hT:(c.ty T).k=.map k e) (he:(c.ty e).k.bD = some bb) (K:Keyed c.P k) (x y:Operand) (ok:Bool) {es:List (List FV)}
  (ex:(∃ id ae,s.ev x=.omap id ae∧(s.live id ae∧(s.ob id).ao≠.bh)∧(s.ob id).es=es)∨s.ev x=.smap es) {kf:FV} (ey:s.ev y=kf) (hk:∀ row∈es,∀ kf,row.head? = some kf→XH c.P k kf) (cG:XH c.P k kf)
  {vf:FV} (hl:lK es kf (c.ty e).mZ vf found) (hn:vf.hand=none) :
  ZO c w0 J s a ⟨dst,.lookup T x y ok,ty,pos,after,g⟩ w (if ok then .bd [vf,.bool found] else vf) []:=by
 obtain ⟨b,clock,aw,hx,hm⟩:∃ b clock aw,a.eval x=.map (some b)∧Mp w (aF J w β s) b clock aw es:=by
  rcases ex with ⟨id,ae,e1,e2,rfl⟩|e1
  ·obtain ⟨b,clock,aw,h1,_,h2⟩:=h.mp e1 e2.1 e2.2;exact ⟨b,clock,aw,h1,h2⟩
  ·exact h.Pe e1
 have hy:a.eval y=kf.val:=(h.bY ey (by have:=cG.1;cases kf <;> first|rfl|(simp [FV.simple,FV.aW] at this))).dh cG.1;obtain ⟨v,h1,h2⟩:=ztn (w:=w) hT he K hm hk cG ok hl;refine .rd h (v:=v) (by simp [execOp,hx,hy,h1]) h2 ?_;cases ok
 ·exact hn
 ·rfl
theorem FR.BM (h:FR c.N w0 J s a w β) (d T:Nat):FR c.N w0 J (s.set d ⟨(s.ob d).ae+1,.aC,T,0,[]⟩) a (w.alloc (.map #[] 0)) (WX β d (some w.heap.size)):=by
 have hb:=Vj w (.map #[] 0);have hI:∀ b,aF J w β s b→aF J (w.alloc (.map #[] 0)) (WX β d (some w.heap.size)) (s.set d ⟨(s.ob d).ae+1,.aC,T,0,[]⟩) b∧(w.alloc (.map #[] 0)).heap[b]? = w.heap[b]?:=fun b aU=>by
  refine ⟨⟨xx aU.1 hb.size,aU.2.1,fun id hl=>?_⟩,hb.block b aU.1⟩;rw [ah.ay] at hl;unfold WX;split at hl
  ·rename_i hh;rw [if_pos hh.symm];intro e;injection e with e;have:=aU.1;omega
  ·rename_i hh;rw [if_neg (fun e=>hh e.symm)];exact aU.2.2 id hl
 refine h.step (C:=fun id=>id=d) h.size h.defers (h.bB.trans (hb.mono h.bB.size)) hI (fun k=>.inl ⟨rfl,rfl⟩) (fun id hC=>?_) (fun id hC=>?_) (fun id hC hl eu=>?_) (fun id hC hl _=>?_) ?_ ?_
 ·refine ⟨by rw [ah.ay,if_neg (fun e=>hC e.symm)],by unfold WX;rw [if_neg hC],fun hl b aU=>hb.block b ((h.obj id hl).lt aU).2⟩
 ·subst hC;rw [ah.ay,if_pos rfl];exact Us _
 ·subst hC;rw [ah.ay,if_pos rfl] at eu;simp at eu
 ·subst hC;rw [ah.ay,if_pos rfl,yM];exact .ofMap ⟨w.heap.size,0,#[],rfl,h.bB.size,heap_alloc_new w _,stamped_empty _,rfl,by simp,by simp⟩ rfl (fun e=>by cases e)
 ·intro id aL b hl bn e e';rw [ah.ay] at hl bn;unfold WX at e e';by_cases h1:id=d
  ·by_cases h2:aL=d
   ·rw [h1,h2]
   ·rw [if_pos h1] at e;rw [if_neg h2] at e';rw [if_neg (fun e=>h2 e.symm)] at bn;injection e with e;have:=((h.obj aL bn).lt e').2;omega
  ·by_cases h2:aL=d
   ·rw [if_neg h1] at e;rw [if_pos h2] at e';rw [if_neg (fun e=>h1 e.symm)] at hl;injection e' with e';have:=((h.obj id hl).lt e).2;omega
   ·rw [if_neg h1] at e;rw [if_neg h2] at e';rw [if_neg (fun e=>h1 e.symm)] at hl;rw [if_neg (fun e=>h2 e.symm)] at bn;exact h.inj id aL b hl bn e e'
 ·intro b aA hn;refine ⟨hb.block b aA,fun id hl e=>?_⟩;rw [ah.ay] at hl;unfold WX at e;by_cases h1:id=d
  ·rw [if_pos h1] at e;injection e with e;omega
  ·rw [if_neg h1] at e;rw [if_neg (fun e=>h1 e.symm)] at hl;exact hn id hl e
theorem zlo (h:FR c.N w0 J s a w β) (d T:Nat):ZO c w0 J s a ⟨some d,.makeMap T none,ty,pos,after,g⟩ w (.omap d ((s.ob d).ae+1)) [(d,⟨(s.ob d).ae+1,.aC,T,0,[]⟩)]:=by
 have aR:(s.wr [(d,(⟨(s.ob d).ae+1,.aC,T,0,[]⟩:zE))]).ob d=⟨(s.ob d).ae+1,.aC,T,0,[]⟩:=(ah.ay s d _ d).trans (if_pos rfl);refine ⟨.map (some w.heap.size),w.alloc (.map #[] 0),WX β d (some w.heap.size),?_,h.BM d T,fun _ _=>⟨by rw [aR];rfl,w.heap.size,yM _ _ _,rfl⟩,fun id ae e=>?_⟩
 ·have:=run_makeMap (P:=c.P) T w;simp [execOp,this]
 ·simp only [FV.hands,zq,xf] at e;obtain ⟨e1,e2⟩:=e;replace e1:=e1.symm;replace e2:=e2.symm;subst e1;subst e2;rw [aR];exact zg _
theorem FR.ct (h:FR c.N w0 J s a w β) {id b cA : Nat} {cB : Array MapEntry} {ba : List (List FV)} (hl:(s.ob id).ao=.aC) (hb:β id=some b) (ij:w.heap[b]? = some (.map aw clock)) (st:Stamped cB cA) (sz:cB.size=ba.length)
  (ks:∀ (j:Nat) e row,cB[j]? = some e→ba[j]? = some row→∃ kf vf,row=[kf,vf]∧kf.simple=true∧e.key=kf.val)
  (vs:∀ (j:Nat) e row f,cB[j]? = some e→ba[j]? = some row→row[1]? = some f→Rd w (aF J w β s) e.val f) :
  FR c.N w0 J (s.set id { s.ob id with es:=ba }) a (setBlock w b (.map cB cA)) β:=by
 have au:(s.ob id).ao≠.dead:=by rw [hl];decide
 have aA:=(h.obj id au).lt hb;have hg:w.grownBy (setBlock w b (.map cB cA)) (some b):=⟨rfl,rfl,rfl,by simp [setBlock],fun i _ hi=>heap_setBlock_other ij _ (fun e=>hi (by rw [e]))⟩
 have hI:∀ b',aF J w β s b'→aF J (setBlock w b (.map cB cA)) β (s.set id { s.ob id with es:=ba }) b'∧(setBlock w b (.map cB cA)).heap[b']? = w.heap[b']?:=fun b' aU=>by
  refine ⟨⟨xx aU.1 hg.size,aU.2.1,fun aL bn=>?_⟩,hg.block b' aU.1 (fun e=>aU.2.2 id (by rw [hl];rfl) (by rw [hb];exact e.symm))⟩;rw [ah.ay] at bn;split at bn
  ·rename_i e;subst e;exact aU.2.2 id (by rw [hl];rfl)
  ·exact aU.2.2 aL bn
 refine h.step (C:=fun k=>k=id) h.size h.defers (h.bB.grown hg h.bB.size (fun k hk=>by injection hk with hk;subst hk;exact aA.1)) hI (fun k=>.inl ⟨rfl,rfl⟩) (fun k hC=>?_) (fun k hC=>?_) (fun k hC bA eu=>?_) (fun k hC bA _=>?_) ?_ (fun b' nM hn=>⟨hg.block b' nM (fun e=>hn id au (by rw [hb];exact e.symm)),fun k bA=>hn k (by rw [ah.ay] at bA;split at bA;(· rename_i e;subst e;exact au);(· exact bA))⟩)
 ·refine ⟨by rw [ah.ay,if_neg (fun e=>hC e.symm)],rfl,fun bA b' aU=>hg.block b' ((h.obj k bA).lt aU).2 (fun e=>hC (h.inj k id b' bA au aU (by rw [hb];exact e.symm)))⟩
 ·subst hC;rw [ah.ay,if_pos rfl];exact zg _
 ·subst hC;refine ⟨au,rfl,by rw [ah.ay,if_pos rfl],by rw [ah.ay,if_pos rfl],fun v o n hv=>?_⟩;have:=hv.row;rw [hl] at this;cases this
 ·subst hC;rw [ah.ay,if_pos rfl];exact .ofMap ⟨b,cA,cB,hb,aA.1,heap_setBlock_same ij _,st,sz,ks,fun j e row f h1 h2 h3=>(vs j e row f h1 h2 h3).mono hI⟩ (by show (s.ob k).ao.bC=false;rw [hl];rfl) (by show (s.ob k).ao≠.bh;rw [hl];decide)
 ·intro k k' b' bA ep e e';refine h.inj k k' b' ?_ ?_ e e'
  ·rw [ah.ay] at bA;split at bA
   ·rename_i e;subst e;exact au
   ·exact bA
  ·rw [ah.ay] at ep;split at ep
   ·rename_i e;subst e;exact au
   ·exact ep
theorem zgs (h:FR c.N w0 J s a w β) {k e:Nat} (hT:(c.ty T).k=.map k e) (K:Keyed c.P k) (x y z:Operand) {id:Nat} (ex:s.ev x=.omap id ae) (bN:(s.ob id).ao=.aC) (aK:(s.ob id).ae=ae)
  {kf vf:FV} (ey:s.ev y=kf) (ez:s.ev z=vf) (hk:∀ row∈(s.ob id).es,∀ kf,row.head? = some kf→XH c.P k kf) (cG:XH c.P k kf) (hn:vf.hand=none) {ba : List (List FV)} (hs:qg (s.ob id).es kf vf ba) :
  ∃ w',(execOp a.eval ⟨dst,.mapUpdate T x y z,ty,pos,after,g⟩).run c.P w=.ok .skip w'∧FR c.N w0 J (s.wr [(id,{ s.ob id with es:=ba })]) a w' β:=by
 have au:s.live id ae:=⟨by rw [bN];decide,aK⟩
 obtain ⟨d,ii,zz,ht⟩:=c.get hT zc;have hd:=ht.k;rw [hT] at hd;obtain rfl:=Ca hd;obtain ⟨l,fS⟩:=cG.2;obtain ⟨b,clock,aw,hx,hb,hm⟩:=h.mp ex au (by rw [bN];decide);have hy:a.eval y=kf.val:=(h.bY ey (by have:=cG.1;cases kf <;> first|rfl|(simp [FV.simple,FV.aW] at this))).dh cG.1;have pQ:=h.bY ez hn;generalize GZ:a.eval z=u at pQ;generalize lC:(s.ob id).es=es at hm hk hs;rcases hm.find K hk cG with ⟨h1,h2,h3⟩|⟨j,e0,Hm,h1,h2,h3,h4,h5,h6⟩
 ·have iX : ba=es++[[kf,vf]]:=by
   rcases hs with ⟨j,v0,hj,_⟩|⟨_,he⟩
   ·exact absurd rfl (h3 _ (zG hj))
   ·exact he
  subst iX;refine ⟨setBlock w b (.map (aw.push ⟨kf.val,u,clock⟩) (clock+1)),?_,?_⟩
  ·have:(Instr.mapUpdate T (.map (some b)) kf.val u).run c.P w=.ok () (setBlock w b (.map (aw.push ⟨kf.val,u,clock⟩) (clock+1))):=by
    simp [Instr.mapUpdate,run_underlying ht.u,Zx hm.hb,K.check w false fS,h1,Un _ hm.hb,Result.andThen,setBlock]
   simp [execOp,hx,hy,GZ,this]
  ·have dE:∀ (j:Nat) e row,(aw.push ⟨kf.val,u,clock⟩)[j]? = some e→(es++[[kf,vf]])[j]? = some row→(aw[j]? = some e∧es[j]? = some row)∨(e=⟨kf.val,u,clock⟩∧row=[kf,vf]):=by
    intro j e row he hr;rcases Yw j aw.size with hj|hj|hj
    ·left;rw [DM,if_neg za] at he;rw [xO (by rw [← hm.sz];exact hj)] at hr;exact ⟨he,hr⟩
    ·right;subst hj;rw [DM,if_pos rfl] at he;rw [hm.sz,Zd (zg _),xZ] at hr;injection he with he
     injection hr with hr
     exact ⟨he.symm,hr.symm⟩
    ·rw [DM,if_neg za] at he;rw [RW za] at he;cases he
   refine h.ct bN hb hm.hb (stamped_push hm.st h2) (by simp [hm.sz]) (fun j e row he hr=>?_) (fun j e row f he hr hf=>?_)
   ·rcases dE j e row he hr with ⟨q1,q2⟩|⟨rfl,rfl⟩
    ·exact hm.ks j e row q1 q2
    ·exact ⟨kf,vf,rfl,cG.1,rfl⟩
   ·rcases dE j e row he hr with ⟨q1,q2⟩|⟨rfl,rfl⟩
    ·exact hm.vs j e row f q1 q2 hf
    ·simp at hf;subst hf;exact pQ
 ·have iX : ba=es.set j [kf,vf]:=by
   rcases hs with ⟨i,v0,hi,he⟩|⟨bl,_⟩
   ·rw [h6 i v0 hi] at he;exact he
   ·exact absurd rfl (bl _ (zG h4))
  subst iX;have mm:∀ e',aw[j]? = some e'→({ e' with key:=kf.val,val:=u }:MapEntry).key=e'.key:=fun e' iX=>by rw [h2] at iX;cases iX;exact h3.symm
  refine ⟨setBlock w b (.map (aw.modify j (fun e'=>{ e' with key:=kf.val,val:=u })) clock),?_,?_⟩
  ·have:(Instr.mapUpdate T (.map (some b)) kf.val u).run c.P w=.ok () (setBlock w b (.map (aw.modify j (fun e'=>{ e' with key:=kf.val,val:=u })) clock)):=by
    simp [Instr.mapUpdate,run_underlying ht.u,Zx hm.hb,K.check w false fS,h1,h2,h3,K.stays w fS,Un _ hm.hb,Result.andThen,setBlock]
   simp [execOp,hx,hy,GZ,this]
  ·have dE:∀ (i:Nat) e row,(aw.modify j (fun e'=>{ e' with key:=kf.val,val:=u }))[i]? = some e→(es.set j [kf,vf])[i]? = some row→(aw[i]? = some e∧es[i]? = some row)∨(e.key=kf.val∧e.val=u∧row=[kf,vf]):=by
    intro i e row he hr;rw [Cb] at he;rw [WH] at hr;by_cases dc:j=i
    ·subst dc;right;rw [if_pos rfl,h2] at he;rw [if_pos rfl,if_pos (yq.1 h4).1] at hr;simp only [Za,yw] at he hr;subst he;exact ⟨rfl,rfl,hr.symm⟩
    ·left;rw [if_neg dc] at he hr;exact ⟨he,hr⟩
   refine h.ct bN hb hm.hb (stamped_modify hm.st _ _ (fun _ _=>rfl) (fun e' _ iX=>mm e' iX)) (by simp [hm.sz]) (fun i e row he hr=>?_) (fun i e row f he hr hf=>?_)
   ·rcases dE i e row he hr with ⟨q1,q2⟩|⟨q1,q2,rfl⟩
    ·exact hm.ks i e row q1 q2
    ·exact ⟨kf,vf,rfl,cG.1,q1⟩
   ·rcases dE i e row he hr with ⟨q1,q2⟩|⟨q1,q2,rfl⟩
    ·exact hm.vs i e row f q1 q2 hf
    ·simp at hf;subst hf;rw [q2];exact pQ
end
end
section
open Go.RowKit
theorem zja {X:List α} {p:Nat} (x:α) (h:p<X.length):av X p [x]=X.set p x:=by
 unfold av;rw [zkI,if_pos h];simp
theorem zr3 {w' : World} (h:w.grownBy w' none) (r:Option Nat):w.grownBy w' r:={ h with block:=fun k hk _=>h.block k hk zc }
theorem zcr (P:Program) (w:World) (t ty e:TypeId) (i:TypeInfo) (ht:P.underlying t=some (.slice e)) (hi:P.info? e=some i) (g off pZ BQ:Nat) (cur:Array Value) (hg:w.heap[g]? = some (.cells cur e (0,0)))
  (a:Addr) (m c:Nat) (news:List Value) (hl:news.length=m * i.size) (Gg:∀ (j:Nat) u,news[j]? = some u→w.cell? (a.add j)=some u) (h1:∀ u∈news,u.oneCell'=true) (eI:pZ+m≤BQ) (jT:off+pZ * i.size+news.length≤cur.size) :
  (Builtin.append_ #[t,t] ty #[.slice (some ⟨g,off,none⟩) pZ BQ,.slice (some a) m c]).run P w=.ok (.slice (some ⟨g,off,none⟩) (pZ+m) BQ) (w.setRow g (av cur.toList (off+pZ * i.size) news).toArray):=by
 have hf:=run_firstCells_some (P:=P) w i.size m a m c news hl Gg;have aO:=run_storeCells_at P g (off+pZ * i.size) e news 0 cur w hg (by simpa using jT) h1;simp only [ZZ] at aO;simp [Builtin.append_,run_underlying ht,sizeOf,typeInfo,hi,Builtin.lenOf,eI,hf,Addr.add_lit,aO,av]
section
variable {c:Ctx} {w0 w:World} {J:JJ} {s:ah} {a:Act} {β:Nat→Option Nat} {dst:Option Nat} {ty:TypeId} {pos:String} {after:Array Edge} {g:Option (Nat×Bool)}
theorem Cp (s:ah) (id d:Nat) (b1 b2:zE) (k:Nat):(s.wr [(id,b1),(d,b2)]).ob k=if d=k then b2 else if id=k then b1 else s.ob k:=by
 show (ah.set (ah.set s id b1) d b2).ob k=_;rw [ah.ay,ah.ay]
theorem Src.wL (h:FR c.N w0 J s a w β) {f2:FV} {sz:Nat} {aG:List (List FV)} (ey:s.ev y=f2) (h2:Src s f2 sz aG) (h1:aG.length=1) :
  (∀ e∈aG,e.length=sz)∧(∀ f∈aG.flatten,f.one=true)∧∃ ad cc us,a.eval y=.slice (some ad) 1 cc∧us.length=1 * sz∧aS w (aF J w β s) us aG.flatten∧(∀ (j:Nat) u,us[j]? = some u→w.cell? (ad.add j)=some u)∧∀ u∈us,u.oneCell'=true:=by
 obtain ⟨hw,ho,A,cc,us,hy,hc,hr,hA,aI⟩:=h.src ey h2;refine ⟨hw,ho,?_⟩;cases A with
 | none => have := (hA rfl).2; rw [this] at h1; simp at h1
 | some ad =>
  refine ⟨ad,cc,us,by rw [hy,h1],by rw [hr.1,xD hw,h1],hr,aI ad rfl,fun u hu=>?_⟩;obtain ⟨j,hj,rfl⟩:=zU hu;have gT:j<aG.flatten.length:=by rw [← hr.1];exact hj
  exact (hr.2 j _ aG.flatten[j] (by simp [hj]) zc).gH (ho _ (xH gT))
theorem zlh (h:FR c.N w0 J s a w β) (d:Nat) {e:Nat} (hT:(c.ty T).k=.slice e) (he:(c.ty e).k≠.other) (bm:0<(c.ty e).size) (x y:Operand) {id o n:Nat} (ex:s.ev x=.own id ae o n) (bN:(s.ob id).ao=.roomy) (aK:(s.ob id).ae=ae)
  (hE:(s.ob id).E=e) (aY:(s.ob id).sz=(c.ty e).size) (jY:o+n=(s.ob id).es.length) {f2:FV} {aG:List (List FV)} (ey:s.ev y=f2) (h2:Src s f2 (c.ty e).size aG) (h1:aG.length=1) :
  ZO c w0 J s a ⟨some d,.call { callee:=.builtin .append,args:=#[x,y],argTypes:=#[T,T] },ty,pos,after,g⟩ w (.own d ((s.ob d).ae+1) o (n+1)) [(id,{ s.ob id with ao:=.dead }),(d,⟨(s.ob d).ae+1,.own,e,(c.ty e).size,(s.ob id).es++aG⟩)]:=by
 obtain ⟨dd,ii,z,ht⟩:=c.get hT zc;have hd:=ht.k;rw [hT] at hd;obtain rfl:=xJ hd;obtain ⟨d',i',z',cS⟩:=c.get rfl he;obtain ⟨ew,jX,ad,c2,eD,hy,bA,fb,eg,rJ⟩:=Src.wL h ey h2 h1;have au:(s.ob id).ao≠.dead:=by rw [bN];decide
 have bK:(s.ob id).ao.row=true:=by rw [bN];rfl
 have hO:=h.obj id au;have eI:=hO.kA bK;unfold nn at eI;rw [bN] at eI;obtain ⟨b,cur,hb,bp,jT⟩:=eI;obtain ⟨v1,h9,r1,r2,r3⟩:=(hO.bM bK).row;have eK:=(hO.bM bK).wide;have lF:=(hO.bM bK).one;have aA:=hO.lt hb;obtain ⟨A,cc,e1,e2,e3,e4,e5⟩:=(h.cj ex au aK).ex;obtain ⟨o',rfl,k2,k3⟩:=e5 b hb;have uv:=k3 cur bp;rw [hE,aY] at r1;rw [hE] at bp;rw [aY] at k2 uv eK jT;generalize lC:(s.ob id).es=es at jY r1 r3 eK lF jT;generalize By:(c.ty e).size=sz at bm eK jT r1 ew bA uv k2;rcases r1.2 with ⟨rfl,_⟩|⟨g',cap,dG,rfl,_,ec,hn,vN,bk,fz⟩
 ·rw [← r2] at hb;simp [Value.ownBlock] at hb
 have qy:g'=b:=by rw [← r2] at hb;simpa [Value.ownBlock] using hb
 subst qy;rw [bp] at ec;injection ec with ec
 injection ec with ec _ _
 subst ec;have hoc:o+cc=cap:=HD bm (by rw [← uv,bk]);have dB:es.length+1≤cap:=Nat.le_of_mul_le_mul_right (by rw [← bk];exact jT) bm;have eJ : o'=o * sz:=k2 (.inl za);subst eJ;have hlen:o * sz+n * sz=es.length * sz:=by rw [← jY,yu]
 have lD:es.length * sz+sz≤cur.size:=by rw [yu] at jT;omega
 have bg:=zcr c.P w T ty e i' ht.u cS.info g' (o * sz) n cc cur bp ad 1 c2 eD (by rw [cS.size,By];exact bA) eg rJ za (by rw [cS.size,By,hlen];omega);rw [cS.size,By,hlen] at bg;have ch:cur.toList.length=cur.size:=by simp
 have im:h9.length=es.length * sz:=r1.1;obtain ⟨W,hW⟩:∃ W,W=w.setRow g' (av cur.toList (es.length * sz) eD).toArray:=⟨_,rfl⟩
 rw [← hW] at bg;have l7:W.heap[g']? = some (.cells (av cur.toList (es.length * sz) eD).toArray e (0,0)):=by rw [hW];exact Zt w g' _ cur _ bp
 have Tm:(av cur.toList (es.length * sz) eD).toArray.size=cur.size:=by
  rw [Ve,Zk (by rw [ch];omega),ch]
 have rz:w.grownBy W (some g'):=by
  subst hW;exact ⟨rfl,rfl,rfl,by simp [World.setRow],fun k hk aN=>Yg w g' k _ (fun e=>aN (by rw [e]))⟩
 have kT:(es++aG).length=es.length+1:=by rw [zN,h1]
 have c7 : W.ownsRow w0.heap.size e sz (.slice (some ⟨g',0,none⟩) (es.length+1) cap) (es++aG).length (h9++eD):=by
  rw [kT];refine ⟨by rw [zN,im,bA,yu],.inr ⟨g',cap,_,rfl,aA.1,l7,dB,vN,by rw [Tm,bk],?_⟩⟩;show (av cur.toList (es.length * sz) eD).take ((es.length+1) * sz)=h9++eD;unfold av;rw [← fz,yV,We,Wf,KL (by rw [yu];omega),zW,Yx za,show (es.length+1) * sz - es.length * sz=sz by rw [yu];omega,
   YS za,zS (by omega:eD.length≤sz)]
 have ju:(execOp a.eval ⟨some d,.call { callee:=.builtin .append,args:=#[x,y],argTypes:=#[T,T] },ty,pos,after,g⟩).run c.P w=.ok (.value (.slice (some ⟨g',o * sz,none⟩) (n+1) cc)) W:=by
  simp [execOp,resolve,invoke,builtin,e1,hy,bg]
 have Ax:=h.make (some id) d (E:=e) (sz:=sz) (es:=es++aG) (v:=.slice (some ⟨g',0,none⟩) (es.length+1) cap) (xs:=h9++eD) (fun k hk=>by injection hk with hk;subst hk;rw [bN];rfl) (by rw [Yb,hb];exact rz)
  (fun q hq=>by
   rcases zC.1 hq with h'|h'
   ·exact eK q h'
   ·exact ew q h')
  (fun f hf=>by
   rw [Xe] at hf;rcases zC.1 hf with h'|h'
   ·exact lF f h'
   ·exact jX f h') c7 (by rw [Xe];exact r3.append fb) (.inl (by rw [Yb,hb];rfl)) (s':=s.wr [(id,{ s.ob id with ao:=.dead }),(d,⟨(s.ob d).ae+1,.own,e,sz,es++aG⟩)]) (fun k=>by
    rw [Cp];split
    ·rfl
    ·by_cases dS:id=k
     ·subst dS;simp
     ·rw [if_neg dS,if_neg (by simpa using dS)]) (fun k=>ah.eO _ _ _)
 have fL:(s.wr [(id,{ s.ob id with ao:=.dead }),(d,(⟨(s.ob d).ae+1,.own,e,sz,es++aG⟩:zE))]).ob d=⟨(s.ob d).ae+1,.own,e,sz,es++aG⟩:=by rw [Cp,if_pos rfl]
 refine ⟨_,W,_,ju,Ax,fun _ _=>?_,fun aL br e=>?_⟩
 ·rw [fL,yM];refine ⟨rfl,some ⟨g',o * sz,none⟩,cc,rfl,by omega,by show o+(n+1)≤(es++aG).length;omega,(fun hb=>by simp [Value.ownBlock] at hb),fun b' cb=>?_⟩;obtain rfl:g'=b':=by simpa [Value.ownBlock] using cb
  refine ⟨o * sz,rfl,fun _=>rfl,fun dG fK=>?_⟩;rw [l7] at fK;injection fK with fK
  injection fK with fK _ _
  rw [← fK,Tm,uv]
 ·simp only [FV.hands,zq,xf] at e;obtain ⟨e1,e2⟩:=e;replace e1:=e1.symm;replace e2:=e2.symm;subst e1;subst e2;rw [fL];exact zg _
theorem zlg (h:FR c.N w0 J s a w β) (d:Nat) {e:Nat} (hT:(c.ty T).k=.slice e) (he:(c.ty e).k≠.other) (bm:0<(c.ty e).size) (x y:Operand) {id o n:Nat} (ex:s.ev x=.own id ae o n) (bN:(s.ob id).ao=.full) (aK:(s.ob id).ae=ae)
  (hE:(s.ob id).E=e) (aY:(s.ob id).sz=(c.ty e).size) (jY:o+n=(s.ob id).es.length) {f2:FV} {aG:List (List FV)} (ey:s.ev y=f2) (h2:Src s f2 (c.ty e).size aG) (h1:aG.length=1)
  (hb:(n+1) * (c.ty e).bytes≤140737488355328) (hm:n+1≤140737488355328) :
  ZO c w0 J s a ⟨some d,.call { callee:=.builtin .append,args:=#[x,y],argTypes:=#[T,T] },ty,pos,after,g⟩ w (.own d ((s.ob d).ae+1) 0 (n+1)) [(id,{ s.ob id with ao:=.dead }),(d,⟨(s.ob d).ae+1,.own,e,(c.ty e).size,(s.ob id).es.drop o++aG⟩)]:=by
 obtain ⟨dd,ii,z,ht⟩:=c.get hT zc;have hd:=ht.k;rw [hT] at hd;obtain rfl:=xJ hd;obtain ⟨d',i',z',cS⟩:=c.get rfl he;have pR:z'.cells.size=(c.ty e).size:=by
  have:=(aS.zeros (w:=w) (I:=aF J w β s) cS.zr).1;rw [cS.zl] at this;simpa using this
 obtain ⟨ew,jX,ad,c2,eD,hy,bA,fb,eg,rJ⟩:=Src.wL h ey h2 h1;have au:(s.ob id).ao≠.dead:=by rw [bN];decide
 have bK:(s.ob id).ao.row=true:=by rw [bN];rfl
 have hO:=h.obj id au;have eI:=hO.kA bK;unfold nn at eI;rw [bN] at eI;obtain ⟨v1,h9,r1,r2,r3⟩:=(hO.bM bK).row;have eK:=(hO.bM bK).wide;have lF:=(hO.bM bK).one;obtain ⟨A,cc,e1,e2,e3,e4,e5⟩:=(h.cj ex au aK).ex;rw [hE,aY] at r1;rw [aY] at eK;have kT:((s.ob id).es.drop o++aG).length=n+1:=by rw [zN,XZ,h1];omega
 have k6:∀ q∈(s.ob id).es.drop o++aG,q.length=(c.ty e).size:=fun q hq=>by
  rcases zC.1 hq with h'|h'
  ·exact eK q (Zv h')
  ·exact ew q h'
 have cu:((s.ob id).es.drop o).flatten=(s.ob id).es.flatten.drop (o * (c.ty e).size):=Xl _ eK o;have hod:∀ f∈((s.ob id).es.drop o++aG).flatten,f.one=true:=fun f hf=>by
  rw [Xe] at hf;rcases zC.1 hf with h'|h'
  ·rw [cu] at h';exact lF f (Zv h')
  ·exact jX f h'
 have gC:aS w (aF J w β s) (h9.drop (o * (c.ty e).size)++eD) ((s.ob id).es.drop o++aG).flatten:=by
  rw [Xe,cu];exact (r3.drop _).append fb
 obtain ⟨v',w',bg,c7,rz,bp⟩:∃ v' w',(Builtin.append_ #[T,T] ty #[a.eval x,a.eval y]).run c.P w=.ok v' w'∧w'.ownsRow w0.heap.size e (c.ty e).size v' (n+1) (h9.drop (o * (c.ty e).size)++eD)∧w.grownBy w' none∧
   (v'.ownBlock=none∨∃ b,v'.ownBlock=some b∧w.heap.size≤b):=by
  rw [e1,hy];cases jt:β id with
  | none=>
   obtain ⟨rfl,rfl⟩:=e4 jt;obtain rfl:n=0:=by omega
   rcases r1.2 with ⟨rfl,O0⟩|⟨g',cap,dG,rfl,_⟩
   ·have BA:h9=[]:=BX (by rw [r1.1,O0,Ya]);subst BA;obtain ⟨v',w',q1,q2,q3,_,q5⟩:=run_append_own_at (P:=c.P) w w0.heap.size T ty e i' z' (c.ty e).size (c.ty e).bytes ht.u cS.info cS.zo cS.size cS.bytes pR bm (.slice none 0 0) 0 [] (Wj _ _ _ _) ad 1 c2 eD bA eg rJ zd (by simpa using hb) h.bB.size;refine ⟨v',w',q1,by simpa using q2,q3,?_⟩;rcases q5 with e|e
    ·exact .inl e
    ·exact .inr ⟨_,e,zg _⟩
   ·rw [jt] at r2;simp [Value.ownBlock] at r2
  | some b=>
   obtain ⟨o',rfl,k2,k3⟩:=e5 b jt;rcases r1.2 with ⟨rfl,_⟩|⟨g',cap,cur,rfl,_,ec,hn,vN,bk,fz⟩
   ·rw [jt] at r2;simp [Value.ownBlock] at r2
   have qy:g'=b:=by rw [jt] at r2;simpa [Value.ownBlock] using r2
   subst qy;have kP:=eI g' cur jt (by rw [hE];exact ec);have nH:=k3 cur (by rw [hE];exact ec);rw [aY] at kP nH k2;have hoc:o+cc=(s.ob id).es.length:=HD bm (by rw [← nH,kP]);obtain rfl:cc=n:=by omega
   have ch:h9.length=(s.ob id).es.length * (c.ty e).size:=r1.1;obtain ⟨v',w',q1,q2,q3⟩:=run_append_arg_grows (P:=c.P) w T ty e i' z' (c.ty e).size (c.ty e).bytes ht.u cS.info cS.zo cS.size cS.bytes pR bm ⟨g',o',none⟩ cc cc (h9.drop (o * (c.ty e).size)) (by rw [XZ,ch,← jY,yu];omega)
    (fun j u hu=>by
     rw [YE] at hu;have hj:=(yq.1 hu).1;have Nt:cc≠0:=by rintro rfl;rw [ch,← jY,ZZ] at hj;omega
     have:=k2 (.inl Nt);subst this;have aI:=r1.cells (g:=g') rfl _ u hu;rw [ZD] at aI ⊢;rwa [yh] at aI) ad 1 c2 eD bA eg za (by unfold maxLen;omega) hb
   refine ⟨v',w',q1,Ic q2 h.bB.size,q3,?_⟩;cases BC:v'.ownBlock with
   | none => exact .inl rfl
   | some b2 => exact .inr ⟨b2, rfl, (q2.lt b2 BC).1⟩
 have ju:(execOp a.eval ⟨some d,.call { callee:=.builtin .append,args:=#[x,y],argTypes:=#[T,T] },ty,pos,after,g⟩).run c.P w=.ok (.value v') w':=by
  simp [execOp,resolve,invoke,builtin,bg]
 rw [← kT] at c7;have Ax:=h.make (some id) d (E:=e) (sz:=(c.ty e).size) (es:=(s.ob id).es.drop o++aG) (v:=v') (xs:=h9.drop (o * (c.ty e).size)++eD) (fun k hk=>by injection hk with hk;subst hk;rw [bN];rfl) (zr3 rz _) k6 hod c7 gC (.inr bp)
  (s' :=s.wr [(id,{ s.ob id with ao:=.dead }),(d,⟨(s.ob d).ae+1,.own,e,(c.ty e).size,(s.ob id).es.drop o++aG⟩)]) (fun k=>by
      rw [Cp];split
      ·rfl
      ·by_cases dS:id=k
       ·subst dS;simp
       ·rw [if_neg dS,if_neg (by simpa using dS)]) (fun k=>ah.eO _ _ _)
 have fL:(s.wr [(id,{ s.ob id with ao:=.dead }),(d,(⟨(s.ob d).ae+1,.own,e,(c.ty e).size,(s.ob id).es.drop o++aG⟩:zE))]).ob d=⟨(s.ob d).ae+1,.own,e,(c.ty e).size,(s.ob id).es.drop o++aG⟩:=by rw [Cp,if_pos rfl]
 refine ⟨v',w',_,ju,Ax,fun _ _=>?_,fun aL br e=>?_⟩
 ·rw [fL,yM];rw [← kT];exact fh.gX c7 rfl rfl rfl rfl
 ·simp only [FV.hands,zq,xf] at e;obtain ⟨e1,e2⟩:=e;replace e1:=e1.symm;replace e2:=e2.symm;subst e1;subst e2;rw [fL];exact zg _
theorem FR.gO (h:FR c.N w0 J s a w β) {id:Nat} (bN:(s.ob id).ao=.aj) {b:Nat} (hb:β id=some b) :
  ∃ cur cap,w.heap[b]? = some (.cells cur (s.ob id).E (0,0))∧(s.ob id).es.length≤cap∧cap≤maxLen∧cur.size=cap * (s.ob id).sz∧(cur.toList.take ((s.ob id).es.length * (s.ob id).sz)).length=(s.ob id).es.flatten.length∧
   ∀ (j:Nat) u f,(cur.toList.take ((s.ob id).es.length * (s.ob id).sz))[j]? = some u→(s.ob id).es.flatten[j]? = some f→VR w (aF J w β s) β s u f:=by
 have au:(s.ob id).ao≠.dead:=by rw [bN];decide
 obtain ⟨v,us,r1,r2,r3,r4⟩:=((h.obj id au).eB (by rw [bN];rfl) (by rw [bN];rfl)).row;rcases r1.2 with ⟨rfl,_⟩|⟨g',cap,cur,rfl,_,ec,hn,hm,bk,fz⟩
 ·rw [← r2] at hb;simp [Value.ownBlock] at hb
 ·have qy:g'=b:=by rw [← r2] at hb;simpa [Value.ownBlock] using hb
  subst qy;subst fz;exact ⟨cur,cap,ec,hn,hm,bk,r3,r4⟩
theorem PZ {α:Type}:∀ (es:List (List α)),(∀ e∈es,e.length=1)→∀ (j:Nat) f,es[j]? = some [f]→es.flatten[j]? = some f
 | [], _, j, f, h => by simp at h
 | e :: es, he, 0, f, h => by simp at h; subst h; simp
 | e :: es, he, j+1, f, h => by
  have h1:=he e zc;obtain ⟨x,rfl⟩:=Wa.1 h1;simp at h;simpa using PZ es (fun q hq=>he q (by simp [hq])) j f h
theorem zld {α:Type}:∀ (es:List (List α)),(∀ e∈es,e.length=1)→∀ (j:Nat) f,(es.set j [f]).flatten=es.flatten.set j f
 | [], _, j, f => by simp
 | e :: es, he, 0, f => by
  obtain ⟨x,rfl⟩:=Wa.1 (he e zc);simp
 | e :: es, he, j+1, f => by
  obtain ⟨x,rfl⟩:=Wa.1 (he e zc);simpa using zld es (fun q hq=>he q (by simp [hq])) j f
theorem zpT (h:FR c.N w0 J s a w β) (hk:(c.ty T).k.bD = some false) (hz:(c.ty T).size=1) (x:Operand) {id:Nat} (ex:s.ev x=.ptr id ae j 0) (bN:(s.ob id).ao=.aj) (aK:(s.ob id).ae=ae) (aY:(s.ob id).sz=1) {f:FV} (hj:(s.ob id).es[j]? = some [f]) :
  ZO c w0 J s a ⟨dst,.load T x,ty,pos,after,g⟩ w f []:=by
 have au:(s.ob id).ao≠.dead:=by rw [bN];decide
 obtain ⟨_,b,hb,hv⟩:=h.dA ex au aK;obtain ⟨cur,cap,bp,hn,hm,bk,hl,hr⟩:=h.gO bN hb;have hH:=(h.obj id au).eB (by rw [bN];rfl) (by rw [bN];rfl);have hw:=hH.wide;rw [aY] at hv bk hl hr hw;have cN:=(yq.1 hj).1;have pC:=PZ _ hw j f hj;have qz:j<cur.size:=by omega
 have hu:(cur.toList.take ((s.ob id).es.length * 1))[j]? = some cur[j]:=by
  rw [xG,if_pos za];simp [qz]
 have aI:w.cell? ⟨b,j,none⟩=some cur[j]:=by
  have:=cell_of_row w b j cur (s.ob id).E (0,0) bp;rw [this];simp [qz]
 refine .pure h (v:=cur[j]) ?_ (hr j _ f hu pC) (fun aL br e=>hH.bE f (zG pC) aL br e);have:(loadVar T ⟨b,j,none⟩).run c.P w=.ok cur[j] w:=by simp [loadVar,HJ hk,load,Sem.run,aI]
 simp [execOp,Instr.loadAt,hv,Instr.sureAddr,this]
def Xh (s:ah) (f:FV):Prop:=f.one=true∨(∃ id ae o n,f=.own id ae o n∧s.live id ae)∨(∃ id ae j o,f=.ptr id ae j o∧s.live id ae)∨(∃ k fs,f=.wrap (.fn k) fs)∨∃ id ae,f=.omap id ae∧s.live id ae
theorem Xh.val (h:FR c.N w0 J s a w β) {f:FV} (ey:s.ev y=f) (hf:Xh s f):(a.eval y).cells=#[a.eval y]∧(a.eval y).oneCell'=true:=by
 rcases hf with h1|⟨id,ae,o,n,rfl,hl⟩|⟨id,ae,j,o,rfl,hl⟩|⟨k,fs,rfl⟩|⟨id,ae,rfl,hl⟩
 ·have hn:f.hand=none:=by cases f <;> first|rfl|(simp [FV.one] at h1)
  have hr:=h.bY ey hn;generalize a.eval y=v at hr;cases hr <;> first|exact ⟨rfl,rfl⟩|(simp [FV.one] at h1)
 ·obtain ⟨A,cc,e,_⟩:=(h.cj ey hl.1 hl.2).ex;rw [e];exact ⟨rfl,rfl⟩
 ·obtain ⟨_,b,_,e⟩:=h.dA ey hl.1 hl.2;rw [e];exact ⟨rfl,rfl⟩
 ·have hv:=h.ev y;rw [ey] at hv;obtain ⟨us,e,_⟩:=hv;rw [e];exact ⟨rfl,rfl⟩
 ·obtain ⟨_,b,_,e⟩:=h.iR ey hl.1 hl.2;rw [e];exact ⟨rfl,rfl⟩
theorem znd (h:FR c.N w0 J s a w β) (hk:(c.ty T).k≠.other) (hz:(c.ty T).size=1) (x y:Operand) {id:Nat} (ex:s.ev x=.ptr id ae j 0) (bN:(s.ob id).ao=.aj) (aK:(s.ob id).ae=ae) (aY:(s.ob id).sz=1) {f:FV} (ey:s.ev y=f)
  (hf:Xh s f) (hj:j<(s.ob id).es.length) :
  ∃ w',(execOp a.eval ⟨dst,.store T x y,ty,pos,after,g⟩).run c.P w=.ok .skip w'∧FR c.N w0 J (s.wr [(id,{ s.ob id with es:=(s.ob id).es.set j [f] })]) a w' β:=by
 have au:(s.ob id).ao≠.dead:=by rw [bN];decide
 obtain ⟨_,b,hb,rW⟩:=h.dA ex au aK;obtain ⟨cur,cap,bp,hn,hm,bk,hl,hr⟩:=h.gO bN hb;have hH:=(h.obj id au).eB (by rw [bN];rfl) (by rw [bN];rfl);have hw:=hH.wide;obtain ⟨kP,nH⟩:=Xh.val h ey hf;have eF:=h.ev y;have eu:∀ aL br,(aL,br)∈f.hands→br≤(s.ob aL).ae:=fun aL br e=>h.cg y (by rw [ey];exact e);rw [ey] at eF;generalize hy:a.eval y=v at kP nH eF;rw [aY] at rW bk hl hr hw;have aO:=run_storeCells_at c.P b j (s.ob id).E [v] 0 cur w bp zM (by simpa using nH);simp only [ZZ] at aO;have qz:j<cur.toList.length:=by simp;omega
 obtain ⟨W,hW⟩:∃ W,W=w.setRow b (av cur.toList j [v]).toArray:=⟨_,rfl⟩
 have l7:W.heap[b]? = some (.cells (cur.toList.set j v).toArray (s.ob id).E (0,0)):=by rw [hW,zja v qz];exact Zt w b _ cur _ bp
 have hg:w.grownBy W (some b):=by
  subst hW;exact ⟨rfl,rfl,rfl,by simp [World.setRow],fun k hk aN=>Yg w b k _ (fun e=>aN (by rw [e]))⟩
 have aA:=(h.obj id au).lt hb;refine ⟨W,?_,?_⟩
 ·have hs:=ZK (c:=c) hk w;have nV : (storeCells ⟨b,j,none⟩ [v]).run c.P w=.ok () W:=by rw [hW];exact aO
  simp [execOp,Instr.storeAt,storeVar,rW,hy,Instr.sureAddr,hs,hz,kP,nV]
 ·have aR:∀ k,(s.wr [(id,{ s.ob id with es:=(s.ob id).es.set j [f] })]).ob k=if id=k then { s.ob id with es:=(s.ob id).es.set j [f] } else s.ob k:=fun k=>ah.ay s id _ k
  have hI:∀ b',aF J w β s b'→aF J W β (s.wr [(id,{ s.ob id with es:=(s.ob id).es.set j [f] })]) b'∧W.heap[b']? = w.heap[b']?:=fun b' aU=>by
   refine ⟨⟨xx aU.1 hg.size,aU.2.1,fun aL bn=>?_⟩,hg.block b' aU.1 (fun e=>aU.2.2 id (by rw [bN];rfl) (by rw [hb];exact e.symm))⟩;rw [aR] at bn;split at bn
   ·rename_i e;subst e;exact aU.2.2 id (by rw [bN];rfl)
   ·exact aU.2.2 aL bn
  refine h.step (C:=fun k=>k=id) h.size h.defers (h.bB.grown hg h.bB.size (fun k hk=>by injection hk with hk;subst hk;exact aA.1)) hI (fun k=>.inl ⟨rfl,rfl⟩) (fun k hC=>?_) (fun k hC=>?_) (fun k hC bA OT=>?_) (fun k hC bA T'=>?_) ?_ (fun b' nM hn=>⟨hg.block b' nM (fun e=>hn id au (by rw [hb];exact e.symm)),fun k bA=>hn k (by rw [aR] at bA;split at bA;(· rename_i e;subst e;exact au);(· exact bA))⟩)
  ·refine ⟨by rw [aR,if_neg (fun e=>hC e.symm)],rfl,fun bA b' aU=>hg.block b' ((h.obj k bA).lt aU).2 (fun e=>hC (h.inj k id b' bA au aU (by rw [hb];exact e.symm)))⟩
  ·subst hC;rw [aR,if_pos rfl];exact zg _
  ·subst hC;refine ⟨au,rfl,by rw [aR,if_pos rfl],by rw [aR,if_pos rfl],fun v2 o n pN=>?_⟩;rw [aR,if_pos rfl];obtain ⟨A,cc,q1,q2,q3,q4,q5⟩:=pN.ex;refine ⟨pN.row,A,cc,q1,q2,by simpa using q3,q4,fun b2 aU=>?_⟩;obtain ⟨o',k1,k2,k3⟩:=q5 b2 aU;refine ⟨o',k1,k2,fun dG fK=>?_⟩;rw [hb] at aU;injection aU with aU
   subst aU;dsimp only at fK;rw [l7] at fK;injection fK with fK
   injection fK with fK _ _
   rw [← fK];have:=k3 cur bp;simpa using this
  ·subst hC;rw [aR,if_pos rfl];have cU:∀ aL,(s.ob aL).ae≤((s.wr [(k,{ s.ob k with es:=(s.ob k).es.set j [f] })]).ob aL).ae:=fun aL=>by
    rw [aR];split
    ·rename_i e;subst e;exact zg _
    ·exact zg _
   have cu:=zld _ hw j f;have nL:(s.ob k).es.flatten.length=(s.ob k).es.length:=by have:=xD hw;omega
   refine .ld ⟨fun e he=>?_,fun f' bS aL br e=>?_,.slice (some ⟨b,0,none⟩) (s.ob k).es.length cap,(cur.toList.take ((s.ob k).es.length * 1)).set j v,?_,by rw [hb];rfl,?_,fun i u f' hu bS=>?_⟩ bN
   ·rw [aY];rcases ZE he with h'|h'
    ·exact hw e h'
    ·subst h';rfl
   ·dsimp only at bS;rw [cu] at bS;refine yc ?_ (cU aL);rcases ZE bS with h'|h'
    ·exact hH.bE f' h' aL br e
    ·subst h';exact eu aL br e
   ·rw [aY];simp only [yA];refine ⟨by rw [yA,hl,nL,xY],.inr ⟨b,cap,_,rfl,aA.1,l7,hn,hm,by simpa using bk,?_⟩⟩;simp only [List.take_set]
   ·dsimp only;rw [yA,hl,cu,yA]
   ·dsimp only at bS;rw [cu] at bS;rw [WH] at hu bS;by_cases dc:j=i
    ·subst dc;rw [if_pos rfl] at hu bS;split at hu
     ·split at bS
      ·injection hu with hu
       injection bS with bS
       subst hu;subst bS;exact T' _ _ eF eu
      ·cases bS
     ·cases hu
    ·rw [if_neg dc] at hu bS;exact T' _ _ (hr i u f' hu bS) (hH.bE f' (zG bS))
  ·intro k k' b' bA ep e e';refine h.inj k k' b' ?_ ?_ e e'
   ·rw [aR] at bA;split at bA
    ·rename_i e;subst e;exact au
    ·exact bA
   ·rw [aR] at ep;split at ep
    ·rename_i e;subst e;exact au
    ·exact ep
end
end
section
open Go.RowKit Go.Maps
section
variable {c:Ctx} {w0 w:World} {J:JJ} {s:ah} {a:Act} {β:Nat→Option Nat} {dst:Option Nat} {ty:TypeId} {pos:String} {after:Array Edge} {g:Option (Nat×Bool)}
theorem FR.MD {s' : ah} (h:FR N w0 J s a w β) (hg:∀ k,s'.get k=s.get k) (ho:∀ k,s'.ob k=s.ob k):FR N w0 J s' a w β:=by
 refine h.step (C:=fun _=>False) h.size h.defers h.bB (fun b hb=>⟨⟨hb.1,hb.2.1,fun id hl=>hb.2.2 id (by rw [← ho];exact hl)⟩,rfl⟩) (fun k=>.inl ⟨rfl,hg k⟩) (fun id _=>⟨ho id,rfl,fun _ _ _=>rfl⟩) (fun _ h=>h.elim) (fun _ h=>h.elim) (fun _ h=>h.elim) ?_ (fun b _ hn=>⟨rfl,fun id hl=>hn id (by rw [← ho];exact hl)⟩);intro id aL b hl bn;rw [ho] at hl bn;exact h.inj id aL b hl bn
theorem zqF (L:List α) (o:Nat):av L o []=L:=by
 unfold av;simp
theorem Pu {α:Type}:∀ {es:List (List α)},(∀ e∈es,e.length=1)→es.flatten.length=es.length
 | [], _ => rfl
 | e :: es, h => by
  rw [xF,zN,Pu (fun q hq=>h q (by simp [hq])),h e zc];simp;omega
theorem Y4 {es ds:List (List α)} (he:∀ e∈es,e.length=1) (hd:∀ e∈ds,e.length=1) (o:Nat):(av es o ds).flatten=av es.flatten o ds.flatten:=by
 unfold av;rw [Xe,Xe,Wq es he,Xl es he,Pu hd,xY,xY]
theorem zrW (h:FR c.N w0 J s a w β) {T2 e:Nat} (hT:(c.ty T).k=.slice e) (he:(c.ty e).k≠.other) (hz:(c.ty e).size=1) (x y:Operand) {id o m:Nat} (ex:s.ev x=.own id ae o m) (hl:(s.ob id).ao=.own) (hv:(s.ob id).ae=ae) (aY:(s.ob id).sz=1)
  {f2:FV} {aG:List (List FV)} (ey:s.ev y=f2) (h2:Src s f2 1 aG) :
  ZO c w0 J s a ⟨dst,.call { callee:=.builtin .copy,args:=#[x,y],argTypes:=#[T,T2] },ty,pos,after,g⟩ w (.int .i64 ((aG.take m).length:Nat)) [(id,{ s.ob id with es:=av (s.ob id).es o (aG.take m) })]:=by
 have au:(s.ob id).ao≠.dead:=by rw [hl];decide
 have bK:(s.ob id).ao.row=true:=by rw [hl];rfl
 obtain ⟨dd,ii,z,ht⟩:=c.get hT zc;have hd:=ht.k;rw [hT] at hd;obtain rfl:=xJ hd;obtain ⟨d',i',z',cS⟩:=c.get rfl he;have tx:(c.P.info? e).map (·.size)=some 1:=by rw [cS.info,← hz,← cS.size];rfl
 obtain ⟨ew,jX,A2,c2,eD,hy,nH,fb,Au,eg⟩:=h.src ey h2;obtain ⟨A,cc,e1,e2,e3,e4,e5⟩:=(h.cj ex au hv).ex;have mv:eD.length=aG.length:=by rw [fb.1,Pu ew]
 have gV:(aG.take m).length=Nat.min aG.length m:=by rw [zW,Nat.min_comm]
 by_cases h0:aG.take m=[]
 ·have hn:Nat.min aG.length m=0:=by rw [← gV,h0];rfl
  have bg:=run_copy_none (P:=c.P) w T T2 ty e A A2 m cc aG.length c2 ht.u tx hn;refine ⟨goInt 0,w,β,?_,?_,?_,fun _ _ hm=>(FV.aV rfl hm).elim⟩
  ·simp [execOp,resolve,invoke,builtin,e1,hy,bg]
  ·refine h.MD (fun k=>ah.eO _ _ _) (fun k=>?_);rw [h0,zqF];show (ah.set s id _).ob k=_;rw [ah.ay];split
   ·rename_i e;subst e;rfl
   ·rfl
  ·rw [h0];exact Rd.int _ _
 ·have ja:0<(aG.take m).length:=by
   rcases Yv (aG.take m).length with h'|h'
   ·exact absurd (BX h') h0
   ·exact h'
  have kV:0<m:=by rw [zW] at ja;omega
  obtain ⟨b,hb⟩:∃ b,β id=some b:=by
   cases aU:β id with
   | none => obtain ⟨q1, q2⟩ := e4 aU; omega
   | some b => exact ⟨b, rfl⟩
  obtain ⟨o',rfl,k2,k3⟩:=e5 b hb;have:=k2 (.inl za);subst this;obtain ⟨ad,rfl⟩:∃ ad,A2=some ad:=by
   cases hA:A2 with
   | none => obtain ⟨_, q⟩ := Au hA; subst q; simp at ja
   | some ad => exact ⟨ad, rfl⟩
  obtain ⟨cur,cap,bp,hn,hm,bk,hr,aj⟩:=h.block au bK hb;have hw:=((h.obj id au).bM bK).wide;have bQ:=((h.obj id au).bM bK).one;rw [aY] at hw bk hr aj e1;simp only [xY] at bk hr aj e1;generalize lC:(s.ob id).es=es at hn hr aj hw bQ e3;have uw:∀ q∈aG.take m,q.length=1:=fun q hq=>ew q (xn hq);have AT:(eD.take m).length=(aG.take m).length:=by rw [zW,zW,mv]
  have cu:(aG.take m).flatten=aG.flatten.take m:=by rw [Wq aG ew,xY]
  have Gr:aS w (aF J w β s) (eD.take m) (aG.take m).flatten:=by rw [cu];exact fb.take m
  have df:∀ f∈(aG.take m).flatten,f∈aG.flatten:=fun f hf=>by rw [cu] at hf;exact xn hf
  have Ar:∀ u∈eD.take m,u.oneCell'=true:=fun u hu=>by
   obtain ⟨j,hj,rfl⟩:=zU hu;have gT:j<(aG.take m).flatten.length:=by rw [← Gr.1];exact hj
   exact (Gr.2 j _ (aG.take m).flatten[j] (by simp only [xz hj]) (by simp only [xz gT])).gH (jX _ (df _ (xH gT)))
  have hle:(aG.take m).length≤m:=by rw [zW];omega
  have jT:o+(eD.take m).length≤cur.size:=by rw [AT,bk];omega
  have bg:=run_copy_row (P:=c.P) w T T2 ty e b o m cc ad aG.length c2 cur (s.ob id).E (eD.take m) ht.u tx bp (by rw [AT,gV]) (fun j u hu=>eg ad rfl j u (by rw [xG] at hu;split at hu;exact hu;cases hu)) jT Ar;obtain ⟨W,hW⟩:∃ W,W=w.setRow b (av cur.toList o (eD.take m)).toArray:=⟨_,rfl⟩
  have l7:W.heap[b]? = some (.cells (av cur.toList o (eD.take m)).toArray (s.ob id).E (0,0)):=by rw [hW];exact Zt w b _ cur _ bp
  have jv:w.grownBy W (β id):=by
   subst hW;refine ⟨rfl,rfl,rfl,by simp [World.setRow],fun k hk aN=>Yg w b k _ (fun e=>aN (by rw [e,hb]))⟩
  have ch:cur.toList.length=cap:=by simpa using bk
  have nW:(cur.toList.take es.length).length=es.length:=by rw [zW,ch];omega
  have mG:(av es o (aG.take m)).length=es.length:=Zk za;have c7 : W.ownsRow w0.heap.size (s.ob id).E 1 (.slice (some ⟨b,0,none⟩) es.length cap) (av es o (aG.take m)).length (av (cur.toList.take es.length) o (eD.take m)):=by
   rw [mG];refine ⟨?_,.inr ⟨b,cap,_,rfl,((h.obj id au).lt hb).1,l7,hn,hm,?_,?_⟩⟩
   ·rw [Zk za,nW,xY]
   ·simp only [Ve];rw [Zk za,ch,xY]
   ·rw [xY];have key:∀ (L p:Nat) (cs ds:List Value),p+ds.length≤L→L≤cs.length→(av cs p ds).take L=av (cs.take L) p ds:=by
     intro L p cs ds h1 h2;unfold av;rw [yV,yV,We,zW,Yx za,We,Wf,Wf,KL za,Yx za,zS (by omega:ds.length≤L - p),Rr];congr 3;omega
    exact key _ _ _ _ za za
  refine ⟨goInt (eD.take m).length,W,β,?_,?_,?_,fun _ _ hm=>(FV.aV rfl hm).elim⟩
  ·have wB : (Builtin.copy_ #[T,T2] ty #[.slice (some ⟨b,o,none⟩) m cc,.slice (some ad) aG.length c2]).run c.P w=.ok (goInt (eD.take m).length) W:=by rw [hW];exact bg
   obtain ⟨V,hV⟩:∃ V,V=goInt ((eD.take m).length:Nat):=⟨_,rfl⟩
   rw [← hV] at wB ⊢;simp [execOp,resolve,invoke,builtin,e1,hy,wB]
  ·refine h.write id (es:=av es o (aG.take m)) (v:=.slice (some ⟨b,0,none⟩) es.length cap) (xs:=av (cur.toList.take es.length) o (eD.take m)) hl jv ?_ ?_ ?_ hb.symm ?_ ?_ ?_ (fun k=>?_) (fun k=>ah.eO _ _ _)
   ·rw [aY];intro q hq;rcases UH hq with hq|hq
    ·exact hw q hq
    ·exact uw q hq
   ·intro f hf;obtain ⟨q,hq,vS⟩:=yJ.1 hf;rcases UH hq with hq|hq
    ·exact bQ f (yJ.2 ⟨q,hq,vS⟩)
    ·exact jX f (yJ.2 ⟨q,xn hq,vS⟩)
   ·rw [aY];exact c7
   ·rw [Y4 hw uw];exact hr.av Gr _
   ·rw [lC,mG]
   ·intro b' EG ui cb h1 h2;rw [hb] at cb;injection cb with cb
    subst cb;rw [bp] at h1;injection h1 with h1
    injection h1 with h1 _ _
    subst h1;rw [l7] at h2;injection h2 with h2
    injection h2 with h2 _ _
    rw [← h2];simp only [Ve];rw [Zk za,ch,bk]
   ·rw [← lC];exact ah.ay s id _ k
  ·rw [← AT];exact Rd.int _ _
def WA (P:Program) (T:Nat):Bool:=
 match P.underlying T with
 | some (.interface _) => true
 | _ => false
theorem zha (hk:(c.ty T).k≠.other) (eT:WA c.P T=false) (x:Operand):(execOp a.eval ⟨dst,.makeInterface T x,ty,pos,after,g⟩).run c.P w=.ok (.value (.iface T (a.eval x))) w:=by
 obtain ⟨d,i,z,ht⟩:=c.get rfl hk;unfold WA at eT;rw [ht.u] at eT;cases d <;> first|(cases eT;done)|(simp [execOp,Instr.makeInterface,run_underlying ht.u];done)
theorem zlp (h:FR c.N w0 J s a w β) (hk:(c.ty T).k≠.other) (eT:WA c.P T=false) (x:Operand) {f:FV} (ex:s.ev x=f) (hn:f.hand=none) :
  ZO c w0 J s a ⟨dst,.makeInterface T x,ty,pos,after,g⟩ w (.iface T f) []:=
 .rd h (v:=.iface T (a.eval x)) (zha hk eT x) (.iface T _ _ (h.bY ex hn)) rfl
def FV.bG:FV→Bool
 | .wrap _ _ => false
 | _ => true
theorem FV.od {f:FV} (h:f.bG=true):∀ k fs,f≠.wrap k fs:=by rintro k fs rfl;cases h
theorem Ke {k:Wk} {fs:List FV} {id:Nat} (h:(id,ae)∈(FV.wrap k fs).hands):∃ f∈fs,f.hand=some (id,ae):=yU.1 h
theorem QL (h:FR c.N w0 J s a w β) {k:Wk} {xs:List Operand} {fs:List FV} (hx:xs.map s.ev=fs) (hn:fs.all FV.bG=true) {o:Oper} (hr:(execOp a.eval o).run c.P w=.ok (.value (k.mk (xs.map a.eval))) w):ZO c w0 J s a o w (.wrap k fs) []:=by
 subst hx;refine .pure h hr ⟨xs.map a.eval,rfl,by simp,fun j u f hu hf=>?_⟩ fun id ae hm=>?_
 ·rw [ye] at hu hf;cases hj:xs[j]? with
  | none => rw [hj] at hu; cases hu
  | some x =>
   rw [hj] at hu hf;injection hu with hu;injection hf with hf
   subst hu;subst hf;have hm:s.ev x∈xs.map s.ev:=zi.2 ⟨x,zG hj,rfl⟩;exact (h.ev x).om (FV.od (zL.1 hn _ hm))
 ·obtain ⟨f,hf,e⟩:=Ke hm;obtain ⟨x,GV,rfl⟩:=zi.1 hf;refine h.cg x ?_;have hw:=zL.1 hn _ hf;generalize s.ev x=q at e hw;cases q with
  | own|ptr|omap => injection e with e; rw [← e]; exact zq.2 rfl
  | wrap => cases hw
  | _ => cases e
theorem zjQ (h:FR c.N w0 J s a w β) (hk:(c.ty T).k≠.other) (eT:WA c.P T=false) (x:Operand) {f:FV} (ex:s.ev x=f) (hn:f.bG=true) :
  ZO c w0 J s a ⟨dst,.makeInterface T x,ty,pos,after,g⟩ w (.wrap (.mI T) [f]) []:=
 QL h (k:=.mI T) (xs:=[x]) (by simp [ex]) (by simpa using hn) (zha hk eT x)
theorem zln (h:FR c.N w0 J s a w β) {f:Nat} {aH:List FV} (hx:xs.toList.map s.ev=aH) (hn:aH.all FV.bG=true) :
  ZO c w0 J s a ⟨dst,.makeFunc (.func f) #[] xs,ty,pos,after,g⟩ w (.wrap (.fn f) aH) []:=by
 refine QL h (k:=.fn f) (xs:=xs.toList) hx hn ?_;have:(xs.toList.map a.eval).toArray=xs.map a.eval:=by apply xU;simp
 simp [execOp,Instr.makeFunc,Wk.mk,this]
theorem zpO (h:FR c.N w0 J s a w β) {f:Nat} {aH:List FV} (hx:xs.toList.map s.ev=aH) (hn:aH.all FV.bG=true) :
  ZO c w0 J s a ⟨dst,.makeFunc (.func f) xs #[],ty,pos,after,g⟩ w (.wrap (.bound f) aH) []:=by
 refine QL h (k:=.bound f) (xs:=xs.toList) hx hn ?_;have:(xs.toList.map a.eval).toArray=xs.map a.eval:=by apply xU;simp
 simp [execOp,Instr.makeFunc,Wk.mk,this]
theorem zlq (h:FR c.N w0 J s a w β) {T2:Nat} (hk:(c.ty T).k≠.other) (eT:WA c.P T=false) (x:Operand) {f:FV} (ex:s.ev x=.iface T f) (hn:f.hand=none) :
  ZO c w0 J s a ⟨dst,.typeAssert x T2 T false,ty,pos,after,g⟩ w f []:=by
 have hr:=h.bY ex rfl;generalize hx:a.eval x=v at hr;cases hr with
 | iface t v f hr =>
  refine .rd h (v:=v) ?_ hr hn;obtain ⟨d,i,z,ht⟩:=c.get rfl hk;unfold WA at eT;rw [ht.u] at eT;cases d <;> first|(cases eT;done)|(simp [execOp,Instr.typeAssert,run_underlying ht.u,hx];done)
inductive Cu (s:ah):FV→Bool→Prop where
 | nil:Cu s .nil true
 | own (id ae o n:Nat) (hl:s.live id ae) (hn:0<n):Cu s (.own id ae o n) false
 | list (sz:Nat) (es:List (List FV)) (hn:es ≠ []):Cu s (.list sz es) false
theorem FR.G5 (h:FR c.N w0 J s a w β) {f:FV} (ex:s.ev x=f) (hb:Cu s f b):∃ A n cc,a.eval x=.slice A n cc∧A.isNone=b:=by
 cases hb with
 | nil => exact ⟨none, 0, 0, h.fp ex, rfl⟩
 | own id ae o n hl hn =>
  obtain ⟨A,cc,e1,e2,e3,e4,e5⟩:=(h.cj ex hl.1 hl.2).ex;refine ⟨A,n,cc,e1,?_⟩;cases hb:β id with
  | none => obtain ⟨_, q⟩ := e4 hb; omega
  | some b => obtain ⟨o', rfl, _⟩ := e5 b hb; rfl
 | list sz es hn=>
  have hr:=h.bY ex rfl;generalize hx:a.eval x=v at hr;cases hr with
  | list A m cc sz es us hm hc hw ho hA hl qB =>
   refine ⟨A,m,cc,rfl,?_⟩;obtain ⟨b,off,rfl,_⟩:=hA (fun e=>hn (BX za));rfl
theorem zpS (h:FR c.N w0 J s a w β) (op:BinOp) {T2 e:Nat} (hT:(c.ty T).k=.slice e) (x y:Operand) {f:FV} (ex:s.ev x=f) (hb:Cu s f b) (ey:s.ev y=.nil) (dK:op=.eql∨op=.neq) :
  ZO c w0 J s a ⟨dst,.binOp op T x y T2,ty,pos,after,g⟩ w (.bool (if op=.eql then b else !b)) []:=by
 obtain ⟨dd,ii,z,ht⟩:=c.get hT zc;have hd:=ht.k;rw [hT] at hd;obtain rfl:=xJ hd;obtain ⟨A,n,cc,e1,rfl⟩:=h.G5 ex hb;have e2:=h.fp ey;have heq:(Op.equalIn Op.maxDepth T (.slice A n cc) (.slice none 0 0)).run c.P w=.ok A.isNone w:=by
  show (Op.equalIn (9999+1) T (.slice A n cc) (.slice none 0 0)).run c.P w=_;unfold Op.equalIn;cases A <;> simp [run_underlying ht.u]
 refine .rd h (v:=.bool (if op=.eql then A.isNone else !A.isNone)) ?_ (.bool _) rfl;rcases dK with rfl|rfl
 ·simp [execOp,e1,e2,eqGuard,binOp,Op.equal,heq]
 ·simp [execOp,e1,e2,eqGuard,binOp,Op.equal,heq]
end
def D5 (P:Program) (T:Nat) (X Y:List FV) (b:Bool):Prop:=P.eqGuardType P.depth T=false∧∀ w:World,(Op.equalIn 10000 T (.agg (X.map FV.dU).toArray) (.agg (Y.map FV.dU).toArray)).run P w=.ok b w
theorem zpR {w0:World} {s:ah} (h:FR c.N w0 J s a w β) (op:BinOp) {T T2:TypeId} (x y:Operand) {X Y:List FV} (ex:s.ev x=.agg X) (hX:X.all FV.aW=true) (ey:s.ev y=.agg Y) (hY:Y.all FV.aW=true) (hl:D5 c.P T X Y b) (dK:op=.eql∨op=.neq) :
  ZO c w0 J s a ⟨dst,.binOp op T x y T2,ty,pos,after,g⟩ w (.bool (if op=.eql then b else !b)) []:=by
 have e1:a.eval x=.agg (X.map FV.dU).toArray:=(h.bY ex rfl).dh hX;have e2:a.eval y=.agg (Y.map FV.dU).toArray:=(h.bY ey rfl).dh hY;obtain ⟨h1,h2⟩:=hl;have h3:=fun op=>run_eqGuard_agg (P:=c.P) (w:=w) op T x y (X.map FV.dU).toArray (Y.map FV.dU).toArray h1;rcases dK with rfl|rfl
 ·refine .rd h (v:=.bool b) ?_ (.bool _) rfl;simp only [execOp,e1,e2,xy,h3,Vg,run_eql_struct,h2,Xs]
 ·refine .rd h (v:=.bool (!b)) ?_ (.bool _) rfl;simp only [execOp,e1,e2,xy,h3,Vg,run_neq_struct,h2,Xs]
def tX (P:Program) (f:Nat):Bool:=
 match P.funcs[f]? with
 | some fn => fn.body.isSome && fn.name != "runtime.NumGoroutine"
 | none => false
inductive ll where
 | fr|sh|ow (E sz:Nat)
 deriving DecidableEq,Inhabited
def Cv (w w' : World) (I:Nat→Prop):ll→Value→FV→Prop
 | .fr, v, f => Rd w' (fun b => w.heap.size ≤ b ∧ b<w'.heap.size) v f
 | .sh, v, f => Rd w' (fun b => I b ∨ (w.heap.size ≤ b ∧ b<w'.heap.size)) v f
 | .ow E sz, v, f => ∃ es us, f=.list sz es ∧ (∀ e ∈ es, e.length=sz) ∧ (∀ f ∈ es.flatten, f.one=true) ∧ w'.ownsRow w.heap.size E sz v es.length us ∧ aS w' (fun b => w.heap.size ≤ b ∧ b<w'.heap.size ∧ v.ownBlock ≠ some b) us es.flatten
structure xA (P:Program) (f:Nat) (args:List FV) (m:ll) (res:FV):Prop where
 go:tX P f=true
 hand:res.hand=none
 calls:∀ (w:World) (I:Nat→Prop) (vs:List Value),(∀ b,I b→b<w.heap.size)→aS w I vs args→Calls P f vs.toArray w fun e w'=>∃ v,e=.returned v∧Below w.heap.size w w'∧Cv w w' I m v res
inductive FV.le:FV→FV→Prop where
 | refl (f:FV):FV.le f f
 | undef (f:FV):FV.le f .undef
 | nil (sz:Nat):FV.le .nil (.list sz [])
 | Ez {fs gs:List FV} (hl:fs.length=gs.length) (h:∀ (j:Nat) f g, fs[j]? = some f → gs[j]? = some g → FV.le f g):FV.le (.agg fs) (.agg gs)
 | Hi {fs gs:List FV} (hl:fs.length=gs.length) (h:∀ (j:Nat) f g, fs[j]? = some f → gs[j]? = some g → FV.le f g):FV.le (.bd fs) (.bd gs)
inductive ud:List FV→List FV→Prop where
 | nil:ud [] []
 | cons {f g:FV} {fs gs:List FV} (h:FV.le f g) (hs:ud fs gs):ud (f :: fs) (g :: gs)
theorem ud.get {fs gs:List FV} (h:ud fs gs):fs.length=gs.length∧∀ (j:Nat) f g,fs[j]? = some f→gs[j]? = some g→FV.le f g:=by
 induction h with
 | nil => exact ⟨rfl, by simp⟩
 | cons h hs ih =>
  refine ⟨by simp [ih.1],fun j f g hf hg=>?_⟩;cases j with
  | zero => simp at hf hg; subst hf; subst hg; exact h
  | succ j => exact ih.2 j f g (by simpa using hf) (by simpa using hg)
theorem FV.le.agg {fs gs:List FV} (h:ud fs gs):FV.le (.agg fs) (.agg gs):=.Ez h.get.1 h.get.2
theorem FV.le.bd {fs gs:List FV} (h:ud fs gs):FV.le (.bd fs) (.bd gs):=.Hi h.get.1 h.get.2
theorem Rd.le {f g:FV} (h:FV.le f g):∀ {v:Value},Rd w I v f→Rd w I v g:=by
 induction h with
 | refl f => exact id
 | undef f => exact fun _ => .undef _
 | nil sz => intro v h; cases h; exact .list none 0 0 sz [] [] rfl (zg _) zc zc zc zc zc
 | @Ez fs gs hl h ih=>
  intro v hv;cases hv with
  | agg us fs bn hr =>
   refine .agg us gs (bn.trans hl) fun j u g hu hg=>?_;have hj:j<fs.length:=by rw [hl];exact (yq.1 hg).1
   exact ih j fs[j] g (by simp [hj]) hg (hr j u _ hu (by simp [hj]))
 | @Hi fs gs hl h ih=>
  intro v hv;cases hv with
  | bd us fs bn hr =>
   refine .bd us gs (bn.trans hl) fun j u g hu hg=>?_;have hj:j<fs.length:=by rw [hl];exact (yq.1 hg).1
   exact ih j fs[j] g (by simp [hj]) hg (hr j u _ hu (by simp [hj]))
inductive qH (s:ah) (m:ll):FV→FV→Prop where
 | plain (f:FV) (hn:f.hand=none):qH s m f f
 | nil (sz:Nat):qH s m .nil (.list sz [])
 | sub (f g:FV) (hn:f.hand=none) (hle:FV.le f g):qH s m f g
 | own (id ae o n:Nat) (hl:s.live id ae) (bK:(s.ob id).ao.row=true) (hm:m=.sh → (s.ob id).ao=.shut):qH s m (.own id ae o n) (.list (s.ob id).sz (((s.ob id).es.drop o).take n))
inductive Ug (s:ah) (m:ll):List Operand→List FV→Prop where
 | nil:Ug s m [] []
 | cons {x:Operand} {xs:List Operand} {g:FV} {gs:List FV} (h:qH s m (s.ev x) g) (hs:Ug s m xs gs):Ug s m (x :: xs) (g :: gs)
section
variable {c:Ctx} {w0 w:World} {J:JJ} {s:ah} {a:Act} {β:Nat→Option Nat}
def qP (J:JJ) (w:World) (β:Nat→Option Nat) (s:ah) (m:ll) (b:Nat):Prop:=if m=.sh then aF J w β s b else b<w.heap.size
theorem FR.arg (h:FR c.N w0 J s a w β) {m:ll} {g:FV} (hx:qH s m (s.ev x) g):Rd w (qP J w β s m) (a.eval x) g:=by
 have FF:∀ b,aF J w β s b→qP J w β s m b∧w.heap[b]? = w.heap[b]?:=fun b hb=>by
  unfold qP;split
  ·exact ⟨hb,rfl⟩
  ·exact ⟨hb.1,rfl⟩
 generalize hf:s.ev x=f at hx;cases hx with
 | plain f hn => exact (h.bY hf hn).mono FF
 | sub f g hn hle => exact ((h.bY hf hn).mono FF).le hle
 | nil sz =>
  rw [h.fp hf];exact .list none 0 0 sz [] [] rfl (zg _) zc zc zc zc zc
 | own id ae o n hl bK hm=>
  obtain ⟨A,cc,e1,e2,e3,e4,e5⟩:=(h.cj hf hl.1 hl.2).ex;obtain ⟨hw,bQ,A',cc',us,lv,pg,hr,MK,aI⟩:=h.src hf (Src.own id ae o n hl bK);rw [e1] at lv ⊢;injection lv with k1 k2 k3
  subst k1;refine .list A n cc _ _ us k2.symm e2 hw bQ (fun h0=>?_) hr.1 (hr.mono FF).2;cases hb:β id with
  | none => have := (e4 hb).2; omega
  | some b=>
   obtain ⟨o',rfl,_⟩:=e5 b hb;refine ⟨b,o',rfl,?_,fun j u hu=>by have:=aI _ rfl j u hu;rwa [ZD] at this⟩;have aA:=((h.obj id hl.1).lt hb).2;unfold qP;split
   ·rename_i JS;have GF:=hm JS;refine ⟨aA,h.fresh b ((h.obj id hl.1).lt hb).1 (.inr ⟨id,hl.1,hb⟩),fun aL bn e=>?_⟩;have:=h.inj id aL b hl.1 (Zn.bc bn) hb e;subst this;rw [GF] at bn;cases bn
   ·exact aA
theorem FR.args (h:FR c.N w0 J s a w β) {m:ll}:∀ {xs:List Operand} {gs:List FV},Ug s m xs gs→aS w (qP J w β s m) (xs.map a.eval) gs
 | _, _, .nil => aS.nil
 | _, _, .cons hx hs => aS.cons (h.arg hx) (h.args hs)
theorem xh {P:Program} {f:Nat} (hg:tX P f=true) (args:Array Value) (w:World):(callFunc f args).run P w=.ok (.enter f args) w:=by
 unfold tX at hg;cases hf:P.funcs[f]? with
 | none => rw [hf] at hg; cases hg
 | some fn =>
  rw [hf] at hg;simp only [zx,bne_iff_ne,ne_eq] at hg;have hb:fn.body≠none:=fun e=>by rw [e] at hg;cases hg.1
  have hp:(program:Sem Program).run P w=.ok P w:=rfl;simp [callFunc,hp,hf,hg.2,hb]
theorem zra (h:FR c.N w0 J s a w β) {f:Nat} {ts:Array TypeId} {m:ll} {gs:List FV} {res:FV} (hs:xA c.P f gs m res) (hx:Ug s m xs.toList gs) {ty:TypeId} {pos:String} {after:Array Edge} {g:Option (Nat×Bool)}
{Q : Exit→Act→World→Prop} (hK:∀ v w',Below w.heap.size w w'→Cv w w' (qP J w β s m) m v res→K (a.put dst v) w') :
   (⟨dst,.call { callee:=.value (.func f),args:=xs,argTypes:=ts },ty,pos,after,g⟩:Oper).wp c.P a w K Q:=by
 have FX:∀ b,qP J w β s m b→b<w.heap.size:=fun b hb=>by
  unfold qP at hb;split at hb
  ·exact hb.1
  ·exact hb
 have hc:=hs.calls w (qP J w β s m) (xs.toList.map a.eval) FX (h.args hx);have bh:(xs.toList.map a.eval).toArray=xs.map a.eval:=by
  apply xU;simp
 rw [bh] at hc;unfold Oper.wp;have bg:(execOp a.eval ⟨dst,.call { callee:=.value (.func f),args:=xs,argTypes:=ts },ty,pos,after,g⟩).run c.P w=.ok (.enter f (xs.map a.eval)) w:=by
  have:=xh (P:=c.P) hs.go (xs.map a.eval) w;simp [execOp,resolve,Act.eval,Deferred.ofValue,invoke,this]
 rw [bg,Oper.upon_enter];refine hc.mono ?_;rintro e w' ⟨v,rfl,hb,hr⟩;exact hK v w' hb hr
end
section
variable {c:Ctx} {w0 w:World} {J:JJ} {s:ah} {a:Act} {β:Nat→Option Nat}
theorem zt3 (h:FR c.N w0 J s a w β) {f:Nat} {ts:Array TypeId} {gs aH:List FV} {res:FV} (ex:s.ev x=.fn f aH) (hs:xA c.P f (gs++aH) .fr res) (hx:Ug s .fr xs.toList gs) {ty:TypeId} {pos:String} {after:Array Edge} {g:Option (Nat×Bool)}
{Q : Exit→Act→World→Prop} (hK:∀ v w',Below w.heap.size w w'→Cv w w' (fun b=>b<w.heap.size) .fr v res→K (a.put dst v) w') :
   (⟨dst,.call { callee:=.value x,args:=xs,argTypes:=ts },ty,pos,after,g⟩:Oper).wp c.P a w K Q:=by
 have Dl:=h.args hx;have hl:∀ b,qP J w β s .fr b→b<w.heap.size:=fun b hb=>by simpa [qP] using hb
 have hv:=VR.rd (by have:=h.ev x;rwa [ex] at this) rfl;generalize GS:a.eval x=v at hv;cases hv with
 | fn f us fs im iq=>
  have dB:aS w (fun b=>b<w.heap.size) us aH:=⟨im,fun j u q hu hq=>Rd.mono (fun b hb=>⟨hb.1,rfl⟩) (iq j u q hu hq)⟩
  have Nf:aS w (fun b=>b<w.heap.size) (xs.toList.map a.eval) gs:=⟨Dl.1,fun j u q hu hq=>Rd.mono (fun b hb=>⟨hl b hb,rfl⟩) (Dl.2 j u q hu hq)⟩
  have hc:=hs.calls w (fun b=>b<w.heap.size) (xs.toList.map a.eval++us) (fun b hb=>hb) (Nf.append dB);have bh:(xs.toList.map a.eval++us).toArray=xs.map a.eval++us.toArray:=by
   apply xU;simp
  rw [bh] at hc;unfold Oper.wp;have bg:(execOp a.eval ⟨dst,.call { callee:=.value x,args:=xs,argTypes:=ts },ty,pos,after,g⟩).run c.P w=.ok (.enter f (xs.map a.eval++us.toArray)) w:=by
   have:=xh (P:=c.P) hs.go (xs.map a.eval++us.toArray) w;simp [execOp,resolve,GS,Deferred.ofValue,invoke,this]
  rw [bg,Oper.upon_enter];refine hc.mono ?_;rintro e w' ⟨v,rfl,hb,hr⟩;exact hK v w' hb hr
theorem znc (hF:FR c.N w0 J s a w β) {f:Nat} {aH:List FV} (hx:xs.toList.map s.ev=aH) (hc:∀ g∈aH,g.hand=none) :
  ZO c w0 J s a ⟨dst,.makeFunc (.func f) #[] xs,ty,pos,after,g⟩ w (.fn f aH) []:=by
 have hl:aS w (aF J w β s) (xs.toList.map a.eval) aH:=by
  subst hx;refine ⟨by simp,fun j u q hu hq=>?_⟩;rw [ye] at hu hq;cases oR:xs.toList[j]? with
  | none => rw [oR] at hu; cases hu
  | some y =>
   rw [oR] at hu hq;simp only [Za,yw] at hu hq;subst hu;subst hq;exact VR.rd (hF.ev y) (hc _ (zi.2 ⟨y,zG oR,rfl⟩))
 have hv:(xs.toList.map a.eval).toArray=xs.map a.eval:=by apply xU;simp
 exact .rd hF (v:=.func (.func f) #[] (xs.map a.eval)) (by simp [execOp,Instr.makeFunc]) (by rw [← hv];exact .fn f _ _ hl.1 hl.2) rfl
end
def o0 (op:Op):Prop:=(∃ T x y,op=.store T x y)∨∃ T x y z,op=.mapUpdate T x y z
def DQ:Op→Bool
 | .move _ => true
 | .assign _ => true
 | _ => false
def VH (s:ah) (d:Nat) (op:Op):List Nat:=d::bif DQ op then [] else op.operands.toList.filterMap fun x=>(s.ev x).hand.map (·.1)
theorem Q9 (s:ah) (d:Nat) (op:Op):d∈VH s d op:=Yu
theorem WJ {s:ah} (aO:DQ op=false) (hx:x∈op.operands.toList) {id:Nat} (h:(s.ev x).hand=some (id,ae)):id∈VH s d op:=by
 unfold VH;rw [aO];exact xW _ (yU.2 ⟨x,hx,by rw [h];rfl⟩)
inductive aD (c:Ctx) (s:ah) (d:Nat):Op→FV→List (Nat×zE)→Prop where
 | move (x:Operand):aD c s d (.move x) (s.ev x) []
 | assign (x:Operand):aD c s d (.assign x) (s.ev x) []
 | pick (kn x y:Operand) {b:Bool} (hb:s.ev kn=.bool b):aD c s d (.pick kn x y) (if b then s.ev x else s.ev y) []
 | dC (op:BinOp) (T T2:TypeId) (x y:Operand) {k:IntKind} {m n:Int} {f:FV} (ex:s.ev x=.int k m) (ey:s.ev y=.int k n) (hf:dC op k m n=some f):aD c s d (.binOp op T x y T2) f []
 | pS (op:BinOp) (T T2:TypeId) (x y:Operand) {k:IntKind} {m n:Int} (ex:s.ev x=.int k m) (ey:s.ev y=.int k n) (hn:n ≠ 0) (dK:op=.quo ∨ op=.rem):aD c s d (.binOp op T x y T2) (.int k (if op=.quo then k.wrap (m.tdiv n) else m.tmod n)) []
 | uf (op:BinOp) {T T2:TypeId} (x y:Operand) {m n:Bool} (hT:(c.ty T).k=.bool) (ex:s.ev x=.bool m) (ey:s.ev y=.bool n) (dK:op=.eql ∨ op=.neq):aD c s d (.binOp op T x y T2) (.bool (if op=.eql then m == n else m != n)) []
 | not (T:TypeId) (x:Operand) {b:Bool} (ex:s.ev x=.bool b):aD c s d (.unOp .not T x) (.bool (!b)) []
 | shift (op:BinOp) (T T2:TypeId) (x y:Operand) {k yk:IntKind} {m n:Int} (ex:s.ev x=.int k m) (ey:s.ev y=.int yk n) (hn:0 ≤ n) (dK:op=.shl ∨ op=.shr):aD c s d (.binOp op T x y T2) (.int k (if op=.shl then k.wrap (m * 2 ^ (min n.toNat k.bits)) else m.fdiv (2 ^ (min n.toNat k.bits)))) []
 | conv {T T2:TypeId} {k2:IntKind} (hT:(c.ty T).k ≠ .other) (ri:(c.ty T2).k=.int k2) (x:Operand) {k:IntKind} {n:Int} (ex:s.ev x=.int k n):aD c s d (.convert T T2 x) (.int k2 (k2.wrap n)) []
 | neg (T:TypeId) (x:Operand) {k:IntKind} {n:Int} (ex:s.ev x=.int k n):aD c s d (.unOp .neg T x) (.int k (k.wrap (-n))) []
 | min2 (bi:Builtin) (T T2:TypeId) (x y:Operand) {k:IntKind} {m n:Int} (ex:s.ev x=.int k m) (ey:s.ev y=.int k n) (ff:bi=.min∨bi=.max) :
   aD c s d (.call { callee:=.builtin bi,args:=#[x,y],argTypes:=#[T,T2] }) (.int k (if bi=.min then (if n<m then n else m) else (if m<n then n else m))) []
 | k9 {T e:TypeId} (hT:(c.ty T).k=.slice e) (x:Operand) {id ae o n:Nat} (ex:s.ev x=.own id ae o n) (hl:s.live id ae):aD c s d (.call { callee := .builtin .len, args := #[x], argTypes := #[T] }) (.int .i64 n) []
 | jf {T e:TypeId} (hT:(c.ty T).k=.slice e) (x:Operand) {sz:Nat} {es:List (List FV)} (ex:s.ev x=.list sz es):aD c s d (.call { callee := .builtin .len, args := #[x], argTypes := #[T] }) (.int .i64 es.length) []
 | k8 {T e:TypeId} (hT:(c.ty T).k=.slice e) (x:Operand) (ex:s.ev x=.nil):aD c s d (.call { callee := .builtin .len, args := #[x], argTypes := #[T] }) (.int .i64 0) []
 | gv {T ft i off:Nat} {fs:List (Nat×Nat)} (hT:(c.ty T).k=.aQ fs) (hf:fs[i]? = some (off,ft)) (ml:(c.ty ft).k≠.other) (aY:(c.ty ft).size≠0) (x:Operand) {id ae j o:Nat} (ex:s.ev x=.ptr id ae j o) (hl:s.live id ae) :
   aD c s d (.fieldAddr T x i) (.ptr id ae j (o+off)) []
 | fD {T ft i off:Nat} {fs:List (Nat×Nat)} (hT:(c.ty T).k=.aQ fs) (hf:fs[i]? = some (off,ft)) (ml:(c.ty ft).k≠.other) (aY:(c.ty ft).size≠0) (x:Operand) {sz j o:Nat} {es:List (List FV)} (ex:s.ev x=.ax sz es j o) :
   aD c s d (.fieldAddr T x i) (.ax sz es j (o+off)) []
 | fG {T e:Nat} (hT:(c.ty T).k=.slice e) (he:(c.ty e).k≠.other) (x y:Operand) {sz:Nat} {es:List (List FV)} {k:IntKind} {n:Nat} (ex:s.ev x=.list sz es) (aY:(c.ty e).size=sz) (ey:s.ev y=.int k n) (h1:n<es.length) :
   aD c s d (.indexAddr T x y) (.ax sz es n 0) []
 | fA {T e:Nat} (hT:(c.ty T).k=.slice e) (he:(c.ty e).k≠.other) (x y:Operand) {id ae o m:Nat} {k:IntKind} {n:Nat} (ex:s.ev x=.own id ae o m) (hl:s.live id ae) (aY:(c.ty e).size=(s.ob id).sz) (ey:s.ev y=.int k n) (h1:n<m) :
   aD c s d (.indexAddr T x y) (.ptr id ae (o+n) 0) []
 | fF {T m e:Nat} (hT:(c.ty T).k=.arr m e) (he:(c.ty e).k≠.other) (x y:Operand) {id ae j o:Nat} {k:IntKind} {n:Nat} (ex:s.ev x=.ptr id ae j o) (hl:s.live id ae) (ey:s.ev y=.int k n) (h1:n<m) :
   aD c s d (.indexAddr T x y) (.ptr id ae j (o+n * (c.ty e).size)) []
 | fV {T m e:Nat} (hT:(c.ty T).k=.arr m e) (he:(c.ty e).k≠.other) (x y:Operand) {sz j o:Nat} {es:List (List FV)} {k:IntKind} {n:Nat} (ex:s.ev x=.ax sz es j o) (ey:s.ev y=.int k n) (h1:n<m) :
   aD c s d (.indexAddr T x y) (.ax sz es j (o+n * (c.ty e).size)) []
 | fB {T:Nat} {bb:Bool} (hk:(c.ty T).k.bD = some bb) (x:Operand) {sz j o:Nat} {es:List (List FV)} (ex:s.ev x=.ax sz es j o) (hj:j<es.length) (ho:o+(c.ty T).size ≤ sz) (eJ : o<sz):aD c s d (.load T x) (UG (c.ty T) ((es.getD j []).drop o)) []
 | gF {T:Nat} {bb:Bool} (hk:(c.ty T).k.bD = some bb) (x:Operand) {id ae j o:Nat} (ex:s.ev x=.ptr id ae j o) (hl:s.live id ae) (bK:(s.ob id).ao.row=true) (hj:j<(s.ob id).es.length) (ho:o+(c.ty T).size≤(s.ob id).sz) (eJ : o<(s.ob id).sz) :
   aD c s d (.load T x) (UG (c.ty T) (((s.ob id).es.getD j []).drop o)) []
 | store {T:Nat} (hk:(c.ty T).k≠.other) (x y:Operand) {id ae j o:Nat} (ex:s.ev x=.ptr id ae j o) (hl:(s.ob id).ao=.own) (hv:(s.ob id).ae=ae) {f:FV} (ey:s.ev y=f) (hf:f.cells.all FV.one=true) (cu:f.cells.length=(c.ty T).size)
   (hj:j<(s.ob id).es.length) (ho:o+(c.ty T).size≤(s.ob id).sz):aD c s d (.store T x y) .undef [(id,{ s.ob id with es:=(s.ob id).es.set j (av ((s.ob id).es.getD j []) o f.cells) })]
 | alloc {T:Nat} (hk:(c.ty T).k ≠ .other) (hz:(c.ty T).zero.all FV.one=true):aD c s d (.alloc T) (.ptr d ((s.ob d).ae+1) 0 0) [(d, ⟨(s.ob d).ae+1, .own, T, (c.ty T).zero.length, [(c.ty T).zero]⟩)]
 | box {T:Nat} (x:Operand) {f:FV} (ex:s.ev x=f) (hf:f.cells.all FV.one=true):aD c s d (.box T x) (.ptr d ((s.ob d).ae+1) 0 0) [(d, ⟨(s.ob d).ae+1, .own, T, f.cells.length, [f.cells]⟩)]
 | build {T:Nat} {fs:List (Nat×Nat)} (hT:(c.ty T).k=.aQ fs) (iY:∀ p∈fs,(c.ty p.2).k≠.other) (ps:Array (Nat×Operand)) {cs:List FV} (hf:Vo (fun i=>(fs[i]?).map fun p=>(p.1,(c.ty p.2).size)) (c.ty T).zero (s.parts ps)=some cs) :
   aD c s d (.build T ps) (.agg cs) []
 | kH {T n e:Nat} (hT:(c.ty T).k=.arr n e) (he:(c.ty e).k ≠ .other) (ps:Array (Nat × Operand)) {cs:List FV} (hf:Vo (fun i => some (i * (c.ty e).size, (c.ty e).size)) (c.ty T).zero (s.parts ps)=some cs):aD c s d (.build T ps) (.agg cs) []
 | buildSlice {T e n:Nat} (hT:(c.ty T).k=.slice e) (he:(c.ty e).k≠.other) (ps:Array (Nat×Operand)) (es:List (List FV)) (hn:es.length=n) (hw:∀ x∈es,x.length=(c.ty e).size) (ho:∀ f∈es.flatten,f.one=true) (dB:n * (c.ty e).size≤16777216) (kW:n≤16777216)
   (hf:Vo (fun i=>some (i * (c.ty e).size,(c.ty e).size)) (List.replicate (n * (c.ty e).size) .undef) (s.parts ps)=some es.flatten):aD c s d (.buildSlice T n ps) (.own d ((s.ob d).ae+1) 0 n) [(d,⟨(s.ob d).ae+1,.own,e,(c.ty e).size,es⟩)]
 | dt {T e n:Nat} (hT:(c.ty T).k=.slice e) (he:(c.ty e).k≠.other) (ps:Array (Nat×Operand)) (es:List (List FV)) (hn:es.length=n) (hw:∀ x∈es,x.length=(c.ty e).size) (ho:∀ f∈es.flatten,f.one=true) (dB:n * (c.ty e).size≤16777216) (kW:n≤16777216)
   (hf:Vo (fun i=>some (i * (c.ty e).size,(c.ty e).size)) (List.replicate (n * (c.ty e).size) .undef) (s.parts ps)=some es.flatten):aD c s d (.buildSlice T n ps) (.list (c.ty e).size es) []
 | makeSlice {T e n:Nat} (hT:(c.ty T).k=.slice e) (he:(c.ty e).k≠.other) (x y:Operand) {k1 k2:IntKind} (ex:s.ev x=.int k1 n) (ey:s.ev y=.int k2 n) (ho:(c.ty e).zero.all FV.one=true) (hb:(c.ty e).bytes * n≤281474976710656) (hn:n≤281474976710656) :
   aD c s d (.makeSlice T x y) (.own d ((s.ob d).ae+1) 0 n) [(d,⟨(s.ob d).ae+1,.own,e,(c.ty e).size,List.replicate n (c.ty e).zero⟩)]
 | gJ {T e:Nat} (hT:(c.ty T).k=.slice e) (he:(c.ty e).k≠.other) (x:Operand) (lo hi:Option Operand) {id ae o m l u:Nat} (ex:s.ev x=.own id ae o m) (hl:s.live id ae) (aY:(c.ty e).size=(s.ob id).sz) (gA:s.lo lo l) (gz:s.hi hi m u) (h1:l≤u) (h2:u≤m) :
   aD c s d (.slice T x lo hi none) (.own id ae (o+l) (u - l)) []
 | gZ {T e:Nat} (hT:(c.ty T).k=.slice e) (he:(c.ty e).k≠.other) (x:Operand) (lo hi:Option Operand) {sz l u:Nat} {es:List (List FV)} (ex:s.ev x=.list sz es) (aY:(c.ty e).size=sz) (gA:s.lo lo l) (gz:s.hi hi es.length u) (h1:l≤u) (h2:u≤es.length) :
   aD c s d (.slice T x lo hi none) (.list sz ((es.drop l).take (u - l))) []
 | jF {T e:Nat} (hT:(c.ty T).k=.slice e) (he:(c.ty e).k ≠ .other) (x:Operand) (lo hi:Option Operand) (ex:s.ev x=.nil) (gA:s.lo lo 0) (gz:s.hi hi 0 0):aD c s d (.slice T x lo hi none) .nil []
 | extract (x:Operand) {i:Nat} {fs:List FV} {f:FV} (ex:s.ev x=.bd fs) (hf:fs[i]? = some f) (hn:f.hand=none):aD c s d (.extract x i) f []
 | la (x:Operand) {id ae i o:Nat} (ex:s.ev x=.ptr id ae i o) (hl:s.live id ae):aD c s d (.nilCheck x) (.ptr id ae i o) []
 | ji (x:Operand) {sz i o:Nat} {es:List (List FV)} (ex:s.ev x=.ax sz es i o):aD c s d (.nilCheck x) (.ax sz es i o) []
 | append {T e:Nat} (hT:(c.ty T).k=.slice e) (he:(c.ty e).k≠.other) (bm:0<(c.ty e).size) (x y:Operand) {f1 f2:FV} {c6 aG:List (List FV)} {i:Option Nat} (ex:s.ev x=f1) (ey:s.ev y=f2) (h1:pa s f1 (c.ty e).size c6 i) (hE:∀ k,i=some k→(s.ob k).E=e)
   (h2:Src s f2 (c.ty e).size aG) (hb:(c6.length+aG.length) * (c.ty e).bytes≤140737488355328) (hm:c6.length+aG.length≤140737488355328) :
   aD c s d (.call { callee:=.builtin .append,args:=#[x,y],argTypes:=#[T,T] }) (.own d ((s.ob d).ae+1) 0 (c6++aG).length) (VZ s d e (c.ty e).size (c6++aG) i)
 | iP {T e:Nat} (hT:(c.ty T).k=.slice e) (he:(c.ty e).k≠.other) (bm:0<(c.ty e).size) (x y:Operand) {f1 f2:FV} {c6 aG:List (List FV)} {i:Option Nat} (ex:s.ev x=f1) (ey:s.ev y=f2) (h1:pa s f1 (c.ty e).size c6 i) (hE:∀ k,i=some k→(s.ob k).E=e)
   (h2:Src s f2 (c.ty e).size aG) (hb:(c6.length+aG.length) * (c.ty e).bytes≤140737488355328) (hm:c6.length+aG.length≤140737488355328) :
   aD c s d (.call { callee:=.builtin .append,args:=#[x,y],argTypes:=#[T,T] }) (.list (c.ty e).size (c6++aG)) (VZ s d e (c.ty e).size (c6++aG) i++[(d,⟨(s.ob d).ae+1,.dead,e,(c.ty e).size,c6++aG⟩)])
 | call {f:Nat} {xs:Array Operand} {ts:Array TypeId} {m:ll} {gs:List FV} {res:FV} (hs:xA c.P f gs m res) (hm:m=.fr ∨ m=.sh) (hx:Ug s m xs.toList gs):aD c s d (.call { callee := .value (.func f), args := xs, argTypes := ts }) res []
 | lZ {f:Nat} {x:Operand} {xs:Array Operand} {ts:Array TypeId} {gs aH:List FV} {res:FV} (ex:s.ev x=.fn f aH) (hs:xA c.P f (gs ++ aH) .fr res) (hx:Ug s .fr xs.toList gs):aD c s d (.call { callee := .value x, args := xs, argTypes := ts }) res []
 | jz {f:Nat} {xs:Array Operand} {aH:List FV} (hx:xs.toList.map s.ev=aH) (hc:∀ g ∈ aH, g.hand=none):aD c s d (.makeFunc (.func f) #[] xs) (.fn f aH) []
 | kI {f:Nat} {xs:Array Operand} {ts:Array TypeId} {E sz:Nat} {gs:List FV} {es:List (List FV)} (hs:xA c.P f gs (.ow E sz) (.list sz es)) (hx:Ug s (.ow E sz) xs.toList gs) :
   aD c s d (.call { callee:=.value (.func f),args:=xs,argTypes:=ts }) (.own d ((s.ob d).ae+1) 0 es.length) [(d,⟨(s.ob d).ae+1,.own,E,sz,es⟩)]
 | iO {T e:Nat} (hT:(c.ty T).k=.slice e) (he:(c.ty e).k≠.other) (bm:0<(c.ty e).size) (x y:Operand) {id ae o n:Nat} (ex:s.ev x=.own id ae o n) (bN:(s.ob id).ao=.roomy) (aK:(s.ob id).ae=ae)
   (hE:(s.ob id).E=e) (aY:(s.ob id).sz=(c.ty e).size) (jY:o+n=(s.ob id).es.length) {f2:FV} {aG:List (List FV)} (ey:s.ev y=f2) (h2:Src s f2 (c.ty e).size aG) (h1:aG.length=1) :
   aD c s d (.call { callee:=.builtin .append,args:=#[x,y],argTypes:=#[T,T] }) (.own d ((s.ob d).ae+1) o (n+1)) [(id,{ s.ob id with ao:=.dead }),(d,⟨(s.ob d).ae+1,.own,e,(c.ty e).size,(s.ob id).es++aG⟩)]
 | iN {T e:Nat} (hT:(c.ty T).k=.slice e) (he:(c.ty e).k≠.other) (bm:0<(c.ty e).size) (x y:Operand) {id ae o n:Nat} (ex:s.ev x=.own id ae o n) (bN:(s.ob id).ao=.full) (aK:(s.ob id).ae=ae)
   (hE:(s.ob id).E=e) (aY:(s.ob id).sz=(c.ty e).size) (jY:o+n=(s.ob id).es.length) {f2:FV} {aG:List (List FV)} (ey:s.ev y=f2) (h2:Src s f2 (c.ty e).size aG) (h1:aG.length=1)
   (hb:(n+1) * (c.ty e).bytes≤140737488355328) (hm:n+1≤140737488355328) :
   aD c s d (.call { callee:=.builtin .append,args:=#[x,y],argTypes:=#[T,T] }) (.own d ((s.ob d).ae+1) 0 (n+1)) [(id,{ s.ob id with ao:=.dead }),(d,⟨(s.ob d).ae+1,.own,e,(c.ty e).size,(s.ob id).es.drop o++aG⟩)]
 | oU {T:Nat} (hk:(c.ty T).k.bD = some false) (hz:(c.ty T).size=1) (x:Operand) {id ae j:Nat} (ex:s.ev x=.ptr id ae j 0) (bN:(s.ob id).ao=.aj) (aK:(s.ob id).ae=ae) (aY:(s.ob id).sz=1) {f:FV} (hj:(s.ob id).es[j]? = some [f]):aD c s d (.load T x) f []
 | fC {T:Nat} (hk:(c.ty T).k≠.other) (hz:(c.ty T).size=1) (x y:Operand) {id ae j:Nat} (ex:s.ev x=.ptr id ae j 0) (bN:(s.ob id).ao=.aj) (aK:(s.ob id).ae=ae) (aY:(s.ob id).sz=1) {f:FV} (ey:s.ev y=f)
   (hf:Xh s f) (hj:j<(s.ob id).es.length):aD c s d (.store T x y) .undef [(id,{ s.ob id with es:=(s.ob id).es.set j [f] })]
 | copy {T T2 e:Nat} (hT:(c.ty T).k=.slice e) (he:(c.ty e).k≠.other) (hz:(c.ty e).size=1) (x y:Operand) {id ae o m:Nat} (ex:s.ev x=.own id ae o m) (bN:(s.ob id).ao=.own) (aK:(s.ob id).ae=ae) (aY:(s.ob id).sz=1) {f2:FV} {aG:List (List FV)} (ey:s.ev y=f2) (h2:Src s f2 1 aG) :
   aD c s d (.call { callee:=.builtin .copy,args:=#[x,y],argTypes:=#[T,T2] }) (.int .i64 ((aG.take m).length:Nat)) [(id,{ s.ob id with es:=av (s.ob id).es o (aG.take m) })]
 | jh {T:Nat} (hk:(c.ty T).k ≠ .other) (eT:WA c.P T=false) (x:Operand) {f:FV} (ex:s.ev x=f) (hn:f.hand=none):aD c s d (.makeInterface T x) (.iface T f) []
 | gG {T:Nat} (hk:(c.ty T).k ≠ .other) (eT:WA c.P T=false) (x:Operand) {f:FV} (ex:s.ev x=f) (hn:f.bG=true):aD c s d (.makeInterface T x) (.wrap (.mI T) [f]) []
 | jl {T T2:Nat} (hk:(c.ty T).k ≠ .other) (eT:WA c.P T=false) (x:Operand) {f:FV} (ex:s.ev x=.iface T f) (hn:f.hand=none):aD c s d (.typeAssert x T2 T false) f []
 | jg {f:Nat} {xs:Array Operand} {aH:List FV} (hx:xs.toList.map s.ev=aH) (hn:aH.all FV.bG=true):aD c s d (.makeFunc (.func f) #[] xs) (.wrap (.fn f) aH) []
 | bound {f:Nat} {xs:Array Operand} {aH:List FV} (hx:xs.toList.map s.ev=aH) (hn:aH.all FV.bG=true):aD c s d (.makeFunc (.func f) xs #[]) (.wrap (.bound f) aH) []
 | l5 (op:BinOp) {T T2:Nat} (x y:Operand) {X Y:List FV} {b:Bool} (ex:s.ev x=.agg X) (hX:X.all FV.aW=true) (ey:s.ev y=.agg Y) (hY:Y.all FV.aW=true) (hl:D5 c.P T X Y b) (dK:op=.eql ∨ op=.neq):aD c s d (.binOp op T x y T2) (.bool (if op=.eql then b else !b)) []
 | ie (op:BinOp) {T T2 e:Nat} (hT:(c.ty T).k=.slice e) (x y:Operand) {f:FV} {b:Bool} (ex:s.ev x=f) (hb:Cu s f b) (ey:s.ev y=.nil) (dK:op=.eql ∨ op=.neq):aD c s d (.binOp op T x y T2) (.bool (if op=.eql then b else !b)) []
 | makeMap (T:Nat):aD c s d (.makeMap T none) (.omap d ((s.ob d).ae+1)) [(d, ⟨(s.ob d).ae+1, .aC, T, 0, []⟩)]
 | look {T k e:Nat} (hT:(c.ty T).k=.map k e) {bb:Bool} (he:(c.ty e).k.bD = some bb) (K:Keyed c.P k) (x y:Operand) (ok:Bool) {es:List (List FV)} (ex:(∃ id ae,s.ev x=.omap id ae∧(s.live id ae∧(s.ob id).ao≠.bh)∧(s.ob id).es=es)∨s.ev x=.smap es)
   {kf:FV} (ey:s.ev y=kf) (hk:∀ row∈es,∀ kf,row.head? = some kf→XH c.P k kf) (cG:XH c.P k kf) {vf:FV} {found:Bool} (hl:lK es kf (c.ty e).mZ vf found) (hn:vf.hand=none):aD c s d (.lookup T x y ok) (if ok then .bd [vf,.bool found] else vf) []
 | update {T k e:Nat} (hT:(c.ty T).k=.map k e) (K:Keyed c.P k) (x y z:Operand) {id ae:Nat} (ex:s.ev x=.omap id ae) (bN:(s.ob id).ao=.aC) (aK:(s.ob id).ae=ae)
   {kf vf:FV} (ey:s.ev y=kf) (ez:s.ev z=vf) (hk:∀ row∈(s.ob id).es,∀ kf,row.head? = some kf→XH c.P k kf) (cG:XH c.P k kf) (hn:vf.hand=none) {ba : List (List FV)} (hs:qg (s.ob id).es kf vf ba) :
   aD c s d (.mapUpdate T x y z) .undef [(id,{ s.ob id with es:=ba })]
 | nE {op:Op} {wr:List (Nat×zE)} (aO:DQ op=false) (bl:o0 op) (hg:∀ s' : ah,(∀ x∈op.operands.toList,s'.ev x=s.ev x)→(∀ id∈VH s d op,s'.ob id=s.ob id)→
   ∀ (w0:World) (J:JJ) (a:Act) (w:World) (β:Nat→Option Nat) (dst:Option Nat) (ty:TypeId) (pos:String) (after:Array Edge) (g:Option (Nat×Bool)),FR c.N w0 J s' a w β→
    ∃ w',(execOp a.eval ⟨dst,op,ty,pos,after,g⟩).run c.P w=.ok .skip w'∧FR c.N w0 J (s'.wr wr) a w' β):aD c s d op .undef wr
 | ext {op:Op} {f:FV} {wr:List (Nat×zE)} (aO:DQ op=false) (bl:¬ o0 op) (hg:∀ s' : ah,(∀ x∈op.operands.toList,s'.ev x=s.ev x)→(∀ id∈VH s d op,s'.ob id=s.ob id)→
   ∀ (w0:World) (J:JJ) (a:Act) (w:World) (β:Nat→Option Nat) (ty:TypeId) (pos:String) (after:Array Edge) (g:Option (Nat×Bool)),d<c.N→FR c.N w0 J s' a w β→
    ∀ (K:Act→World→Prop) (Q:Exit→Act→World→Prop),(∀ a' w' aJ,FR c.N w0 J ((s'.wr wr).put d f) a' w' aJ→K a' w')→(⟨some d,op,ty,pos,after,g⟩:Oper).wp c.P a w K Q):aD c s d op f wr
def ah.lg (s:ah):Option Nat→FV→ah
 | some d, f => s.put d f
 | none, _ => s
def ah.app (s:ah) (dst:Option Nat) (f:FV) (wr:List (Nat×zE)):ah:=(s.wr wr).lg dst f
section
variable {c:Ctx} {w0 w:World} {J:JJ} {s:ah} {a:Act} {β:Nat→Option Nat}
theorem ZO.wp {o:Oper} {f:FV} {wr:List (Nat×zE)} (h:ZO c w0 J s a o w f wr) (hd:∀ d,o.dst=some d→d<c.N) (hK:∀ a' w' aJ,FR c.N w0 J (s.app o.dst f wr) a' w' aJ→K a' w'):o.wp c.P a w K Q:=by
 obtain ⟨v,w',aJ,hr,hF,hV,aK⟩:=h;unfold Oper.wp;rw [hr,Oper.upon_value];unfold ah.app at hK;cases hdd:o.dst with
 | none => rw [hdd] at hK; exact hK _ _ _ hF
 | some d => rw [hdd] at hK; exact hK _ _ _ (hF.put (hd d hdd) hV aK)
theorem aD.sound {f:FV} {wr:List (Nat×zE)} (h:aD c s d op f wr) (hF:FR c.N w0 J s a w β) (o:Oper) (ho:o.op=op) (hd:o.dst=some d∨(o.dst=none∧o0 op)) (cC:∀ d,o.dst=some d→d<c.N)
(hK : ∀ a' w' aJ,FR c.N w0 J (s.app o.dst f wr) a' w' aJ→K a' w'):o.wp c.P a w K Q:=by
 obtain ⟨dst,G8,ty,pos,after,g⟩:=o;dsimp only at ho hd cC hK;subst ho;by_cases aO:o0 G8
 ·rcases aO with ⟨T,x,y,rfl⟩|⟨T,x,y,z,rfl⟩
  ·cases h with
   | ext aO bl hg => exact absurd (.inl ⟨_, _, _, rfl⟩) bl
   | nE aO bl hg =>
    obtain ⟨w',h1,h2⟩:=hg s (fun _ _=>rfl) (fun _ _=>rfl) w0 J a w β dst ty pos after g hF;unfold Oper.wp;rw [h1,Oper.upon_skip];unfold ah.app at hK;cases dst with
    | none => exact hK _ _ _ h2
    | some d => exact hK _ _ _ (h2.put (cC d rfl) (VR.aX (.undef _) rfl) (fun id ae e => by cases e))
   | store hk x y ex hl hv ey hf cu hj ho =>
    obtain ⟨w',h1,h2⟩:=zpW (dst:=dst) (ty:=ty) (pos:=pos) (after:=after) (g:=g) hF hk x y ex hl hv ey hf cu hj ho;unfold Oper.wp;rw [h1,Oper.upon_skip];unfold ah.app at hK;cases dst with
    | none => exact hK _ _ _ h2
    | some d => exact hK _ _ _ (h2.put (cC d rfl) (VR.aX (.undef _) rfl) (fun id ae e => by cases e))
   | fC hk hz x y ex bN aK aY ey hf hj =>
    obtain ⟨w',h1,h2⟩:=znd (dst:=dst) (ty:=ty) (pos:=pos) (after:=after) (g:=g) hF hk hz x y ex bN aK aY ey hf hj;unfold Oper.wp;rw [h1,Oper.upon_skip];unfold ah.app at hK;cases dst with
    | none => exact hK _ _ _ h2
    | some d => exact hK _ _ _ (h2.put (cC d rfl) (VR.aX (.undef _) rfl) (fun id ae e => by cases e))
  ·cases h with
   | ext aO bl hg => exact absurd (.inr ⟨_, _, _, _, rfl⟩) bl
   | nE aO bl hg =>
    obtain ⟨w',h1,h2⟩:=hg s (fun _ _=>rfl) (fun _ _=>rfl) w0 J a w β dst ty pos after g hF;unfold Oper.wp;rw [h1,Oper.upon_skip];unfold ah.app at hK;cases dst with
    | none => exact hK _ _ _ h2
    | some d => exact hK _ _ _ (h2.put (cC d rfl) (VR.aX (.undef _) rfl) (fun id ae e => by cases e))
   | update hT K x y z ex bN aK ey ez hk cG hn hs =>
    obtain ⟨w',h1,h2⟩:=zgs (dst:=dst) (ty:=ty) (pos:=pos) (after:=after) (g:=g) hF hT K x y z ex bN aK ey ez hk cG hn hs;unfold Oper.wp;rw [h1,Oper.upon_skip];unfold ah.app at hK;cases dst with
    | none => exact hK _ _ _ h2
    | some d => exact hK _ _ _ (h2.put (cC d rfl) (VR.aX (.undef _) rfl) (fun id ae e => by cases e))
 ·obtain rfl:dst=some d:=by
   rcases hd with h'|⟨_,h'⟩
   ·exact h'
   ·exact absurd h' aO
  cases h with
  | nE hst2 bl hg => exact absurd bl aO
  | ext aO bl hg => exact hg s (fun _ _ => rfl) (fun _ _ => rfl) w0 J a w β ty pos after g (cC d rfl) hF K Q hK
  | move x => exact (zr1 hF x).wp cC hK
  | assign x => exact (zm6 hF x).wp cC hK
  | pick kn x y hb => exact (zr2 hF kn x y hb).wp cC hK
  | dC op T T2 x y ex ey hf => exact (zrX hF op T T2 x y ex ey hf).wp cC hK
  | pS op T T2 x y ex ey hn dK => exact (zrY hF op T T2 x y ex ey hn dK).wp cC hK
  | uf op x y hT ex ey dK => exact (zrT hF op x y hT ex ey dK).wp cC hK
  | not T x ex => exact (zus hF T x ex).wp cC hK
  | shift op T T2 x y ex ey hn dK => exact (zpV hF op T T2 x y ex ey hn dK).wp cC hK
  | conv hT ri x ex => exact (zrV hF hT ri x ex).wp cC hK
  | neg T x ex => exact (zur hF T x ex).wp cC hK
  | min2 bi T T2 x y ex ey ff => exact (zr0 hF bi T T2 x y ex ey ff).wp cC hK
  | k9 hT x ex hl => exact (zlm hF hT x ex hl).wp cC hK
  | jf hT x ex => exact (zjP hF hT x ex).wp cC hK
  | k8 hT x ex => exact (zll hF hT x ex).wp cC hK
  | gv hT hf ml aY x ex hl => exact (zhL hF hT hf ml aY x ex hl).wp cC hK
  | fD hT hf ml aY x ex => exact (zgm hF hT hf ml aY x ex).wp cC hK
  | fG hT he x y ex aY ey h1 => exact (zgo hF hT he x y ex aY ey h1).wp cC hK
  | fA hT he x y ex hl aY ey h1 => exact (zhM hF hT he x y ex hl aY ey h1).wp cC hK
  | fF hT he x y ex hl ey h1 => exact (zgn hF hT he x y ex hl ey h1).wp cC hK
  | fV hT he x y ex ey h1 => exact (zeM hF hT he x y ex ey h1).wp cC hK
  | fB hk x ex hj ho eJ => exact (zhN hF hk x ex hj ho eJ).wp cC hK
  | gF hk x ex hl bK hj ho eJ => exact (W8 hF hk x ex hl bK hj ho eJ).wp cC hK
  | store hk x y ex hl hv ey hf cu hj ho => exact absurd (.inl ⟨_, _, _, rfl⟩) aO
  | fC hk hz x y ex bN aK aY ey hf hj => exact absurd (.inl ⟨_, _, _, rfl⟩) aO
  | oU hk hz x ex bN aK aY hj => exact (zpT hF hk hz x ex bN aK aY hj).wp cC hK
  | iO hT he bm x y ex bN aK hE aY jY ey h2 h1 => exact (zlh hF d hT he bm x y ex bN aK hE aY jY ey h2 h1).wp cC hK
  | iN hT he bm x y ex bN aK hE aY jY ey h2 h1 hb hm => exact (zlg hF d hT he bm x y ex bN aK hE aY jY ey h2 h1 hb hm).wp cC hK
  | update hT K x y z ex bN aK ey ez hk cG hn hs => exact absurd (.inr ⟨_, _, _, _, rfl⟩) aO
  | makeMap T => exact (zlo hF d T).wp cC hK
  | look hT he K x y ok ex ey hk cG hl hn => exact (zrZ hF hT he K x y ok ex ey hk cG hl hn).wp cC hK
  | alloc hk hz => exact (zpM hF d hk hz).wp cC hK
  | box x ex hf => exact (zuq hF d x ex hf).wp cC hK
  | build hT iY ps hf => exact (zpP hF hT iY ps hf).wp cC hK
  | kH hT he ps hf => exact (zm8 hF hT he ps hf).wp cC hK
  | buildSlice hT he ps es hn hw ho dB kW hf => exact (zgl hF d hT he ps es hn hw ho dB kW hf).wp cC hK
  | dt hT he ps es hn hw ho dB kW hf => exact (zeL hF d hT he ps es hn hw ho dB kW hf).wp cC hK
  | makeSlice hT he x y ex ey ho hb hn => exact (zhO hF d hT he x y ex ey ho hb hn).wp cC hK
  | gJ hT he x lo hi ex hl aY gA gz h1 h2 => exact (zhR hF hT he x lo hi ex hl aY gA gz h1 h2).wp cC hK
  | gZ hT he x lo hi ex aY gA gz h1 h2 => exact (zgr hF hT he x lo hi ex aY gA gz h1 h2).wp cC hK
  | jF hT he x lo hi ex gA gz => exact (zhQ hF hT he x lo hi ex gA gz).wp cC hK
  | extract x ex hf hn => exact (zlk hF x ex hf hn).wp cC hK
  | la x ex hl => exact (zd6 hF x ex hl).wp cC hK
  | ji x ex => exact (zdn hF x ex).wp cC hK
  | append hT he bm x y ex ey h1 hE h2 hb hm => exact (zgk hF d hT he bm x y ex ey h1 hE h2 hb hm).wp cC hK
  | iP hT he bm x y ex ey h1 hE h2 hb hm => exact (zli hF d hT he bm x y ex ey h1 hE h2 hb hm).wp cC hK
  | call hs hm hx=>
   rename_i fi xs ts m gs;refine zra hF hs hx (fun v w' hb hr=>?_);have hG:=hF.grow hb;have pG:∀ b,w.heap.size≤b∧b<w'.heap.size→aF J w' β s b∧w'.heap[b]? = w'.heap[b]?:=fun b cb=>⟨⟨cb.2,hF.fresh b (yc hF.bB.size cb.1) (.inl cb.1),fun id hl e=>by
    have:=((hF.obj id (Zn.bc hl)).lt e).2;omega⟩,rfl⟩
   have gC:Rd w' (aF J w' β s) v f:=by
    rcases hm with rfl|rfl
    ·exact Rd.mono pG hr
    ·refine Rd.mono (fun b cb=>?_) hr;rcases cb with h1|h1
     ·exact ⟨(aF.grow (by simpa [qP] using h1) hb).1,rfl⟩
     ·exact pG b h1
   exact hK _ _ _ (hG.put (cC d rfl) (VR.aX gC hs.hand) (fun id ae e=>(FV.aV hs.hand e).elim))
  | lZ ex hs hx=>
   refine zt3 hF ex hs hx (fun v w' hb hr=>?_);have hG:=hF.grow hb;have gC:Rd w' (aF J w' β s) v _:=Rd.mono (fun b cb=>⟨⟨cb.2,hF.fresh b (yc hF.bB.size cb.1) (.inl cb.1),fun id hl e=>by
    have:=((hF.obj id (Zn.bc hl)).lt e).2;omega⟩,rfl⟩) hr
   exact hK _ _ _ (hG.put (cC d rfl) (VR.aX gC hs.hand) (fun id ae e=>(FV.aV hs.hand e).elim))
  | jz hx hc => exact (znc hF hx hc).wp cC hK
  | copy hT hk hz x y ex bN aK aY ey h2 => exact (zrW hF hT hk hz x y ex bN aK aY ey h2).wp cC hK
  | jh hk eT x ex hn => exact (zlp hF hk eT x ex hn).wp cC hK
  | gG hk eT x ex hn => exact (zjQ hF hk eT x ex hn).wp cC hK
  | jl hk eT x ex hn => exact (zlq hF hk eT x ex hn).wp cC hK
  | jg hx hn => exact (zln hF hx hn).wp cC hK
  | bound hx hn => exact (zpO hF hx hn).wp cC hK
  | l5 op x y ex hX ey hY hl dK => exact (zpR hF op x y ex hX ey hY hl dK).wp cC hK
  | ie op hT x y ex hb ey dK => exact (zpS hF op hT x y ex hb ey dK).wp cC hK
  | kI hs hx=>
   rename_i fi xs ts E sz gs es;refine zra hF hs hx (fun v w' hb hr=>?_);obtain ⟨ba,us,e,hw,ho,aj,bK⟩:=hr;injection e with _ e
   subst e;have hG:=hF.grow hb;have cE:=aj.lt;have MR:∀ b,(w.heap.size≤b∧b<w'.heap.size∧v.ownBlock≠some b)→aF J w' (WX β d v.ownBlock) (s.set d ⟨(s.ob d).ae+1,.own,E,sz,es⟩) b:=fun b cb=>⟨cb.2.1,hF.fresh b (yc hF.bB.size cb.1) (.inl cb.1),fun id hl e=>by
    rw [ah.ay] at hl;unfold WX at e;split at hl
    ·rename_i hh;rw [if_pos hh.symm] at e;exact cb.2.2 e
    ·rename_i hh;rw [if_neg (fun e=>hh e.symm)] at e;have:=((hF.obj id (Zn.bc hl)).lt e).2;omega⟩
   have hM:FR c.N w0 J (s.set d ⟨(s.ob d).ae+1,.own,E,sz,es⟩) a w' (WX β d v.ownBlock):=by
    have hI:∀ b,aF J w β s b→aF J w' (WX β d v.ownBlock) (s.set d ⟨(s.ob d).ae+1,.own,E,sz,es⟩) b∧w'.heap[b]? = w.heap[b]?:=fun b aU=>by
     refine ⟨⟨xx aU.1 hb.size,aU.2.1,fun id hl=>?_⟩,hb.block b aU.1⟩;rw [ah.ay] at hl;unfold WX;split at hl
     ·rename_i hh;rw [if_pos hh.symm];intro e;have:=(cE b e).1;have:=aU.1;omega
     ·rename_i hh;rw [if_neg (fun e=>hh e.symm)];exact aU.2.2 id hl
    refine hF.step (C:=fun id=>id=d) hF.size hF.defers (hF.bB.trans (hb.mono hF.bB.size)) hI (fun k=>.inl ⟨rfl,rfl⟩) (fun id hC=>?_) (fun id hC=>?_) (fun id hC hl eu=>?_) (fun id hC hl _=>?_) ?_ ?_
    ·refine ⟨by rw [ah.ay,if_neg (fun e=>hC e.symm)],by unfold WX;rw [if_neg hC],fun hl b aU=>hb.block b ((hF.obj id hl).lt aU).2⟩
    ·subst hC;rw [ah.ay,if_pos rfl];exact Us _
    ·subst hC;rw [ah.ay,if_pos rfl] at eu;simp at eu
    ·subst hC;rw [ah.ay,if_pos rfl];rw [yM];exact .ofRow ⟨hw,ho,v,us,Ic aj hF.bB.size,rfl,bK.mono (fun b cb=>⟨MR b cb,rfl⟩)⟩ (.own rfl) rfl
    ·intro id aL b hl bn e e';rw [ah.ay] at hl bn;unfold WX at e e';by_cases h1:id=d
     ·by_cases h2:aL=d
      ·rw [h1,h2]
      ·rw [if_pos h1] at e;rw [if_neg h2] at e';rw [if_neg (fun e=>h2 e.symm)] at bn;have:=(cE b e).1;have:=((hF.obj aL bn).lt e').2;omega
     ·by_cases h2:aL=d
      ·rw [if_neg h1] at e;rw [if_pos h2] at e';rw [if_neg (fun e=>h1 e.symm)] at hl;have:=(cE b e').1;have:=((hF.obj id hl).lt e).2;omega
      ·rw [if_neg h1] at e;rw [if_neg h2] at e';rw [if_neg (fun e=>h1 e.symm)] at hl;rw [if_neg (fun e=>h2 e.symm)] at bn;exact hF.inj id aL b hl bn e e'
    ·intro b aA hn;refine ⟨hb.block b aA,fun id hl e=>?_⟩;rw [ah.ay] at hl;unfold WX at e;by_cases h1:id=d
     ·rw [if_pos h1] at e;have:=(cE b e).1;omega
     ·rw [if_neg h1] at e;rw [if_neg (fun e=>h1 e.symm)] at hl;exact hn id hl e
   refine hK _ _ _ (hM.put (cC d rfl) (fun _ _=>?_) (fun id ae e=>?_))
   ·rw [ah.ay,if_pos rfl,yM];exact fh.gX aj rfl rfl rfl rfl
   ·simp only [FV.hands,zq,xf] at e;obtain ⟨e1,e2⟩:=e;replace e1:=e1.symm;replace e2:=e2.symm;subst e1;subst e2;rw [ah.ay,if_pos rfl];exact zg _
end
end
section
open Go.RowKit
section
variable {c:Ctx} {s s' : ah}
theorem Src.loc {f:FV} {sz:Nat} {es:List (List FV)} (h:Src s f sz es) (ho:∀ id ae,f.hand=some (id,ae)→s'.ob id=s.ob id):Src s' f sz es:=by
 cases h with
 | nil sz => exact .nil _
 | list sz es => exact .list _ _
 | own id ae o n hl bK =>
  have e:=ho id ae rfl;rw [← e];exact .own id ae o n (by unfold ah.live at *;rw [e];exact hl) (by rw [e];exact bK)
theorem pa.loc {f:FV} {sz:Nat} {es:List (List FV)} {i:Option Nat} (h:pa s f sz es i) (ho:∀ id ae,f.hand=some (id,ae)→s'.ob id=s.ob id):pa s' f sz es i:=by
 cases h with
 | nil sz => exact .nil _
 | own id ae hl hv n hn =>
  have e:=ho id ae rfl;rw [← e];exact .own id ae (by rw [e];exact hl) (by rw [e];exact hv) n (by rw [e];exact hn)
theorem qH.loc {m:ll} {f g:FV} (h:qH s m f g) (ho:∀ id ae,f.hand=some (id,ae)→s'.ob id=s.ob id):qH s' m f g:=by
 cases h with
 | plain f hn => exact .plain _ hn
 | sub f g hn hle => exact .sub _ _ hn hle
 | nil sz => exact .nil _
 | own id ae o n hl bK hm =>
  have e:=ho id ae rfl;rw [← e];exact .own id ae o n (by unfold ah.live at *;rw [e];exact hl) (by rw [e];exact bK) (by rw [e];exact hm)
theorem Ug.loc {m:ll}:∀ {xs:List Operand} {gs:List FV},Ug s m xs gs→(∀ x∈xs,s'.ev x=s.ev x)→(∀ x∈xs,∀ id ae,(s.ev x).hand=some (id,ae)→s'.ob id=s.ob id)→Ug s' m xs gs
 | _, _, .nil, _, _ => .nil
 | _, _, .cons h hs, he, ho => .cons (by rw [he _ zc]; exact h.loc (ho _ zc)) (hs.loc (fun x hx => he x (by simp [hx])) (fun x hx => ho x (by simp [hx])))
theorem Sj (h:s.lo lo l) (he:∀ x∈lo.toList,s'.ev x=s.ev x):s'.lo lo l:=by
 cases lo with
 | none => exact h
 | some y => obtain ⟨k, hk⟩ := h; exact ⟨k, by rw [he y zc]; exact hk⟩
theorem Sc {m:Nat} (h:s.hi lo m l) (he:∀ x∈lo.toList,s'.ev x=s.ev x):s'.hi lo m l:=by
 cases lo with
 | none => exact h
 | some y => obtain ⟨k, hk⟩ := h; exact ⟨k, by rw [he y zc]; exact hk⟩
theorem Le {ps:Array (Nat×Operand)} (he:∀ x∈(ps.toList.map (·.2)),s'.ev x=s.ev x):s'.parts ps=s.parts ps:=by
 unfold ah.parts;refine yZ fun p hp=>?_;rw [he p.2 (zi.2 ⟨p,hp,rfl⟩)]
theorem Vp {α γ:Type} {f g:α→Option γ}:∀ {l:List α},(∀ x∈l,f x=g x)→l.filterMap f=l.filterMap g
 | [], _ => rfl
 | x :: l, h => by rw [Ym, Ym, h x zc, Vp fun y hy => h y (by simp [hy])]
theorem aD.loc {f:FV} {wr:List (Nat×zE)} (h:aD c s d op f wr) (he:∀ x∈op.operands.toList,s'.ev x=s.ev x) (aR:∀ id∈VH s d op,s'.ob id=s.ob id):aD c s' d op f wr:=by
 have hd:=aR d (Q9 s d op);cases aO:DQ op with
 | true =>
  cases h <;> first|(cases aO;done)|(rename_i h0 _ _;rw [aO] at h0;cases h0;done)|(rename_i x;rw [← he x zy];first|exact .move x|exact .assign x)
 | false =>
 have hh:∀ x∈op.operands.toList,∀ id ae,(s.ev x).hand=some (id,ae)→s'.ob id=s.ob id:=fun x hx id ae hv=>aR id (WJ aO hx hv);have au:∀ id ae,s'.ob id=s.ob id→s.live id ae→s'.live id ae:=fun id ae e hl=>by unfold ah.live at *;rw [e];exact hl
 cases h with
 | move x => rw [← he x zy]; exact .move x
 | assign x => rw [← he x zy]; exact .assign x
 | pick kn x y hb => rw [← he x zy, ← he y zy]; exact .pick kn x y (by rw [he kn zy]; exact hb)
 | dC op T T2 x y ex ey hf => exact .dC op T T2 x y (by rw [he x zy]; exact ex) (by rw [he y zy]; exact ey) hf
 | pS op T T2 x y ex ey hn dK => exact .pS op T T2 x y (by rw [he x zy]; exact ex) (by rw [he y zy]; exact ey) hn dK
 | uf op x y hT ex ey dK => exact .uf op x y hT (by rw [he x zy]; exact ex) (by rw [he y zy]; exact ey) dK
 | not T x ex => exact .not T x (by rw [he x zy]; exact ex)
 | shift op T T2 x y ex ey hn dK => exact .shift op T T2 x y (by rw [he x zy]; exact ex) (by rw [he y zy]; exact ey) hn dK
 | conv hT ri x ex => exact .conv hT ri x (by rw [he x zy]; exact ex)
 | neg T x ex => exact .neg T x (by rw [he x zy]; exact ex)
 | min2 bi T T2 x y ex ey ff => exact .min2 bi T T2 x y (by rw [he x xa]; exact ex) (by rw [he y xa]; exact ey) ff
 | k9 hT x ex hl => exact .k9 hT x (by rw [he x xa]; exact ex) (au _ _ (hh x xa _ _ (by rw [ex]; rfl)) hl)
 | jf hT x ex => exact .jf hT x (by rw [he x xa]; exact ex)
 | k8 hT x ex => exact .k8 hT x (by rw [he x xa]; exact ex)
 | gv hT hf ml aY x ex hl => exact .gv hT hf ml aY x (by rw [he x zy]; exact ex) (au _ _ (hh x zy _ _ (by rw [ex]; rfl)) hl)
 | fD hT hf ml aY x ex => exact .fD hT hf ml aY x (by rw [he x zy]; exact ex)
 | fG hT hk x y ex aY ey h1 => exact .fG hT hk x y (by rw [he x zy]; exact ex) aY (by rw [he y zy]; exact ey) h1
 | fA hT hk x y ex hl aY ey h1 =>
  have e:=hh x zy _ _ (by rw [ex];rfl);exact .fA hT hk x y (by rw [he x zy];exact ex) (au _ _ e hl) (by rw [e];exact aY) (by rw [he y zy];exact ey) h1
 | fF hT hk x y ex hl ey h1 => exact .fF hT hk x y (by rw [he x zy]; exact ex) (au _ _ (hh x zy _ _ (by rw [ex]; rfl)) hl) (by rw [he y zy]; exact ey) h1
 | fV hT hk x y ex ey h1 => exact .fV hT hk x y (by rw [he x zy]; exact ex) (by rw [he y zy]; exact ey) h1
 | fB hk x ex hj ho eJ => exact .fB hk x (by rw [he x zy]; exact ex) hj ho eJ
 | gF hk x ex hl bK hj ho eJ =>
  have e:=hh x zy _ _ (by rw [ex];rfl);rw [← e];exact .gF hk x (by rw [he x zy];exact ex) (au _ _ e hl) (by rw [e];exact bK) (by rw [e];exact hj) (by rw [e];exact ho) (by rw [e];exact eJ)
 | store hk x y ex hl hv ey hf cu hj ho =>
  have e:=hh x zy _ _ (by rw [ex];rfl);rw [← e];exact .store hk x y (by rw [he x zy];exact ex) (by rw [e];exact hl) (by rw [e];exact hv) (by rw [he y zy];exact ey) hf cu (by rw [e];exact hj) (by rw [e];exact ho)
 | alloc hk hz => rw [← hd]; exact .alloc hk hz
 | box x ex hf => rw [← hd]; exact .box x (by rw [he x zy]; exact ex) hf
 | build hT iY ps hf => exact .build hT iY ps (by rw [Le (fun x hx => he x (by simpa [Op.operands] using hx))]; exact hf)
 | kH hT hk ps hf => exact .kH hT hk ps (by rw [Le (fun x hx => he x (by simpa [Op.operands] using hx))]; exact hf)
 | buildSlice hT hk ps es hn hw ho dB kW hf => rw [← hd]; exact .buildSlice hT hk ps es hn hw ho dB kW (by rw [Le (fun x hx => he x (by simpa [Op.operands] using hx))]; exact hf)
 | dt hT hk ps es hn hw ho dB kW hf => exact .dt hT hk ps es hn hw ho dB kW (by rw [Le (fun x hx => he x (by simpa [Op.operands] using hx))]; exact hf)
 | makeSlice hT hk x y ex ey ho hb hn => rw [← hd]; exact .makeSlice hT hk x y (by rw [he x zy]; exact ex) (by rw [he y zy]; exact ey) ho hb hn
 | gJ hT hk x lo hi ex hl aY gA gz h1 h2 =>
  have e:=hh x zy _ _ (by rw [ex];rfl);exact .gJ hT hk x lo hi (by rw [he x zy];exact ex) (au _ _ e hl) (by rw [e];exact aY) (Sj gA (fun y hy=>he y (by cases lo <;> simp_all [Op.operands]))) (Sc gz (fun y hy=>he y (by cases hi <;> simp_all [Op.operands]))) h1 h2
 | gZ hT hk x lo hi ex aY gA gz h1 h2 =>
  exact .gZ hT hk x lo hi (by rw [he x zy];exact ex) aY (Sj gA (fun y hy=>he y (by cases lo <;> simp_all [Op.operands]))) (Sc gz (fun y hy=>he y (by cases hi <;> simp_all [Op.operands]))) h1 h2
 | jF hT hk x lo hi ex gA gz =>
  exact .jF hT hk x lo hi (by rw [he x zy];exact ex) (Sj gA (fun y hy=>he y (by cases lo <;> simp_all [Op.operands]))) (Sc gz (fun y hy=>he y (by cases hi <;> simp_all [Op.operands])))
 | extract x ex hf hn => exact .extract x (by rw [he x zy]; exact ex) hf hn
 | la x ex hl => exact .la x (by rw [he x zy]; exact ex) (au _ _ (hh x zy _ _ (by rw [ex]; rfl)) hl)
 | ji x ex => exact .ji x (by rw [he x zy]; exact ex)
 | append hT hk bm x y ex ey h1 hE h2 hb hm=>
  rename_i T e f1 f2 c6 aG i;have e1:∀ id ae,f1.hand=some (id,ae)→s'.ob id=s.ob id:=fun id ae hv=>hh x xa id ae (by rw [ex];exact hv);have e2:∀ id ae,f2.hand=some (id,ae)→s'.ob id=s.ob id:=fun id ae hv=>hh y xa id ae (by rw [ey];exact hv);have iB:=h1.loc e1;have hi:∀ k,i=some k→s'.ob k=s.ob k:=fun k hk=>by
   generalize (c.ty e).size=sz at h1;cases h1 with
   | nil => cases hk
   | own id ae hl hv n hn => injection hk with hk; subst hk; exact e1 id ae rfl
  have hw:VZ s d e (c.ty e).size (c6++aG) i=VZ s' d e (c.ty e).size (c6++aG) i:=by
   cases i with
   | none => simp only [VZ, hd]
   | some k => simp only [VZ, hd, hi k rfl]
  rw [← hd,hw];exact .append hT hk bm x y (by rw [he x xa];exact ex) (by rw [he y xa];exact ey) iB (fun k hk=>by rw [hi k hk];exact hE k hk) (h2.loc e2) hb hm
 | iP hT hk bm x y ex ey h1 hE h2 hb hm=>
  rename_i T e f1 f2 c6 aG i;have e1:∀ id ae,f1.hand=some (id,ae)→s'.ob id=s.ob id:=fun id ae hv=>hh x xa id ae (by rw [ex];exact hv);have e2:∀ id ae,f2.hand=some (id,ae)→s'.ob id=s.ob id:=fun id ae hv=>hh y xa id ae (by rw [ey];exact hv);have iB:=h1.loc e1;have hi:∀ k,i=some k→s'.ob k=s.ob k:=fun k hk=>by
   generalize (c.ty e).size=sz at h1;cases h1 with
   | nil => cases hk
   | own id ae hl hv n hn => injection hk with hk; subst hk; exact e1 id ae rfl
  have hw:VZ s d e (c.ty e).size (c6++aG) i=VZ s' d e (c.ty e).size (c6++aG) i:=by
   cases i with
   | none => simp only [VZ, hd]
   | some k => simp only [VZ, hd, hi k rfl]
  rw [← hd,hw];exact .iP hT hk bm x y (by rw [he x xa];exact ex) (by rw [he y xa];exact ey) iB (fun k hk=>by rw [hi k hk];exact hE k hk) (h2.loc e2) hb hm
 | iO hT hk bm x y ex bN aK hE aY jY ey h2 h1=>
  have e:=hh x xa _ _ (by rw [ex];rfl);rw [← hd,← e];exact .iO hT hk bm x y (by rw [he x xa];exact ex) (by rw [e];exact bN) (by rw [e];exact aK) (by rw [e];exact hE) (by rw [e];exact aY) (by rw [e];exact jY)
   (by rw [he y xa];exact ey) (h2.loc fun id ae hv=>hh y xa id ae (by rw [ey];exact hv)) h1
 | iN hT hk bm x y ex bN aK hE aY jY ey h2 h1 hb hm=>
  have e:=hh x xa _ _ (by rw [ex];rfl);rw [← hd,← e];exact .iN hT hk bm x y (by rw [he x xa];exact ex) (by rw [e];exact bN) (by rw [e];exact aK) (by rw [e];exact hE) (by rw [e];exact aY) (by rw [e];exact jY)
   (by rw [he y xa];exact ey) (h2.loc fun id ae hv=>hh y xa id ae (by rw [ey];exact hv)) h1 hb hm
 | oU hk hz x ex bN aK aY hj =>
  have e:=hh x zy _ _ (by rw [ex];rfl);exact .oU hk hz x (by rw [he x zy];exact ex) (by rw [e];exact bN) (by rw [e];exact aK) (by rw [e];exact aY) (by rw [e];exact hj)
 | fC hk hz x y ex bN aK aY ey hf hj =>
  have e:=hh x zy _ _ (by rw [ex];rfl);rw [← e];refine .fC hk hz x y (by rw [he x zy];exact ex) (by rw [e];exact bN) (by rw [e];exact aK) (by rw [e];exact aY) (by rw [he y zy];exact ey) ?_ (by rw [e];exact hj);rcases hf with h1|⟨aL,br,o,n,rfl,hl⟩|⟨aL,br,o,n,rfl,hl⟩|hw|⟨aL,br,rfl,hl⟩
  ·exact .inl h1
  ·exact .inr (.inl ⟨aL,br,o,n,rfl,au _ _ (hh y zy _ _ (by rw [ey];rfl)) hl⟩)
  ·exact .inr (.inr (.inl ⟨aL,br,o,n,rfl,au _ _ (hh y zy _ _ (by rw [ey];rfl)) hl⟩))
  ·exact .inr (.inr (.inr (.inl hw)))
  ·exact .inr (.inr (.inr (.inr ⟨aL,br,rfl,au _ _ (hh y zy _ _ (by rw [ey];rfl)) hl⟩)))
 | makeMap T => rw [← hd]; exact .makeMap T
 | l5 op x y ex hX ey hY hl dK => exact .l5 op x y (by rw [he x zy]; exact ex) hX (by rw [he y zy]; exact ey) hY hl dK
 | ie op hT x y ex hb ey dK=>
  rename_i T T2 e f b;have cb : Cu s' f b:=by
   cases hb with
   | nil => exact .nil
   | own id ae o n hl hn => exact .own id ae o n (au _ _ (hh x zy _ _ (by rw [ex]; rfl)) hl) hn
   | list sz es hn => exact .list sz es hn
  exact .ie op hT x y (by rw [he x zy];exact ex) cb (by rw [he y zy];exact ey) dK
 | copy hT hk hz x y ex bN aK aY ey h2=>
  have e:=hh x xa _ _ (by rw [ex];rfl);rw [← e];exact .copy hT hk hz x y (by rw [he x xa];exact ex) (by rw [e];exact bN) (by rw [e];exact aK) (by rw [e];exact aY) (by rw [he y xa];exact ey)
   (h2.loc fun id ae hv=>hh y xa id ae (by rw [ey];exact hv))
 | jh hk eT x ex hn => exact .jh hk eT x (by rw [he x zy]; exact ex) hn
 | gG hk eT x ex hn => exact .gG hk eT x (by rw [he x zy]; exact ex) hn
 | jl hk eT x ex hn => exact .jl hk eT x (by rw [he x zy]; exact ex) hn
 | jg hx hn => exact .jg (by rw [← hx]; exact yZ fun y hy => he y (by simp [Op.operands] at hy ⊢; exact hy)) hn
 | bound hx hn => exact .bound (by rw [← hx]; exact yZ fun y hy => he y (by simp [Op.operands] at hy ⊢; exact hy)) hn
 | look hT hk K x y ok ex ey eH cG hl hn=>
  refine .look hT hk K x y ok ?_ (by rw [he y zy];exact ey) eH cG hl hn;rcases ex with ⟨id,ae,e1,e2,e3⟩|e1
  ·have e:=hh x zy _ _ (by rw [e1];rfl);exact .inl ⟨id,ae,by rw [he x zy];exact e1,⟨au _ _ e e2.1,by rw [e];exact e2.2⟩,by rw [e];exact e3⟩
  ·exact .inr (by rw [he x zy];exact e1)
 | update hT K x y z ex bN aK ey ez hk cG hn hs =>
  have e:=hh x zy _ _ (by rw [ex];rfl);rw [← e];exact .update hT K x y z (by rw [he x zy];exact ex) (by rw [e];exact bN) (by rw [e];exact aK) (by rw [he y zy];exact ey) (by rw [he z zy];exact ez) (by rw [e];exact hk) cG hn (by rw [e];exact hs)
 | call hs hm hx => exact .call hs hm (hx.loc (fun x hx => he x (by simp [Op.operands, Call.operands] at hx ⊢; exact .inr hx)) (fun x hx => hh x (by simp [Op.operands, Call.operands] at hx ⊢; exact .inr hx)))
 | @lZ f x xs ts gs aH res ex hs hx => exact .lZ (by rw [he x xa]; exact ex) hs (hx.loc (fun y hy => he y (by simp [Op.operands, Call.operands] at hy ⊢; exact .inr hy)) (fun y hy => hh y (by simp [Op.operands, Call.operands] at hy ⊢; exact .inr hy)))
 | jz hx hc => exact .jz (by rw [← hx]; exact yZ fun y hy => he y (by simp [Op.operands] at hy ⊢; exact hy)) hc
 | nE ho hn hg=>
  have th:VH s' d op=VH s d op:=by
   unfold VH;rw [aO];refine congrArg (d::·) (Vp fun x hx=>?_);rw [he x hx]
  exact .nE ho hn fun oh h1 h2=>hg oh (fun x hx=>(h1 x hx).trans (he x hx)) (fun id hid=>(h2 id (by rw [th];exact hid)).trans (aR id hid))
 | ext ho hn hg=>
  have th:VH s' d op=VH s d op:=by
   unfold VH;rw [aO];refine congrArg (d::·) (Vp fun x hx=>?_);rw [he x hx]
  exact .ext ho hn fun oh h1 h2=>hg oh (fun x hx=>(h1 x hx).trans (he x hx)) (fun id hid=>(h2 id (by rw [th];exact hid)).trans (aR id hid))
 | kI hs hx => rw [← hd]; exact .kI hs (hx.loc (fun x hx => he x (by simp [Op.operands, Call.operands] at hx ⊢; exact .inr hx)) (fun x hx => hh x (by simp [Op.operands, Call.operands] at hx ⊢; exact .inr hx)))
theorem FR.ext {w0:World} (h:FR N w0 J s a w β) (hg:∀ k,s'.get k=s.get k) (ho:∀ k,s'.ob k=s.ob k):FR N w0 J s' a w β:=by
 refine h.step (C:=fun _=>False) h.size h.defers h.bB (fun b hb=>⟨⟨hb.1,hb.2.1,fun id hl=>hb.2.2 id (by rw [← ho];exact hl)⟩,rfl⟩) (fun k=>.inl ⟨rfl,hg k⟩) (fun id _=>⟨ho id,rfl,fun _ _ _=>rfl⟩) (fun _ h=>h.elim) (fun _ h=>h.elim) (fun _ h=>h.elim) ?_ (fun b _ hn=>⟨rfl,fun id hl=>hn id (by rw [← ho];exact hl)⟩);intro id aL b hl bn;rw [ho] at hl bn;exact h.inj id aL b hl bn
end
structure Rec where
 o:Oper
 f:FV
 wr:List (Nat×zE)
 ft:List Nat
 deriving Inhabited
def ah.vH (s:ah) (r:Rec):ah:=s.app r.o.dst r.f r.wr
def SB:FV→Bool→Option Bool
 | .bool v, want => some (v == want)
 | .bd [], _ => some false
 | _, _ => none
theorem zrQ {f:FV} {want:Bool} (h:SB f want=some b):(∃ v,f=.bool v∧(v == want)=b)∨(f=.bd []∧b=false):=by
 unfold SB at h;split at h
 ·injection h with h;exact .inl ⟨_,rfl,h⟩
 ·injection h with h;exact .inr ⟨rfl,h.symm⟩
 ·cases h
def ZB (ops:Array Oper) (s:ah) (o:Oper) (b:Bool):Prop:=
 match o.guard with
 | none => b=true
 | some (j, want) => ∃ d v, (ops[j]?).bind (·.dst)=some d ∧ s.get d=v ∧ SB v want=some b
inductive sK (c:Ctx) (ops:Array Oper):ah→List Oper→List Rec→ah→Prop where
 | nil (s:ah):sK c ops s [] [] s
 | step {o:Oper} {rest:List Oper} {s s' : ah} {f:FV} {wr:List (Nat×zE)} {tr:List Rec} {d:Nat} (hw:ZB ops s o true) (hd:o.dst=some d∨(o.dst=none∧o0 o.op)) (cC:∀ d,o.dst=some d→d<c.N)
   (he:aD c s d o.op f wr) (hs:sK c ops (s.app o.dst f wr) rest tr s'):sK c ops s (o::rest) (⟨o,f,wr,VH s d o.op⟩::tr) s'
 | skip {o:Oper} {rest:List Oper} {s s' : ah} {tr:List Rec} (hw:ZB ops s o false) (cC:∀ d, o.dst=some d → d<c.N) (hs:sK c ops (s.app o.dst (.bd []) []) rest tr s'):sK c ops s (o :: rest) (⟨o, .bd [], [], []⟩ :: tr) s'
def D8 (c:Ctx) (ops:Array Oper) (s:ah) (r:Rec):Prop:=
 (∀ d,r.o.dst=some d→d<c.N)∧((ZB ops s r.o true∧∃ d,(r.o.dst=some d∨(r.o.dst=none∧o0 r.o.op))∧aD c s d r.o.op r.f r.wr∧r.ft=VH s d r.o.op)∨(ZB ops s r.o false∧r.f=.bd []∧r.wr=[]∧r.ft=[]))
def sig (tr:List Rec) (s0:ah) (S:Nat→Bool):Nat→ah
 | 0 => s0
 | k+1 => if S k then (sig tr s0 S k).vH (tr.getD k default) else sig tr s0 S k
theorem H3 (r:Rec) (tr:List Rec) (s0:ah) (S:Nat→Bool):∀ k,sig (r::tr) s0 S (k+1)=sig tr (if S 0 then s0.vH r else s0) (fun j=>S (j+1)) k
 | 0 => by simp [sig]
 | k+1 => by
  rw [sig,H3 r tr s0 S k];simp [sig]
theorem sK.at {ops:Array Oper} {s:ah} {l:List Oper} {tr:List Rec} {s' : ah} (h:sK c ops s l tr s'):tr.length=l.length∧s'=sig tr s (fun _=>true) tr.length∧
  ∀ k,k<l.length→(tr.getD k default).o=l.getD k default∧D8 c ops (sig tr s (fun _=>true) k) (tr.getD k default):=by
 induction h with
 | nil s => exact ⟨rfl, rfl, fun k hk => by simp at hk⟩
 | @step o rest s s' f wr tr d hw hd cC he hs ih=>
  obtain ⟨h1,h2,h3⟩:=ih;refine ⟨by simp [h1],?_,fun k hk=>?_⟩
  ·rw [yS,H3];exact h2
  ·cases k with
   | zero => exact ⟨rfl, cC, .inl ⟨hw, d, hd, he, rfl⟩⟩
   | succ k =>
    rw [H3];exact h3 k (by simpa using hk)
 | @skip o rest s s' tr hw cC hs ih=>
  obtain ⟨h1,h2,h3⟩:=ih;refine ⟨by simp [h1],?_,fun k hk=>?_⟩
  ·rw [yS,H3];exact h2
  ·cases k with
   | zero => exact ⟨rfl, cC, .inr ⟨hw, rfl, rfl, rfl⟩⟩
   | succ k =>
    rw [H3];exact h3 k (by simpa using hk)
def Ab (r:Rec) (t:Nat):Option FV:=if r.o.dst=some t then some r.f else none
def nt:List (Nat×zE)→Nat→Option zE
 | [], _ => none
 | p :: l, id => match nt l id with|some b => some b|none => if p.1=id then some p.2 else none
theorem Ss:∀ (l:List (Nat×zE)) (s:ah) (id:Nat),(s.wr l).ob id=(nt l id).getD (s.ob id)
 | [], _, _ => rfl
 | p :: l, s, id => by
  show (ah.wr (s.set p.1 p.2) l).ob id=_;rw [Ss l,nt,ah.ay];cases nt l id with
  | some b => rfl
  | none => by_cases h:p.1=id <;> simp [h]
theorem Lc:∀ {l:List (Nat×zE)} {id:Nat},(nt l id).isSome→id∈l.map (·.1)
 | p::l,id,h=>by
  unfold nt at h;cases hl:nt l id with
  | some b => exact xW _ (Lc (by rw [hl]; rfl))
  | none =>
   rw [hl] at h;dsimp only at h;split at h
   ·rename_i e;subst e;simp
   ·simp at h
theorem zs2 (s:ah) (r:Rec) (t:Nat):(s.vH r).get t=(Ab r t).getD (s.get t):=by
 unfold ah.vH ah.app Ab;cases h:r.o.dst with
 | none => simp [ah.lg, ah.eO]
 | some d =>
  simp only [ah.lg,ah.get_put,ah.eO,yw];split <;> rfl
theorem zvz (s:ah) (r:Rec) (id:Nat):(s.vH r).ob id=(nt r.wr id).getD (s.ob id):=by
 unfold ah.vH ah.app;cases r.o.dst with
 | none => exact Ss _ _ _
 | some d => exact Ss _ _ _
section
variable {α:Type}
def nB (u:Nat→Option α) (S:Nat→Bool) (x0:α):Nat→α
 | 0 => x0
 | k+1 => if S k then (u k).getD (nB u S x0 k) else nB u S x0 k
theorem UN (u:Nat→Option α) (S S' : Nat→Bool) (x0:α):∀ n,(∀ k,k<n→(u k).isSome→S k=S' k)→nB u S x0 n=nB u S' x0 n
 | 0, _ => rfl
 | n+1, h => by
  have ih:=UN u S S' x0 n (fun k hk=>h k za);have hn:=h n za;unfold nB;rw [ih];cases hu:u n with
  | none => simp
  | some v => rw [hn (by rw [hu]; rfl)]
theorem HK (u:Nat→Option α) (S:Nat→Bool) (x0:α) (m:Nat):∀ j,(∀ k,m≤k→k<m+j→S k=true→u k=none)→nB u S x0 (m+j)=nB u S x0 m
 | 0, _ => rfl
 | j+1, h => by
  have ih:=HK u S x0 m j (fun k h1 h2=>h k h1 za);rw [← KB,nB];split
  ·rename_i hS;rw [h (m+j) za za hS,ih];rfl
  ·exact ih
theorem RE (u:Nat→Option α) (S:Nat→Bool) (x0:α) (i:Nat) (hS:S i=false):∀ n,i<n→(∀ k,i<k→k<n→S k=true→(u k).isSome→u i=none)→nB u (fun k=>k == i || S k) x0 n=(u i).getD (nB u S x0 n)
 | 0, h, _ => by omega
 | n + 1,hi,h=>by
  by_cases aP:i=n
  ·subst aP;unfold nB;simp only [beq_self_eq_true,HR,if_true,hS,Lt,if_false];congr 1;refine UN _ _ _ _ _ (fun k hk _=>?_);have:(k == i)=false:=by simp;omega
   rw [this];rfl
  ·have ih:=RE u S x0 i hS n za (fun k h1 h2=>h k h1 za);have hn:(n == i)=false:=by simp;omega
   unfold nB;rw [hn,ZR,ih];split
   ·rename_i hSn;cases hu:u n with
    | none => rfl
    | some v =>
     have:=h n za za hSn (by rw [hu];rfl);rw [this];rfl
   ·rfl
end
theorem u3 (tr:List Rec) (s0:ah) (S:Nat→Bool) (t:Nat):∀ k,(sig tr s0 S k).get t=nB (fun k=>Ab (tr.getD k default) t) S (s0.get t) k
 | 0 => rfl
 | k+1 => by
  unfold sig nB;split
  ·rw [zs2,u3 tr s0 S t k]
  ·exact u3 tr s0 S t k
theorem u5 (tr:List Rec) (s0:ah) (S:Nat→Bool) (id:Nat):∀ k,(sig tr s0 S k).ob id=nB (fun k=>nt (tr.getD k default).wr id) S (s0.ob id) k
 | 0 => rfl
 | k+1 => by
  unfold sig nB;split
  ·rw [zvz,u5 tr s0 S id k]
  ·exact u5 tr s0 S id k
def o5:List Oper→List (List Nat)→List (List Nat)
 | [], acc => acc
 | o :: l, acc => o5 l (acc ++ [o.after.toList.flatMap fun e => if Region.binds .any e then e.on :: acc.getD e.on [] else []])
def UZ (ops:Array Oper) (r q:Rec):Bool:=
 r.o.apart ops q.o && (r.wr.all fun p=>!q.ft.contains p.1 && !(q.wr.map (·.1)).contains p.1) && (q.wr.all fun p=>!r.ft.contains p.1)
def R5 (ops:Array Oper) (tr:List Rec) (A:List (List Nat)):Bool:=
 (List.range tr.length).all fun i=>(List.range i).all fun j=>(A.getD i []).contains j || UZ ops (tr.getD j default) (tr.getD i default)
def LL (l:List Oper):Bool:=(List.range l.length).all fun i=>(l.getD i default).after.toList.all fun e=>!Region.binds .any e || decide (e.on<i)
def DP (ops:Array Oper) (tr:List Rec):Bool:=LL ops.toList && R5 ops tr (o5 ops.toList [])
theorem znR:∀ (l:List Oper) (acc:List (List Nat)) (i:Nat),i<acc.length→(o5 l acc).getD i []=acc.getD i []
 | [], acc, i, _ => rfl
 | o :: l, acc, i, h => by
  rw [o5,znR l _ i zM,yz,xO h,← yz]
theorem RU (S:Nat→Bool):∀ (l:List Oper) (acc:List (List Nat)),(∀ i,i<acc.length→S i=true→∀ j∈acc.getD i [],S j=true)→
  (∀ k,k<l.length→S (acc.length+k)=true→∀ e∈(l.getD k default).after.toList,Region.binds .any e=true→S e.on=true)→(∀ k,k<l.length→∀ e∈(l.getD k default).after.toList,Region.binds .any e=true→e.on<acc.length+k)→
  ∀ i,i<acc.length+l.length→S i=true→∀ j∈(o5 l acc).getD i [],S j=true
 | [], acc, ha, _, _, i, hi, hS, j, hj => ha i (by simpa using hi) hS j hj
 | o ::l,acc,ha,hl,hb,i,hi,hS,j,hj=>by
  rw [o5] at hj;refine RU S l _ (fun i hi hS j hj=>?_) (fun k hk hS e he gS=>?_) (fun k hk e he gS=>?_) i (by simp at hi ⊢;omega) hS j hj
  ·rcases yg i acc.length with h|h
   ·rw [yz,xO h,← yz] at hj;exact ha i h hS j hj
   ·have cy:i=acc.length:=by simp at hi;omega
    subst cy;rw [yz,Zd (zg _),xZ] at hj;simp only [List.getElem?_cons_zero,Zy,Vb] at hj;obtain ⟨e,he,hj⟩:=hj;split at hj
    ·rename_i gS;have jY:=hl 0 zc (by simpa using hS) e he gS;rcases zA.1 hj with h|h
     ·rw [h];exact jY
     ·exact ha e.on (by have:=hb 0 zc e he gS;omega) jY j h
    ·simp at hj
  ·refine hl (k+1) (by simpa using hk) ?_ e he gS;simp only [zN,yS,HA] at hS;rwa [show acc.length+(k+1)=acc.length+(0+1)+k by omega]
  ·have:=hb (k+1) (by simpa using hk) e he gS;simp;omega
theorem zp8 {ops:Array Oper} {o:Oper} {s s' : ah} (h:∀ t∈o.looksAt ops,s'.get t=s.get t):∀ x∈o.op.operands.toList,s'.ev x=s.ev x:=by
 intro x hx;cases x with
 | tmp t => exact h t (xm _ (yU.2 ⟨.tmp t, hx, rfl⟩))
 | const v => rfl
 | global g => rfl
 | func f => rfl
theorem ZB.loc {ops:Array Oper} {o:Oper} {s s' : ah} (hw:ZB ops s o b) (h:∀ t∈o.looksAt ops,s'.get t=s.get t):ZB ops s' o b:=by
 unfold ZB at *;cases hg:o.guard with
 | none => rw [hg] at hw; exact hw
 | some p =>
  obtain ⟨j,want⟩:=p;rw [hg] at hw;obtain ⟨d,v,h1,h2,h3⟩:=hw;refine ⟨d,v,h1,?_,h3⟩;rw [h d (zX _ (by simp [hg,h1]))];exact h2
theorem D8.loc {ops:Array Oper} {s s' : ah} {r:Rec} (hr:D8 c ops s r) (h:∀ t∈r.o.looksAt ops,s'.get t=s.get t) (ho:∀ id∈r.ft,s'.ob id=s.ob id):D8 c ops s' r:=by
 obtain ⟨hN,hr⟩:=hr;refine ⟨hN,?_⟩;have C4:=zp8 h;rcases hr with ⟨hw,d,hd,he,hf⟩|⟨hw,h1,h2,h3⟩
 ·refine .inl ⟨hw.loc h,d,hd,he.loc C4 (by rw [← hf];exact ho),?_⟩;rw [hf];unfold VH;congr 2;have key:∀ l:List Operand,(∀ x∈l,s'.ev x=s.ev x)→(l.filterMap fun x=>(s.ev x).hand.map (·.1))=l.filterMap fun x=>(s'.ev x).hand.map (·.1):=by
   intro l
   induction l with
   | nil => intro _; rfl
   | cons x l ih => intro h; rw [Ym, Ym, h x zc, ih (fun y hy => h y (by simp [hy]))]
  exact key _ C4
 ·exact .inr ⟨hw.loc h,h1,h2,h3⟩
section
variable {c:Ctx} {w0:World} {J:JJ} {ops:Array Oper} {Q:Exit→Act→World→Prop}
theorem ZB.model {s:ah} (hF:FR c.N w0 J s a w β) {o:Oper} (hw:ZB ops s o b):Region.wanted o (yielded ops a.tmps)=b:=by
 unfold ZB at hw;unfold Region.wanted;cases hg:o.guard with
 | none => rw [hg] at hw; rw [hw]
 | some p=>
  obtain ⟨j,want⟩:=p;rw [hg] at hw;obtain ⟨d,v,h1,h2,h3⟩:=hw;rcases zrQ h3 with ⟨v,rfl,h4⟩|⟨rfl,rfl⟩
  ·have hv:a.tmps.getD d undef=.bool v:=hF.dX (x:=.tmp d) (b:=v) h2;have hy:yielded ops a.tmps j=some v:=by
    unfold yielded;rw [h1];simp only [Yb];rw [Xo] at hv;cases ha:a.tmps[d]? with
    | none => rw [ha] at hv; simp [undef] at hv
    | some u => rw [ha] at hv; simp only [Zy] at hv; rw [hv]
   simp only [hy];rw [← h4];cases v <;> cases want <;> rfl
  ·have hv:a.tmps.getD d undef=.tuple #[]:=by
    have:=hF.ev (.tmp d);rw [show s.ev (.tmp d)=.bd [] from h2] at this;have:=VR.rd this rfl;have e:a.eval (.tmp d)=a.tmps.getD d undef:=rfl;rw [e] at this;generalize a.tmps.getD d undef=v at this;cases this with
    | bd us fs hl hr=>
     have:us=[]:=by cases us with
      | nil => rfl
      | cons u us => simp at hl
     subst this;rfl
   have hy:yielded ops a.tmps j=none:=by
    unfold yielded;rw [h1];simp only [Yb];rw [Xo] at hv;cases ha:a.tmps[d]? with
    | none => rfl
    | some u => rw [ha] at hv; simp only [Zy] at hv; rw [hv]
   simp only [hy];cases want <;> rfl
theorem D8.wpOp {s:ah} (hF:FR c.N w0 J s a w β) {r:Rec} (hi:ops[i]? = some r.o) (hr:D8 c ops s r) (hK:∀ a' w' aJ,FR c.N w0 J (s.vH r) a' w' aJ→K a' w') :
  wpOp c.P ops Q i K a w:=by
 obtain ⟨hN,hr⟩:=hr;unfold Go.wpOp;simp only [hi];rcases hr with ⟨hw,d,hd,he,hf⟩|⟨hw,h1,h2,h3⟩
 ·rw [if_pos (hw.model hF)];exact .inl (he.sound hF r.o rfl hd hN hK)
 ·rw [if_neg (by rw [hw.model hF];decide)];refine hK _ _ β ?_;unfold ah.vH ah.app;rw [h1,h2];cases hd:r.o.dst with
  | none => exact hF
  | some d => exact hF.put (hN d hd) (VR.aX (Rd.bd [] [] rfl zc) rfl) (fun id ae e => by cases e)
def qQ (S:Nat→Bool):Nat→Nat
 | 0 => 0
 | k+1 => qQ S k+if S k then 0 else 1
theorem zoa {S:Nat→Bool} {i:Nat} (hS:S i=false):∀ n,i<n→qQ (fun k=>k == i || S k) n+1=qQ S n
 | 0, h => by omega
 | n + 1,h=>by
  unfold qQ;by_cases aP:i=n
  ·subst aP;have key:∀ m,m≤i→qQ (fun k=>k == i || S k) m=qQ S m:=by
    intro m
    induction m with
    | zero => intro _; rfl
    | succ m ih =>
     intro hm;unfold qQ;have:(m == i)=false:=by simp;omega
     rw [ih za,this];rfl
   rw [key i (zg _),hS];simp
  ·have ih:=zoa hS n za;have:(n == i)=false:=by simp;omega
   rw [this,ZR];omega
theorem zkS {S:Nat→Bool}:∀ n,qQ S n=0→∀ k,k<n→S k=true
 | 0, _, k, hk => by omega
 | n+1,h,k,hk=>by
  unfold qQ at h;by_cases gU:k=n
  ·subst gU;cases hS:S k with
   | true => rfl
   | false => rw [hS] at h; simp at h
  ·exact zkS n za k za
theorem zqt {s0 s' : ah} {tr:List Rec} (hx:sK c ops s0 ops.toList tr s') (e9:DP ops tr=true) (hQ:∀ a w β,FR c.N w0 J s' a w β→Q .normal a w) :
  ∀ (fuel:Nat) (listed:Array Bool) (a:Act) (w:World) (β:Nat→Option Nat),listed.size=ops.size→(∀ i,i<ops.size→listed.getD i false=true→∀ e∈(ops.toList.getD i default).after.toList,Region.binds .any e=true→listed.getD e.on false=true)→
   qQ (fun k=>listed.getD k false) ops.size≤fuel→FR c.N w0 J (sig tr s0 (fun k=>listed.getD k false) ops.size) a w β→wpAny c.P .any ops Q fuel listed a w:=by
 obtain ⟨FU,fE,fM⟩:=hx.at;have hlen:tr.length=ops.size:=by rw [FU];simp
 rw [LS] at fM;unfold DP at e9;rw [zx] at e9;obtain ⟨rq,et⟩:=e9;have nK : ∀ i,i<ops.size→∀ e∈(ops.toList.getD i default).after.toList,Region.binds .any e=true→e.on<i:=by
  intro i hi e he hb;unfold LL at rq;rw [zL] at rq;have:=rq i (by simpa using hi);rw [zL] at this;have:=this e he;simpa [hb] using this
 have oO : ∀ i,i<ops.size→∀ j,j<i→j∈(o5 ops.toList []).getD i []∨UZ ops (tr.getD j default) (tr.getD i default)=true:=by
  intro i hi j hj;unfold R5 at et;rw [zL] at et;have:=et i (by simp [hlen];exact hi);rw [zL] at this;have:=this j (by simpa using hj);rw [xB] at this;exact this.imp (fun h=>by simpa using h) id
 have A8:∀ (listed:Array Bool) (i:Nat),i<listed.size→listed.getD i true=listed.getD i false:=fun listed i hi=>by simp [hi]
 have eY:∀ (listed:Array Bool) (a:Act) (w:World) (β:Nat→Option Nat),(∀ k,k<ops.size→listed.getD k false=true)→FR c.N w0 J (sig tr s0 (fun k=>listed.getD k false) ops.size) a w β→Q .normal a w:=by
  intro listed a w β cR hF;refine hQ a w β (hF.ext (fun k=>?_) (fun k=>?_))
  ·rw [fE,hlen,u3,u3];exact UN _ _ _ _ _ (fun k hk _=>(cR k hk).symm)
  ·rw [fE,hlen,u5,u5];exact UN _ _ _ _ _ (fun k hk _=>(cR k hk).symm)
 have rH:∀ (listed:Array Bool),listed.size=ops.size→Region.ready .any ops listed=[]→∀ k,k<ops.size→listed.getD k false=true:=by
  intro listed aY hr k
  induction k using Nat.strongRecOn with
  | _ k ih=>
   intro hk;cases hl:listed.getD k false with
   | true => rfl
   | false=>
    exfalso;have:k∈Region.ready .any ops listed:=by
     rw [mem_ready];refine ⟨by rw [A8 listed k za];exact hl,ops.toList.getD k default,by simp [hk],fun e he hb=>?_⟩;have aA:=nK k hk e (by simpa using he) hb;exact ih e.on aA za
    rw [hr] at this;simp at this
 intro fuel
 induction fuel with
 | zero=>
  intro listed a w β aY kQ nI hF;have cR:=zkS (S:=fun k=>listed.getD k false) ops.size za;refine ⟨?_,eY listed a w β cR hF⟩;cases hr:Region.ready .any ops listed with
  | nil => rfl
  | cons i l =>
   exfalso;have:i∈Region.ready .any ops listed:=by rw [hr];simp
   rw [mem_ready] at this;obtain ⟨h0,o,ho,_⟩:=this;have hi:i<ops.size:=(YL.1 ho).1;rw [A8 listed i za,cR i hi] at h0;cases h0
 | succ fuel ih=>
  intro listed a w β aY kQ nI hF;refine ⟨fun hr=>eY listed a w β (rH listed aY hr) hF,fun i hi=>?_⟩;rw [mem_ready] at hi;obtain ⟨h0,o,ho,cR⟩:=hi;have pA:i<ops.size:=(YL.1 ho).1;rw [A8 listed i za] at h0;have jb:ops.toList.getD i default=o:=by simp [ho]
  obtain ⟨T1,OD⟩:=fM i pA;rw [jb] at T1;have mf : ∀ k,k<ops.size→(k == i || listed.getD k false)=true→∀ e∈(ops.toList.getD k default).after.toList,Region.binds .any e=true→(e.on == i || listed.getD e.on false)=true:=by
   intro k hk hS e he hb;by_cases rC:k=i
   ·subst rC;rw [jb] at he;rw [cR e (by simpa using he) hb,Bool.or_true]
   ·have:(k == i)=false:=by simpa using rC
    rw [this,ZR] at hS;rw [kQ k hk hS e he hb,Bool.or_true]
  have ur:∀ j∈(o5 ops.toList []).getD i [],(j == i || listed.getD j false)=true:=
   RU (fun k=>k == i || listed.getD k false) ops.toList [] (fun i hi=>by simp at hi) (fun k hk hS e he hb=>mf k (by simpa using hk) (by simpa using hS) e he hb) (fun k hk e he hb=>by simpa using nK k (by simpa using hk) e he hb) i (by simpa using pA) zc
  have Fe:∀ k,listed.getD k false=true→k<ops.size→∀ j∈(o5 ops.toList []).getD k [],listed.getD j false=true:=fun k hS hk=>
   RU (fun k=>listed.getD k false) ops.toList [] (fun i hi=>by simp at hi) (fun k hk hS e he hb=>kQ k (by simpa using hk) (by simpa using hS) e he hb) (fun k hk e he hb=>by simpa using nK k (by simpa using hk) e he hb) k (by simpa using hk) hS
  have Nd:∀ k,k<ops.size→∀ j∈(o5 ops.toList []).getD k [],j<k∨j=k→True:=fun _ _ _ _ _=>trivial;have oG:∀ k,k<i→UZ ops (tr.getD k default) (tr.getD i default)=true∨listed.getD k false=true:=by
   intro k hk;rcases oO i pA k hk with h|h
   ·have:=ur k h;have aN:(k == i)=false:=by simp;omega
    rw [aN,ZR] at this;exact .inr this
   ·exact .inl h
  have iW:∀ k,i<k→k<ops.size→listed.getD k false=true→UZ ops (tr.getD i default) (tr.getD k default)=true:=by
   intro k hk gl hS;rcases oO k gl i hk with h|h
   ·rw [Fe k hS gl i h] at h0;cases h0
   ·exact h
  have vM:∀ {r q:Rec},UZ ops r q=true→(∀ d,r.o.dst=some d→d∉q.o.looksAt ops)∧(∀ d,r.o.dst=some d→q.o.dst≠some d)∧(∀ d,q.o.dst=some d→d∉r.o.looksAt ops)∧
    (∀ id,(nt r.wr id).isSome→id∉q.ft∧nt q.wr id=none)∧(∀ id,(nt q.wr id).isSome→id∉r.ft):=by
   intro r q h;unfold UZ at h;rw [zx,zx] at h;obtain ⟨⟨h1,h2⟩,h3⟩:=h;obtain ⟨k1,k2,k3⟩:=Oper.apart_spec h1;rw [zL] at h2 h3;refine ⟨k1,k2,k3,fun id hid=>?_,fun id hid=>?_⟩
   ·obtain ⟨p,hp,rfl⟩:=zi.1 (Lc hid);have:=h2 p hp;rw [zx] at this;refine ⟨by simpa using this.1,?_⟩;cases hl:nt q.wr p.1 with
    | none => rfl
    | some b =>
     have hm:=Lc (l:=q.wr) (id:=p.1) (by rw [hl];rfl);have h4:=this.2;simp only [HQ,List.contains_eq_mem,decide_eq_false_iff_not] at h4;exact absurd hm h4
   ·obtain ⟨p,hp,rfl⟩:=zi.1 (Lc hid);have:=h3 p hp;simpa using this
  have jy:∀ t∈(tr.getD i default).o.looksAt ops,(sig tr s0 (fun k=>listed.getD k false) ops.size).get t=(sig tr s0 (fun _=>true) i).get t:=by
   intro t ht;rw [u3,u3];obtain ⟨m,hm⟩:∃ m,ops.size=i+m:=⟨ops.size - i,by omega⟩
   rw [hm,HK _ _ _ i m]
   ·refine UN _ _ _ _ _ (fun k hk hu=>?_);rcases oG k hk with h|h
    ·exfalso;unfold Ab at hu;split at hu
     ·rename_i hd;exact (vM h).1 t hd ht
     ·simp at hu
    ·exact h
   ·intro k dI gl hS;rcases Vf dI with e|aA
    ·subst e;rw [h0] at hS;cases hS
    ·unfold Ab;rw [if_neg];intro hd;exact (vM (iW k aA za hS)).2.2.1 t hd ht
  have Ol:∀ id∈(tr.getD i default).ft,(sig tr s0 (fun k=>listed.getD k false) ops.size).ob id=(sig tr s0 (fun _=>true) i).ob id:=by
   intro id hid;rw [u5,u5];obtain ⟨m,hm⟩:∃ m,ops.size=i+m:=⟨ops.size - i,by omega⟩
   rw [hm,HK _ _ _ i m]
   ·refine UN _ _ _ _ _ (fun k hk hu=>?_);rcases oG k hk with h|h
    ·exact absurd hid ((vM h).2.2.2.1 id hu).1
    ·exact h
   ·intro k dI gl hS;rcases Vf dI with e|aA
    ·subst e;rw [h0] at hS;cases hS
    ·cases hl:nt (tr.getD k default).wr id with
     | none => rfl
     | some b => exact absurd hid ((vM (iW k aA za hS)).2.2.2.2 id (by rw [hl]; rfl))
  have Gx:=OD.loc jy Ol;refine Gx.wpOp hF (by rw [T1];exact ho) (fun a' w' aJ eW=>?_);have eN:∀ k,(listed.setIfInBounds i true).getD k false=(k == i || listed.getD k false):=by
   intro k;by_cases rC:k=i
   ·subst rC;have:k<listed.size:=by omega
    simp [this]
   ·have aN:(k == i)=false:=by simpa using rC
    rw [aN,ZR];simp [RJ (fun e=>rC e.symm)]
  have FC:(fun k=>(listed.setIfInBounds i true).getD k false)=(fun k=>k == i || listed.getD k false):=funext eN;refine ih _ a' w' aJ (by simp [aY]) (fun k hk hS e he hb=>?_) ?_ ?_
  ·rw [eN] at hS ⊢;exact mf k hk hS e he hb
  ·rw [FC];have:=zoa (S:=fun k=>listed.getD k false) h0 ops.size pA;omega
  ·rw [FC];refine eW.ext (fun t=>?_) (fun id=>?_)
   ·rw [zs2,u3,u3];refine RE _ _ _ i h0 ops.size pA (fun k dI gl hS hu=>?_);cases BB:Ab (tr.getD i default) t with
    | none => rfl
    | some v=>
     exfalso;unfold Ab at hu BB;split at BB
     ·rename_i uw;split at hu
      ·rename_i CZ;exact (vM (iW k dI gl hS)).2.1 t uw CZ
      ·simp at hu
     ·cases BB
   ·rw [zvz,u5,u5];refine RE _ _ _ i h0 ops.size pA (fun k dI gl hS hu=>?_);cases BB:nt (tr.getD i default).wr id with
    | none => rfl
    | some v =>
     exfalso;have:=((vM (iW k dI gl hS)).2.2.2.1 id (by rw [BB];rfl)).2;rw [this] at hu;cases hu
theorem zl0 {s0 s' : ah} {tr:List Rec} (hx:sK c ops s0 ops.toList tr s') (e9:DP ops tr=true) (hQ:∀ a w β,FR c.N w0 J s' a w β→Q .normal a w) (hF:FR c.N w0 J s0 a w β) :
  wpAny c.P .any ops Q ops.size (Array.replicate ops.size false) a { w with drawn:=w.drawn+1 }:=by
 refine zqt hx e9 hQ ops.size _ a _ β zc (fun i hi hS=>?_) ?_ ?_
 ·have:(Array.replicate ops.size false).getD i false=false:=by simp [hi]
  rw [this] at hS;cases hS
 ·have key:∀ n,qQ (fun k=>(Array.replicate ops.size false).getD k false) n≤n:=by
   intro n
   induction n with
   | zero => exact zg _
   | succ n ih => unfold qQ; split <;> omega
  exact key _
 ·have hD:FR c.N w0 J s0 a { w with drawn:=w.drawn+1 } β:=hF.grow ⟨rfl,rfl,rfl,zg _,fun _ _=>rfl⟩;refine hD.ext (fun t=>?_) (fun id=>?_)
  ·have key:=HK (fun k=>Ab (tr.getD k default) t) (fun k=>(Array.replicate ops.size false).getD k false) (s0.get t) 0 ops.size (fun k _ hk hS=>by
    have:(Array.replicate ops.size false).getD k false=false:=by
     rw [Xo];cases h:(Array.replicate ops.size false)[k]? with
     | none => rfl
     | some b => rw [Array.getElem?_replicate] at h; split at h <;> simp_all
    rw [this] at hS;cases hS)
   rw [yh] at key;rw [u3,key];rfl
  ·have key:=HK (fun k=>nt (tr.getD k default).wr id) (fun k=>(Array.replicate ops.size false).getD k false) (s0.ob id) 0 ops.size (fun k _ hk hS=>by
    have:(Array.replicate ops.size false).getD k false=false:=by
     rw [Xo];cases h:(Array.replicate ops.size false)[k]? with
     | none => rfl
     | some b => rw [Array.getElem?_replicate] at h; split at h <;> simp_all
    rw [this] at hS;cases hS)
   rw [yh] at key;rw [u5,key];rfl
end
def fc (K:Act→World→Prop):Exit→Act→World→Prop
 | .normal, a, w => K a w
 | _, _, _ => False
def fQ (P:Program):Code→(Exit→Act→World→Prop)→Act→World→Prop
 | .skip, Q, a, w => Q .normal a w
 | .label _, Q, a, w => Q .normal a w
 | .exit id, Q, a, w => Q (.exit id) a w
 | .ret, Q, a, w => Q .ret a w
 | .seq x y, Q, a, w => fQ P x (Exit.then (fQ P y Q) Q) a w
 | .block id x, Q, a, w => fQ P x (Exit.inBlock id Q) a w
 | .cond c x y, Q, a, w => ∃ t, a.eval c=.bool t ∧ (t=true → fQ P x Q a w) ∧ (t=false → fQ P y Q a w)
 | .loop x, Q, a, w => ∃ (I:Nat → Act → World → Prop) (n:Nat), I n a w ∧ ∀ n a w, I n a w → fQ P x (Exit.then (fun a w => ∃ m, m<n ∧ I m a w) Q) a w
 | .region _ ops false, Q, a, w => wpList P ops (fc (Q .normal)) ops.toList a w
 | .region _ ops true, Q, a, w => wpAny P .any ops (fc (Q .normal)) ops.size (Array.replicate ops.size false) a { w with drawn := w.drawn+1 }
 | _, _, _, _ => False
section
variable {P:Program}
theorem YB (K:Act→World→Prop):¬ LetsOut (fc K):=fun ⟨_,_,h⟩=>h
theorem zgP {o:Oper} {K' G G' : Act→World→Prop} (h:∀ a w,K a w→K' a w) (hg:∀ a w,G a w→G' a w) (hh:o.wp P a w K (fc G)):o.wp P a w K' (fc G'):=by
 unfold Oper.wp at *;generalize (execOp a.eval o).run P w=r at *;cases r with
 | ok n w'=>
  cases n <;> simp only [Oper.upon] at hh ⊢ <;>
   first
    | exact h _ _ hh
    | exact BU hh (fun e uX he => by cases e <;> first|exact h _ _ he|exact he.elim|(obtain ⟨_, _, q⟩ := he; exact q.elim))
    | exact Rows.mono hh (fun _ _ he => h _ _ he)
 | halt x w' => cases x <;> simp only [Oper.upon] at hh ⊢ <;> exact hh.elim
theorem Xn {ops:Array Oper} {K K' : Act→World→Prop} (h:∀ a w,K a w→K' a w):∀ {l:List Oper} {a:Act} {w:World},wpList P ops (fc K) l a w→wpList P ops (fc K') l a w
 | [], a, w, hh => h a w hh
 | o::l,a,w,hh=>by
  unfold wpList at hh ⊢;split
  ·rename_i hw;rw [if_pos hw] at hh;rcases hh with hh|hh
   ·exact .inl (zgP (fun a w q=>Xn h q) h hh)
   ·exact absurd hh.2 (YB _)
  ·rename_i hw;rw [if_neg hw] at hh;exact Xn h hh
theorem zqM {ops:Array Oper} {K' G G' : Act→World→Prop} (h:∀ a w,K a w→K' a w) (hg:∀ a w,G a w→G' a w) (hh:wpOp P ops (fc G) i K a w):wpOp P ops (fc G') i K' a w:=by
 unfold wpOp at *;split
 ·rename_i ho;rw [ho] at hh;exact h _ _ hh
 ·rename_i o ho;rw [ho] at hh;dsimp only at hh;split
  ·rename_i hw;rw [if_pos hw] at hh;rcases hh with hh|hh
   ·exact .inl (zgP h hg hh)
   ·exact absurd hh.2 (YB _)
  ·rename_i hw;rw [if_neg hw] at hh;exact h _ _ hh
theorem Kb {ops:Array Oper} {K K' : Act→World→Prop} (h:∀ a w,K a w→K' a w):∀ {fuel:Nat} {listed:Array Bool} {a:Act} {w:World},wpAny P .any ops (fc K) fuel listed a w→wpAny P .any ops (fc K') fuel listed a w
 | 0, _, a, w, hh => ⟨hh.1, h a w hh.2⟩
 | fuel+1, listed, a, w, hh => ⟨fun e => h a w (hh.1 e), fun i hi => zqM (fun a w q => Kb h q) h (hh.2 i hi)⟩
theorem xS:∀ {c:Code} {Q Q' : Exit→Act→World→Prop} {a:Act} {w:World},fQ P c Q a w→(∀ e a w,Q e a w→Q' e a w)→fQ P c Q' a w
 | .skip, _, _, _, _, h, hq => hq _ _ _ h
 | .label _, _, _, _, _, h, hq => hq _ _ _ h
 | .exit _, _, _, _, _, h, hq => hq _ _ _ h
 | .ret, _, _, _, _, h, hq => hq _ _ _ h
 | .seq x y,Q,Q',a,w,h,hq=>xS (c:=x) h fun e a w q=>by
   cases e <;> first|exact xS (c:=y) q hq|exact hq _ _ _ q
 | .block id x,Q,Q',a,w,h,hq=>xS (c:=x) h fun e a w q=>by
   cases e with
   | exit aL =>
    simp only [Exit.inBlock] at q ⊢;split
    ·rename_i e;rw [if_pos e] at q;exact hq _ _ _ q
    ·rename_i e;rw [if_neg e] at q;exact hq _ _ _ q
   | _ => exact hq _ _ _ q
 | .cond c x y, Q, Q', a, w, ⟨t, h, h1, h2⟩, hq => ⟨t, h, fun e => xS (c := x) (h1 e) hq, fun e => xS (c := y) (h2 e) hq⟩
 | .loop x,Q,Q',a,w,⟨I,n,h0,h⟩,hq=>⟨I,n,h0,fun n a w hi=>xS (c:=x) (h n a w hi) fun e a w q=>by
   cases e <;> first|exact q|exact hq _ _ _ q⟩
 | .region _ ops false, _, _, _, _, h, hq => Xn (fun a w q => hq _ _ _ q) h
 | .region _ ops true, _, _, _, _, h, hq => Kb (fun a w q => hq _ _ _ q) h
theorem Uz (hm:P.follows .mixedOrders=true):∀ {c:Code} {Q:Exit→Act→World→Prop} {a:Act} {w:World},fQ P c Q a w→c.wp P Q a w
 | .skip, _, _, _, h => wp_skip h
 | .label _, _, _, _, h => wp_label h
 | .exit _, _, _, _, h => wp_exit h
 | .ret, _, _, _, h => wp_ret h
 | .seq x y, Q, a, w, h => wp_seq (Uz hm (xS (c := x) h fun e a w q => by cases e <;> first|exact Uz hm (c := y) q|exact q))
 | .block id x, Q, a, w, h => wp_block (Uz hm (c := x) h)
 | .cond c x y, Q, a, w, ⟨t, h, h1, h2⟩ => by
  cases t with
  | true => exact wp_cond_true h (Uz hm (c := x) (h1 rfl))
  | false => exact wp_cond_false h (Uz hm (c := y) (h2 rfl))
 | .loop x, Q, a, w, ⟨I, n, h0, h⟩ => wp_loop_ghost I n h0 fun n a w hi => Uz hm (c := x) (h n a w hi)
 | .region _ ops false, Q, _, _, h => wp_mono (wp_region_list h) fun e a w q => by cases e <;> first|exact q|exact q.elim
 | .region _ ops true, Q, _, _, h => wp_mono (wp_region_any hm h) fun e a w q => by cases e <;> first|exact q|exact q.elim
/-! in a round -/
def Oper.jG (o:Oper):Bool:=match o.op with|.defer _=>false|_=>true
theorem zu9 {o:Oper} (h:Oper.jG o=true):∀ c,o.op≠.defer c:=fun c e=>by unfold Oper.jG at h;rw [e] at h;cases h
def sT:Code→Bool
 | .seq x y => sT x && sT y
 | .block _ x => sT x
 | .cond _ x y => sT x && sT y
 | .loop x => sT x
 | .region _ ops _ => ops.toList.all Oper.jG
 | _ => true
section
variable {l n:Nat}
theorem zoJ {o:Oper} (hd:Oper.jG o=true) (h:o.wp P a w K Q):o.wpIn (Fence.wide.inRound l) n P a w K Q:=by
 refine ⟨fun _ _=>trivial,?_⟩;rw [show (Fence.wide.inRound l).round=some l from rfl,Oper.semAt_some l _ _ (zu9 hd)];unfold Oper.wp at h;generalize (execOp a.eval o).run P w=r at *;cases r with
 | ok nx w' =>
  cases nx with
  | value v => exact h
  | skip => exact h
  | defer d => exact h
  | enter f args => exact ⟨fun h => by simp [Fence.inRound, Fence.wide] at h, CallsIn.inRound l (callsIn_wide.2 h)⟩
  | row row args => exact ⟨fun h => by simp [Fence.inRound, Fence.wide] at h, fun c cs _ => let ⟨v, w', r, s⟩ := h c cs; ⟨v, w', r, stepsIn_wide.2 s⟩⟩
  | round => exact h.elim
  | _ => exact h.elim
 | halt x w' => cases x <;> first|exact h|exact h.elim
theorem QZ {ops:Array Oper} {K:Act→World→Prop}:∀ {L:List Oper} {a:Act} {w:World},L.all Oper.jG=true→wpList P ops (fc K) L a w→wpListIn (Fence.wide.inRound l) n P ops (fc K) L a w
 | [], a, w, _, hh => hh
 | o::L,a,w,ht,hh=>by
  rw [Lg,zx] at ht;unfold wpList at hh;unfold wpListIn;split
  ·rename_i hw;rw [if_pos hw] at hh;rcases hh with hh|hh
   ·exact zoJ ht.1 (Oper.wp_mono (fun a w q=>QZ ht.2 q) hh)
   ·exact absurd hh.2 (YB _)
  ·rename_i hw;rw [if_neg hw] at hh;exact ⟨fun _ _=>trivial,QZ ht.2 hh⟩
theorem LI {ops:Array Oper} (ht:ops.toList.all Oper.jG=true) {K:Act→World→Prop}:∀ {fuel:Nat} {listed:Array Bool} {a:Act} {w:World},wpAny P .any ops (fc K) fuel listed a w→wpAnyIn (Fence.wide.inRound l) n P .any ops (fc K) fuel listed a w
 | 0, _, a, w, hh => hh
 | fuel+1,listed,a,w,hh=>⟨hh.1,fun i hi=>by
  have h:=hh.2 i hi;unfold wpOp at h;unfold wpOpIn;split
  ·rename_i ho;rw [ho] at h;exact LI ht h
  ·rename_i o ho;rw [ho] at h;dsimp only at h;have hto:Oper.jG o=true:=zL.1 ht o (by
    have:=zG (l:=ops.toList) (i:=i) (a:=o) (by simpa using ho);exact this)
   split
   ·rename_i hw;rw [if_pos hw] at h;rcases h with h|h
    ·exact zoJ hto (Oper.wp_mono (fun a w q=>LI ht q) h)
    ·exact absurd h.2 (YB _)
   ·rename_i hw;rw [if_neg hw] at h;exact ⟨fun _ _=>trivial,LI ht h⟩⟩
theorem V9 {F:Fence} {c:Code} (I:Nat→Act→World→Prop) (G6:Nat) (h₀:I G6 a w)
  (round:∀ n a w,I n a w→c.wpIn F l P (Exit.then (fun a' w'=>∃ n',n'<n∧I n' a' w') Q) a w):(Code.loop c).wpIn F l P Q a w:=by
 refine wpIn_loop (fun a w=>∃ n,I n a w) (fun a w=>leastOf (fun n=>I n a w)) ⟨G6,h₀⟩ ?_;intro a w hI;refine wpIn_mono (round _ a w (leastOf_spec hI).1) ?_;intro e a' w' hq;cases e with
 | normal =>
  obtain ⟨n',aA,MQ⟩:=hq;exact show (∃ n,I n a' w')∧leastOf (fun n=>I n a' w')<leastOf (fun n=>I n a w) from ⟨⟨n',MQ⟩,Nat.lt_of_le_of_lt ((leastOf_spec ⟨n',MQ⟩).2 n' MQ) aA⟩
 | _ => exact hq
theorem x8 (hm:P.follows .mixedOrders=true):∀ {c:Code} {Q:Exit→Act→World→Prop} {a:Act} {w:World},sT c=true→fQ P c Q a w→c.wpIn (Fence.wide.inRound l) n P Q a w
 | .skip, _, _, _, _, h => wpIn_skip h
 | .label _, _, _, _, _, h => wpIn_label h
 | .exit _, _, _, _, _, h => wpIn_exit h
 | .ret, _, _, _, _, h => wpIn_ret h
 | .seq x y, Q, a, w, ht, h => by
  simp only [sT,zx] at ht;exact wpIn_seq (x8 hm ht.1 (xS (c:=x) h fun e a w q=>by cases e <;> first|exact x8 hm (c:=y) ht.2 q|exact q))
 | .block id x, Q, a, w, ht, h => wpIn_block (x8 hm (c := x) ht h)
 | .cond c x y, Q, a, w, ht, ⟨t, h, h1, h2⟩ => by
  simp only [sT,zx] at ht;cases t with
  | true => exact wpIn_cond_true h (x8 hm (c := x) ht.1 (h1 rfl))
  | false => exact wpIn_cond_false h (x8 hm (c := y) ht.2 (h2 rfl))
 | .loop x, Q, a, w, ht, ⟨I, n, h0, h⟩ => V9 I n h0 fun n a w hi => x8 hm (c := x) ht (h n a w hi)
 | .region _ ops false, Q, _, _, ht, h => wpIn_mono (wpIn_region_list (QZ ht h)) fun e a w q => by cases e <;> first|exact q|exact q.elim
 | .region _ ops true, Q, _, _, ht, h => wpIn_mono (wpIn_region_any hm (LI ht h)) fun e a w q => by cases e <;> first|exact q|exact q.elim
end
/-! the slots that the code does not write -/
def jN:Code→Nat→Bool
 | .seq x y, k => jN x k && jN y k
 | .block _ x, k => jN x k
 | .cond _ x y, k => jN x k && jN y k
 | .loop x, k => jN x k
 | .region _ ops _, k => ops.toList.all fun o => o.dst != some k
 | _, _ => true
def vu (a:Act) (nw:Nat→Bool) (K:Act→World→Prop):Act→World→Prop:=fun a' w'=>K a' w'∧∀ k,nw k=true→a'.tmps.getD k undef=a.tmps.getD k undef
theorem Du {k:Nat} (h:dst≠some k):(Act.put a dst v).tmps.getD k undef=a.tmps.getD k undef:=by
 cases dst with
 | none => rfl
 | some d =>
  have hd:d≠k:=fun e=>h (by rw [e]);show (a.tmps.setIfInBounds d v).getD k undef=_;rw [Xo,Xo,RJ hd]
theorem ziM {o:Oper} {G G' : Act→World→Prop} (h:o.wp P a w K (fc G)):o.wp P a w (vu a (fun k=>o.dst != some k) K) (fc G'):=by
 unfold Oper.wp at *;have key:∀ v w',K (a.put o.dst v) w'→vu a (fun k=>o.dst != some k) K (a.put o.dst v) w':=fun v w' hk=>⟨hk,fun k hk=>Du (by simpa using hk)⟩
 generalize (execOp a.eval o).run P w=r at *;cases r with
 | ok n w' =>
  cases n with
  | value v => exact key v w' h
  | skip => exact key _ w' h
  | defer d => exact ⟨h, fun k hk => Du (a := { a with defers := d :: a.defers }) (by simpa using hk)⟩
  | enter f args => exact BU h (fun e uX he => by cases e <;> first|exact key _ _ he|exact he.elim|(obtain ⟨_, _, q⟩ := he; exact q.elim))
  | row row args => exact Rows.mono h (fun _ _ he => key _ _ he)
  | _ => exact h.elim
 | halt x w' => cases x <;> exact h.elim
theorem vu.trans {a1:Act} {n1 n2 n3:Nat→Bool} {a' : Act} (h:vu a1 n2 K a' w) (h1:∀ k,n1 k=true→a1.tmps.getD k undef=a.tmps.getD k undef) (hn:∀ k,n3 k=true→n1 k=true∧n2 k=true):vu a n3 K a' w:=
 ⟨h.1,fun k hk=>(h.2 k (hn k hk).2).trans (h1 k (hn k hk).1)⟩
theorem Kc {ops:Array Oper} {K:Act→World→Prop}:∀ {L:List Oper} {a:Act} {w:World},wpList P ops (fc K) L a w→wpList P ops (fc (vu a (fun k=>L.all fun o=>o.dst != some k) K)) L a w
 | [], a, w, hh => ⟨hh, fun k _ => rfl⟩
 | o::L,a,w,hh=>by
  have hn:∀ k,((o::L).all fun o=>o.dst != some k)=true→(o.dst != some k)=true∧(L.all fun o=>o.dst != some k)=true:=fun k hk=>by rw [Lg,zx] at hk;exact hk
  unfold wpList at hh ⊢;split
  ·rename_i hw;rw [if_pos hw] at hh;rcases hh with hh|hh
   ·exact .inl (Oper.wp_mono (fun a1 w1 q=>Xn (fun a w q2=>q2.trans q.2 hn) (Kc q.1)) (ziM hh))
   ·exact absurd hh.2 (YB _)
  ·rename_i hw;rw [if_neg hw] at hh;exact Xn (fun a1 w1 q=>q.trans (fun k hk=>Du (by simpa using hk)) hn) (Kc hh)
theorem Kn {ops:Array Oper} {K:Act→World→Prop}:∀ {fuel:Nat} {listed:Array Bool} {a:Act} {w:World},wpAny P .any ops (fc K) fuel listed a w→wpAny P .any ops (fc (vu a (fun k=>ops.toList.all fun o=>o.dst != some k) K)) fuel listed a w
 | 0, _, a, w, hh => ⟨hh.1, hh.2, fun k _ => rfl⟩
 | fuel+1,listed,a,w,hh=>⟨fun e=>⟨hh.1 e,fun k _=>rfl⟩,fun i hi=>by
  have h:=hh.2 i hi;unfold wpOp at h ⊢;split
  ·rename_i ho;rw [ho] at h;exact Kn h
  ·rename_i o ho;rw [ho] at h;dsimp only at h;have hn:∀ k,(ops.toList.all fun o=>o.dst != some k)=true→(o.dst != some k)=true∧(ops.toList.all fun o=>o.dst != some k)=true:=fun k hk=>
    ⟨zL.1 hk o (zG (l:=ops.toList) (i:=i) (by simpa using ho)),hk⟩
   split
   ·rename_i hw;rw [if_pos hw] at h;rcases h with h|h
    ·exact .inl (Oper.wp_mono (fun a1 w1 q=>Kb (fun a w q2=>q2.trans q.2 hn) (Kn q.1)) (ziM h))
    ·exact absurd h.2 (YB _)
   ·rename_i hw;rw [if_neg hw] at h;exact Kb (fun a1 w1 q=>q.trans (fun k hk=>Du (by simpa using hk)) hn) (Kn h)⟩
def zxR (a:Act) (nw:Nat→Bool) (Q:Exit→Act→World→Prop):Exit→Act→World→Prop:=fun e=>vu a nw (Q e)
theorem Xv:∀ {c:Code} {Q:Exit→Act→World→Prop} {a:Act} {w:World},fQ P c Q a w→fQ P c (zxR a (jN c) Q) a w
 | .skip, _, _, _, h => ⟨h, fun _ _ => rfl⟩
 | .label _, _, _, _, h => ⟨h, fun _ _ => rfl⟩
 | .exit _, _, _, _, h => ⟨h, fun _ _ => rfl⟩
 | .ret, _, _, _, h => ⟨h, fun _ _ => rfl⟩
 | .seq x y,Q,a,w,h=>xS (c:=x) (Xv (c:=x) h) fun e a1 w1 q=>by
   have hn:∀ k,jN (.seq x y) k=true→jN x k=true∧jN y k=true:=fun k hk=>by simpa [jN] using hk
   cases e with
   | normal => exact xS (c := y) (Xv (c := y) q.1) fun e a2 w2 q2 => vu.trans q2 q.2 hn
   | _ => exact ⟨q.1, fun k hk => q.2 k (hn k hk).1⟩
 | .block id x,Q,a,w,h=>xS (c:=x) (Xv (c:=x) h) fun e a1 w1 q=>by
   obtain ⟨q,q2⟩:=q;cases e with
   | exit aL =>
    simp only [Exit.inBlock] at q ⊢;split
    ·rename_i e;rw [if_pos e] at q;exact ⟨q,q2⟩
    ·rename_i e;rw [if_neg e] at q;exact ⟨q,q2⟩
   | _ => exact ⟨q, q2⟩
 | .cond c x y, Q, a, w, ⟨t, h, h1, h2⟩ => by
  have hn:∀ k,jN (.cond c x y) k=true→jN x k=true∧jN y k=true:=fun k hk=>by simpa [jN] using hk
  exact ⟨t,h,fun e=>xS (c:=x) (Xv (c:=x) (h1 e)) fun e a w q=>⟨q.1,fun k hk=>q.2 k (hn k hk).1⟩,fun e=>xS (c:=y) (Xv (c:=y) (h2 e)) fun e a w q=>⟨q.1,fun k hk=>q.2 k (hn k hk).2⟩⟩
 | .loop x,Q,a,w,⟨I,n,h0,h⟩=>⟨fun n a' w'=>I n a' w'∧∀ k,jN x k=true→a'.tmps.getD k undef=a.tmps.getD k undef,n,⟨h0,fun _ _=>rfl⟩,fun n a1 w1 hi=>by
   refine xS (c:=x) (Xv (c:=x) (h n a1 w1 hi.1)) fun e a2 w2 q=>?_;obtain ⟨q,q2⟩:=q;have mB:∀ k,jN x k=true→a2.tmps.getD k undef=a.tmps.getD k undef:=fun k hk=>(q2 k hk).trans (hi.2 k hk);cases e with
   | normal => obtain ⟨m, h1, h2⟩ := q; exact ⟨m, h1, h2, mB⟩
   | _ => exact ⟨q, mB⟩⟩
 | .region _ ops false, Q, a, w, h => Kc h
 | .region _ ops true, Q, a, w, h => Kn (a := a) h
end
end
end Go.Proofs.YtphidhljdcledaaGreat
