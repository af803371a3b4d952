/-
  Some texts as one: FmRowH, FmRowD, FmDeep1, FmBuildH, FmClus, FmClus2, FmClus3, LinClus, FmViol.
-/
import Derived.Test.YtmnmakhpjgjdaaaZFmW
import Derived.Test.YtmnmakhpjgjdaaaZR
namespace Go.Proofs.Ytmnmakhpjgjdaaa
set_option linter.unusedVariables false
set_option maxHeartbeats 16000000
section
open Go.RowKit
theorem zeT {α:Type} {sz:Nat}:∀ (es:List (List α)),(∀ e∈es,e.length=sz)→∀ (j o:Nat) row f,es[j]? = some row→row[o]? = some f→es.flatten[j * sz+o]? = some f
 | [], _, j, o, row, f, h, _ => by simp at h
 | e :: es, he, 0, o, row, f, h, hf => by
  simp at h;subst h;have:=(List.getElem?_eq_some_iff.1 hf).1;rw [Nat.zero_mul,Nat.zero_add,List.flatten_cons,List.getElem?_append_left this];exact hf
 | e :: es, he, j+1, o, row, f, h, hf => by
  have h1:=he e zc;have:=zeT es (fun q hq=>he q (by simp [hq])) j o row f (by simpa using h) hf;rw [List.flatten_cons,List.getElem?_append_right (by rw [h1,Nat.add_mul];omega),h1,show (j+1) * sz+o - sz=j * sz+o by rw [Nat.add_mul];omega];exact this
theorem zeU {α:Type} {sz:Nat}:∀ (es:List (List α)),(∀ e∈es,e.length=sz)→∀ (j o:Nat) row f,es[j]? = some row→o<row.length→(es.set j (row.set o f)).flatten=es.flatten.set (j * sz+o) f
 | [], _, j, o, row, f, h, _ => by simp at h
 | e :: es, he, 0, o, row, f, h, ho => by
  simp at h;subst h;rw [List.set_cons_zero,List.flatten_cons,List.flatten_cons,Nat.zero_mul,Nat.zero_add,List.set_append_left _ _ ho]
 | e :: es, he, j+1, o, row, f, h, ho => by
  have h1:=he e zc;have:=zeU es (fun q hq=>he q (by simp [hq])) j o row f (by simpa using h) ho;rw [List.set_cons_succ,List.flatten_cons,List.flatten_cons,this,List.set_append_right _ _ (by rw [h1,Nat.add_mul];omega),h1,show (j+1) * sz+o - sz=j * sz+o by rw [Nat.add_mul];omega]
section
variable {c:Ctx} {w0 w:World} {J:JJ} {s:FSt} {a:Act} {β:Nat→Option Nat} {dst:Option Nat} {ty:TypeId} {pos:String} {after:Array Edge} {g:Option (Nat×Bool)}
theorem za0 (h:FR c.N w0 J s a w β) {T:Nat} (hk:(c.ty T).k.agg? = some false) (x:Operand) {id ver j o:Nat} (ex:s.ev x=.ptr id ver j o) (hlf:(s.ob id).life=.hrow) (hver:(s.ob id).ver=ver) {row:List FV} {f:FV} (hj:(s.ob id).es[j]? = some row) (ho:row[o]? = some f) :
  yV c w0 J s a ⟨dst,.load T x,ty,pos,after,g⟩ w f []:=by
 have hlive:(s.ob id).life≠.dead:=by rw [hlf];decide
 obtain ⟨_,b,hb,hv⟩:=h.ev_ptr ex hlive hver;obtain ⟨cur,cap,hblk,hn,hm,hcs,hl,hr⟩:=h.blockH hlf hb;have hH:=(h.obj id hlive).rowH (by rw [hlf];rfl) (by rw [hlf];rfl);have hw:=hH.wide;have hjl:=(List.getElem?_eq_some_iff.1 hj).1;have hjf:=zeT _ hw j o row f hj ho;obtain ⟨p,hp⟩:∃ p,j * (s.ob id).sz+o=p:=⟨_,rfl⟩
 rw [hp] at hjf hv;have hpf:p<(s.ob id).es.length * (s.ob id).sz:=by have:=(List.getElem?_eq_some_iff.1 hjf).1;rwa [yw hw] at this
 have hpc:p<cur.size:=by
  have:(s.ob id).es.length * (s.ob id).sz≤cap * (s.ob id).sz:=Nat.mul_le_mul_right _ hn;omega
 have hu:(cur.toList.take ((s.ob id).es.length * (s.ob id).sz))[p]? = some cur[p]:=by
  rw [List.getElem?_take,if_pos hpf];simp [hpc]
 have hcell:w.cell? ⟨b,p,none⟩=some cur[p]:=by
  have:=cell_of_row w b p cur (s.ob id).E (0,0) hblk;rw [this];simp [hpc]
 refine .pure h (v:=cur[p]) ?_ (hr p _ f hu hjf) (fun id' ver' e=>hH.vers f (List.mem_of_getElem? hjf) id' ver' e);have:(loadVar T ⟨b,p,none⟩).run c.P w=.ok cur[p] w:=by simp [loadVar,XP hk,load,Sem.run,hcell]
 simp [execOp,Instr.loadAt,hv,Instr.sureAddr,this]
theorem UG (h:FR c.N w0 J s a w β) {T:Nat} (hk:(c.ty T).k≠.other) (hz:(c.ty T).size=1) (x y:Operand) {id ver j o:Nat} (ex:s.ev x=.ptr id ver j o) (hlf:(s.ob id).life=.hrow) (hver:(s.ob id).ver=ver) {rw_:List FV} {f:FV} (ey:s.ev y=f)
  (hf:UM s f) (hj:(s.ob id).es[j]? = some rw_) (ho:o<rw_.length) :
  ∃ w',(execOp a.eval ⟨dst,.store T x y,ty,pos,after,g⟩).run c.P w=.ok .skip w'∧FR c.N w0 J (s.wr [(id,{ s.ob id with es:=(s.ob id).es.set j (rw_.set o f) })]) a w' β:=by
 have hlive:(s.ob id).life≠.dead:=by rw [hlf];decide
 obtain ⟨_,b,hb,hvx⟩:=h.ev_ptr ex hlive hver;obtain ⟨cur,cap,hblk,hn,hm,hcs,hl,hr⟩:=h.blockH hlf hb;have hH:=(h.obj id hlive).rowH (by rw [hlf];rfl) (by rw [hlf];rfl);have hw:=hH.wide;obtain ⟨hc1,hc2⟩:=UM.val h ey hf;have hvr:=h.ev y;have hvv:∀ id' ver',(id',ver')∈f.hands→ver'≤(s.ob id').ver:=fun id' ver' e=>h.evers y (by rw [ey];exact e);rw [ey] at hvr;generalize hy:a.eval y=v at hc1 hc2 hvr;obtain ⟨p,hp⟩:∃ p,j * (s.ob id).sz+o=p:=⟨_,rfl⟩
 have hjl:=(List.getElem?_eq_some_iff.1 hj).1;have hrl:rw_.length=(s.ob id).sz:=hw _ (List.mem_of_getElem? hj);have hpl:p<(s.ob id).es.length * (s.ob id).sz:=by
  have:(j+1) * (s.ob id).sz≤(s.ob id).es.length * (s.ob id).sz:=Nat.mul_le_mul_right _ hjl;rw [Nat.add_mul,Nat.one_mul] at this;omega
 have hpc:p<cur.size:=by
  have:(s.ob id).es.length * (s.ob id).sz≤cap * (s.ob id).sz:=Nat.mul_le_mul_right _ hn;omega
 rw [hp] at hvx;have hst:=run_storeCells_at c.P b p (s.ob id).E [v] 0 cur w hblk zx (by simpa using hc2);simp only [Nat.add_zero] at hst;have hjc:p<cur.toList.length:=by simp;omega
 obtain ⟨W,hW⟩:∃ W,W=w.setRow b (splice cur.toList p [v]).toArray:=⟨_,rfl⟩
 have hWb:W.heap[b]? = some (.cells (cur.toList.set p v).toArray (s.ob id).E (0,0)):=by rw [hW,zdf v hjc];exact yJ w b _ cur _ hblk
 have hg:w.grownBy W (some b):=by
  subst hW;exact ⟨rfl,rfl,rfl,by simp [World.setRow],fun k hk hne=>yW w b k _ (fun e=>hne (by rw [e]))⟩
 have hlt:=(h.obj id hlive).lt hb;refine ⟨W,?_,?_⟩
 ·have hs:=yZ (c:=c) hk w;have hst' : (storeCells ⟨b,p,none⟩ [v]).run c.P w=.ok () W:=by rw [hW];exact hst
  simp [execOp,Instr.storeAt,storeVar,hvx,hy,Instr.sureAddr,hs,hz,hc1,hst']
 ·have hob:∀ k,(s.wr [(id,{ s.ob id with es:=(s.ob id).es.set j (rw_.set o f) })]).ob k=if id=k then { s.ob id with es:=(s.ob id).es.set j (rw_.set o f) } else s.ob k:=fun k=>FSt.ob_set s id _ k
  have hI:∀ b',Imm J w β s b'→Imm J W β (s.wr [(id,{ s.ob id with es:=(s.ob id).es.set j (rw_.set o f) })]) b'∧W.heap[b']? = w.heap[b']?:=fun b' hbb=>by
   refine ⟨⟨Nat.lt_of_lt_of_le hbb.1 hg.size,hbb.2.1,fun id' hl'=>?_⟩,hg.block b' hbb.1 (fun e=>hbb.2.2 id (by rw [hlf];rfl) (by rw [hb];exact e.symm))⟩;rw [hob] at hl';split at hl'
   ·rename_i e;subst e;exact hbb.2.2 id (by rw [hlf];rfl)
   ·exact hbb.2.2 id' hl'
  refine h.step (C:=fun k=>k=id) h.size h.defers (h.bel.grown hg h.bel.size (fun k hk=>by injection hk with hk;subst hk;exact hlt.1)) hI (fun k=>.inl ⟨rfl,rfl⟩) (fun k hC=>?_) (fun k hC=>?_) (fun k hC hl2 hvv2=>?_) (fun k hC hl2 T'=>?_) ?_ (fun b' hlt' hn=>⟨hg.block b' hlt' (fun e=>hn id hlive (by rw [hb];exact e.symm)),fun k hl2=>hn k (by rw [hob] at hl2;split at hl2;(· rename_i e;subst e;exact hlive);(· exact hl2))⟩)
  ·refine ⟨by rw [hob,if_neg (fun e=>hC e.symm)],rfl,fun hl2 b' hbb=>hg.block b' ((h.obj k hl2).lt hbb).2 (fun e=>hC (h.inj k id b' hl2 hlive hbb (by rw [hb];exact e.symm)))⟩
  ·subst hC;rw [hob,if_pos rfl];exact Nat.le_refl _
  ·subst hC;refine ⟨hlive,rfl,by rw [hob,if_pos rfl],by rw [hob,if_pos rfl],fun v2 o n hv2=>?_⟩;rw [hob,if_pos rfl];obtain ⟨A,cc,q1,q2,q3,q4,q5⟩:=hv2.ex;refine ⟨hv2.row,A,cc,q1,q2,by simpa using q3,q4,fun b2 hbb=>?_⟩;obtain ⟨o',k1,k2,k3⟩:=q5 b2 hbb;refine ⟨o',k1,k2,fun cur' hc'=>?_⟩;rw [hb] at hbb;injection hbb with hbb
   subst hbb;dsimp only at hc';rw [hWb] at hc';injection hc' with hc'
   injection hc' with hc' _ _
   rw [← hc'];have:=k3 cur hblk;simpa using this
  ·subst hC;rw [hob,if_pos rfl];have hvers:∀ id',(s.ob id').ver≤((s.wr [(k,{ s.ob k with es:=(s.ob k).es.set j (rw_.set o f) })]).ob id').ver:=fun id'=>by
    rw [hob];split
    ·rename_i e;subst e;exact Nat.le_refl _
    ·exact Nat.le_refl _
   have hfl:=zeU _ hw j o rw_ f hj ho;rw [hp] at hfl;have hfll:(s.ob k).es.flatten.length=(s.ob k).es.length * (s.ob k).sz:=yw hw;refine .ofH ⟨fun e he=>?_,fun f' hf' id' ver' e=>?_,.slice (some ⟨b,0,none⟩) (s.ob k).es.length cap,(cur.toList.take ((s.ob k).es.length * (s.ob k).sz)).set p v,?_,by rw [hb];rfl,?_,fun i u f' hu hf'=>?_⟩ hlf
   ·rcases List.mem_or_eq_of_mem_set he with h'|h'
    ·exact hw e h'
    ·subst h';rw [List.length_set];exact hrl
   ·dsimp only at hf';rw [hfl] at hf';refine Nat.le_trans ?_ (hvers id');rcases List.mem_or_eq_of_mem_set hf' with h'|h'
    ·exact hH.vers f' h' id' ver' e
    ·subst h';exact hvv id' ver' e
   ·simp only [List.length_set];refine ⟨by rw [List.length_set,hl,hfll],.inr ⟨b,cap,_,rfl,hlt.1,hWb,hn,hm,by simpa using hcs,?_⟩⟩;simp only [List.take_set]
   ·dsimp only;rw [List.length_set,hl,hfl,List.length_set]
   ·dsimp only at hf';rw [hfl] at hf';rw [List.getElem?_set] at hu hf';by_cases hij:p=i
    ·subst hij;rw [if_pos rfl] at hu hf';split at hu
     ·split at hf'
      ·injection hu with hu
       injection hf' with hf'
       subst hu;subst hf';exact T' _ _ hvr hvv
      ·cases hf'
     ·cases hu
    ·rw [if_neg hij] at hu hf';exact T' _ _ (hr i u f' hu hf') (hH.vers f' (List.mem_of_getElem? hf'))
  ·intro k k' b' hl2 hl2' e e';refine h.inj k k' b' ?_ ?_ e e'
   ·rw [hob] at hl2;split at hl2
    ·rename_i e;subst e;exact hlive
    ·exact hl2
   ·rw [hob] at hl2';split at hl2'
    ·rename_i e;subst e;exact hlive
    ·exact hl2'
end
section
variable {c:Ctx} {ops:Array Oper} {rest:List Oper} {t:List (Nat×FV)} {ob:List (Nat×zq)} {d:Nat} {ty:TypeId} {pos:String} {af:Array Edge} {gd:Option (Nat×Bool)} {QS:FSt→Prop}
theorem zd7 {op:Op} {f:FV} {wr:List (Nat×zq)} (hd:Nat.blt d c.N=true) (hw:zT ops ⟨t,ob⟩ (⟨some d,op,ty,pos,af,gd⟩:Oper) true)
  (hg:∀ (w0:World) (J:JJ) (a:Act) (w:World) (β:Nat→Option Nat),FR c.N w0 J ⟨t,ob⟩ a w β→yV c w0 J ⟨t,ob⟩ a ⟨some d,op,ty,pos,af,gd⟩ w f wr)
  (k:zn c ops rest (((⟨t,ob⟩:FSt).wr wr).put d f) QS):zn c ops ((⟨some d,op,ty,pos,af,gd⟩:Oper)::rest) ⟨t,ob⟩ QS:=fun QQ w0 J a w β hQ hF=>by
 unfold wpList;rw [if_pos (hw.model hF)];refine .inl ?_;exact yV.wp (hg w0 J a w β hF) (fun d' e=>by injection e with e;subst e;exact Nat.le_of_ble_eq_true hd) fun a' w' β' hF'=>k QQ w0 J a' w' β' hQ hF'
theorem Yd {T id ver j o E sz:Nat} {x:Operand} {es:List (List FV)} {row:List FV} {f:FV} (hx:(⟨t,ob⟩:FSt).ev x=.ptr id ver j o) (hk:(c.ty T).k.agg? = some false) (hb:(⟨t,ob⟩:FSt).ob id=⟨ver,.hrow,E,sz,es⟩) (hj:es[j]? = some row) (ho:row[o]? = some f) (hd:Nat.blt d c.N=true) (hw:zT ops ⟨t,ob⟩ (⟨some d,.load T x,ty,pos,af,gd⟩:Oper) true)
  (k:zn c ops rest ⟨(d,f)::t,ob⟩ QS):zn c ops ((⟨some d,.load T x,ty,pos,af,gd⟩:Oper)::rest) ⟨t,ob⟩ QS:=
 zd7 (wr:=[]) hd hw (fun w0 J a w β hF=>za0 hF hk x hx (by rw [hb]) (by rw [hb]) (by rw [hb];exact hj) ho) k
theorem zjK {T id ver j o E sz:Nat} {x y:Operand} {es:List (List FV)} {row:List FV} {f:FV} (hx:(⟨t,ob⟩:FSt).ev x=.ptr id ver j o) (hy:(⟨t,ob⟩:FSt).ev y=f) (hf:UM ⟨t,ob⟩ f) (hk:(c.ty T).k.known=true) (hz:(c.ty T).size=1) (hb:(⟨t,ob⟩:FSt).ob id=⟨ver,.hrow,E,sz,es⟩) (hj:es[j]? = some row) (ho:o<row.length) (hw:zT ops ⟨t,ob⟩ (⟨none,.store T x y,ty,pos,af,gd⟩:Oper) true)
  (k:zn c ops rest ⟨t,(id,⟨ver,.hrow,E,sz,es.set j (row.set o f)⟩)::ob⟩ QS):zn c ops ((⟨none,.store T x y,ty,pos,af,gd⟩:Oper)::rest) ⟨t,ob⟩ QS:=fun QQ w0 J a w β hQ hF=>by
 unfold wpList;rw [if_pos (hw.model hF)];refine .inl ?_;obtain ⟨W,h2,h3⟩:=UG (ty:=ty) (pos:=pos) (after:=af) (g:=gd) (dst:=none) hF (TK.known_ne hk) hz x y hx (by rw [hb]) (by rw [hb]) hy hf (by rw [hb];exact hj) ho;unfold Oper.wp;rw [h2,Oper.upon_skip];rw [hb] at h3;exact k QQ w0 J _ W β hQ h3
end
section
variable {c:Ctx} {w0 w:World} {J:JJ} {s:FSt} {a:Act} {β:Nat→Option Nat} {dst:Option Nat} {ty:TypeId} {pos:String} {after:Array Edge} {g:Option (Nat×Bool)}
end
section
variable {c:Ctx} {ops:Array Oper} {rest:List Oper} {t:List (Nat×FV)} {ob:List (Nat×zq)} {d:Nat} {ty:TypeId} {pos:String} {af:Array Edge} {gd:Option (Nat×Bool)} {tr:List Rec} {QD:FSt→List Rec→Prop}
theorem zlh {op:Op} {f:FV} {wr:List (Nat×zq)} (hst:Us op=false) (hno:¬ zbY op) (hd:Nat.blt d c.N=true) (hw:zT ops ⟨t,ob⟩ (⟨some d,op,ty,pos,af,gd⟩:Oper) true)
  (hg:∀ s' : FSt,(∀ x∈op.operands.toList,s'.ev x=(⟨t,ob⟩:FSt).ev x)→(∀ id∈xg ⟨t,ob⟩ d op,s'.ob id=(⟨t,ob⟩:FSt).ob id)→∀ (w0:World) (J:JJ) (a:Act) (w:World) (β:Nat→Option Nat) (ty:TypeId) (pos:String) (after:Array Edge) (g:Option (Nat×Bool)),
   FR c.N w0 J s' a w β→yV c w0 J s' a ⟨some d,op,ty,pos,after,g⟩ w f wr)
  (k:zN c ops rest (((⟨t,ob⟩:FSt).wr wr).put d f) (tr++[⟨(⟨some d,op,ty,pos,af,gd⟩:Oper),f,wr,xg ⟨t,ob⟩ d op⟩]) QD):zN c ops ((⟨some d,op,ty,pos,af,gd⟩:Oper)::rest) ⟨t,ob⟩ tr QD:=
 zN.cons (f:=f) (wr:=wr) (d:=d) ⟨.inl rfl,(fun _ e=>by injection e with e;subst e;exact Nat.le_of_ble_eq_true hd),.ext hst hno fun s' h1 h2 w0 J a w β ty pos after g hdN hF K Q hK=>
  yV.wp (hg s' h1 h2 w0 J a w β ty pos after g hF) (fun d' e=>by injection e with e;subst e;exact hdN) hK⟩ hw rfl rfl k
theorem znT {T:Nat} {x:Operand}:¬ zbY (.load T x):=by rintro (⟨_,_,_,e⟩|⟨_,_,_,_,e⟩) <;> cases e
theorem VE {T id ver j o E sz:Nat} {x:Operand} {es:List (List FV)} {row:List FV} {f:FV} (hx:(⟨t,ob⟩:FSt).ev x=.ptr id ver j o) (hk:(c.ty T).k.agg? = some false) (hb:(⟨t,ob⟩:FSt).ob id=⟨ver,.hrow,E,sz,es⟩) (hj:es[j]? = some row) (ho:row[o]? = some f) (hd:Nat.blt d c.N=true) (hw:zT ops ⟨t,ob⟩ (⟨some d,.load T x,ty,pos,af,gd⟩:Oper) true)
  (k:zN c ops rest ⟨(d,f)::t,ob⟩ (tr++[⟨(⟨some d,.load T x,ty,pos,af,gd⟩:Oper),f,[],xg ⟨t,ob⟩ d (.load T x)⟩]) QD):zN c ops ((⟨some d,.load T x,ty,pos,af,gd⟩:Oper)::rest) ⟨t,ob⟩ tr QD:=
 zlh (wr:=[]) rfl znT hd hw (fun s' h1 h2 w0 J a w β ty pos after g hF=>by
  have e1:=(h1 x zi).trans hx;have e2:=(h2 id (Wf (x:=x) rfl zi (by rw [hx];rfl))).trans hb;exact za0 hF hk x e1 (by rw [e2]) (by rw [e2]) (by rw [e2];exact hj) ho) k
theorem Ul {T id ver j o E sz:Nat} {x y:Operand} {es:List (List FV)} {row:List FV} {f:FV} (hx:(⟨t,ob⟩:FSt).ev x=.ptr id ver j o) (hy:(⟨t,ob⟩:FSt).ev y=f) (hf:∃ i v n,f=.own i v 0 n) (hst:(⟨t,ob⟩:FSt).live id ver) (hfl:∀ i v n,f=.own i v 0 n→(⟨t,ob⟩:FSt).live i v) (hk:(c.ty T).k.known=true) (hz:(c.ty T).size=1) (hb:(⟨t,ob⟩:FSt).ob id=⟨ver,.hrow,E,sz,es⟩) (hj:es[j]? = some row) (ho:o<row.length) (hd:Nat.blt d c.N=true) (hw:zT ops ⟨t,ob⟩ (⟨none,.store T x y,ty,pos,af,gd⟩:Oper) true)
  (k:zN c ops rest ⟨t,(id,⟨ver,.hrow,E,sz,es.set j (row.set o f)⟩)::ob⟩ (tr++[⟨(⟨none,.store T x y,ty,pos,af,gd⟩:Oper),.undef,[(id,⟨ver,.hrow,E,sz,es.set j (row.set o f)⟩)],xg ⟨t,ob⟩ d (.store T x y)⟩]) QD):zN c ops ((⟨none,.store T x y,ty,pos,af,gd⟩:Oper)::rest) ⟨t,ob⟩ tr QD:=by
 refine zN.cons (f:=.undef) (wr:=[(id,⟨ver,.hrow,E,sz,es.set j (row.set o f)⟩)]) (d:=d) ⟨.inr ⟨rfl,.inl ⟨_,_,_,rfl⟩⟩,(fun _ e=>by cases e),.extN rfl (.inl ⟨_,_,_,rfl⟩) fun s' h1 h2 w0 J a w β dst ty pos after g hF=>?_⟩ hw rfl rfl k;have e1:=(h1 x zi).trans hx;have e2:=(h1 y zi).trans hy;have m1:id∈xg ⟨t,ob⟩ d (.store T x y):=Wf (x:=x) rfl zi (ver:=ver) (by rw [hx];rfl);have e3:=(h2 id m1).trans hb;obtain ⟨i,v,n,rfl⟩:=hf;have m2:i∈xg ⟨t,ob⟩ d (.store T x y):=Wf (x:=y) rfl zi (ver:=v) (by rw [hy];rfl);have hl2:s'.live i v:=by
  have:=hfl i v n rfl;unfold FSt.live at this ⊢;rw [h2 i m2];exact this
 have:=UG (dst:=dst) (ty:=ty) (pos:=pos) (after:=after) (g:=g) hF (TK.known_ne hk) hz x y e1 (by rw [e3]) (by rw [e3]) e2 (.inr (.inl ⟨_,_,_,_,rfl,hl2⟩)) (by rw [e3];exact hj) ho;rw [e3] at this;exact this
end
theorem FLe.deep1 {t:List (Nat×FV)} {ob:List (Nat×zq)} (id k p:Nat) {w q E2 E sz v:Nat} {r:List FV} {es:List (List FV)} (hid:id≠k) (hq:r.length=q) (h:look {} ob id=⟨w,.hrow,E2,q,[r]⟩) (hp:r[p]? = some (.own k v 0 es.length)) (hone:∀ i f,r[i]? = some f→i≠p→f.one=true)
  (hf:look {} ob k=⟨v,.own,E,sz,es⟩):FLe ⟨t,ob⟩ ⟨t,(id,⟨w,.own,E2,q,[r.set p (.list sz es)]⟩)::(k,⟨v,.dead,E,sz,es⟩)::ob⟩:=by
 intro N w0 J a wd β hF;refine ⟨β,?_⟩;have ho:(⟨t,ob⟩:FSt).ob id=⟨w,.hrow,E2,q,[r]⟩:=h;have hok:(⟨t,ob⟩:FSt).ob k=⟨v,.own,E,sz,es⟩:=hf;have hlive:((⟨t,ob⟩:FSt).ob id).life≠.dead:=by rw [ho];exact (by decide:yf.hrow≠.dead)
 have hlk:((⟨t,ob⟩:FSt).ob k).life≠.dead:=by rw [hok];exact (by decide:yf.own≠.dead)
 obtain ⟨s',hs'⟩:∃ s' : FSt,s'=⟨t,(id,⟨w,.own,E2,q,[r.set p (.list sz es)]⟩)::(k,⟨v,.dead,E,sz,es⟩)::ob⟩:=⟨_,rfl⟩
 rw [← hs'];have hob:∀ i,s'.ob i=if id=i then ⟨w,.own,E2,q,[r.set p (.list sz es)]⟩ else if k=i then ⟨v,.dead,E,sz,es⟩ else (⟨t,ob⟩:FSt).ob i:=fun i=>by
  rw [hs'];show look ({}:zq) _ i=_;rw [zI,zI];split
  ·rfl
  ·split <;> rfl
 have hsub:∀ i,(s'.ob i).life≠.dead→((⟨t,ob⟩:FSt).ob i).life≠.dead:=fun i hl=>by
  rw [hob] at hl;split at hl
  ·rename_i e;subst e;exact hlive
  ·split at hl
   ·exact absurd rfl hl
   ·exact hl
 have hmine:∀ i,(s'.ob i).life.mine=true→((⟨t,ob⟩:FSt).ob i).life.mine=true:=fun i hl=>by
  rw [hob] at hl;split at hl
  ·rename_i e;subst e;rw [ho];rfl
  ·split at hl
   ·cases hl
   ·exact hl
 have hI:∀ b,Imm J wd β ⟨t,ob⟩ b→Imm J wd β s' b:=fun b hb=>⟨hb.1,hb.2.1,fun i hl=>hb.2.2 i (hmine i hl)⟩
 have hver:∀ i,(s'.ob i).ver=((⟨t,ob⟩:FSt).ob i).ver:=fun i=>by
  rw [hob];split
  ·rename_i e;subst e;rw [ho]
  ·split
   ·rename_i e;subst e;rw [hok]
   ·rfl
 refine hF.step (C:=fun i=>i=id∨i=k) hF.size hF.defers hF.bel (fun b hb=>⟨hI b hb,rfl⟩) (fun i=>.inl ⟨rfl,by rw [hs'];rfl⟩) (fun i hC=>?_) (fun i _=>Nat.le_of_eq (hver i).symm) (fun i hC hl _=>?_) (fun i hC hl T=>?_) (fun i i' b hl hl' e e'=>hF.inj i i' b (hsub i hl) (hsub i' hl') e e') (fun b _ hn=>⟨rfl,fun i hl=>hn i (hsub i hl)⟩)
 ·refine ⟨?_,rfl,fun _ _ _=>rfl⟩;rw [hob,if_neg (fun e=>hC (.inl e.symm)),if_neg (fun e=>hC (.inr e.symm))]
 ·rcases hC with rfl|rfl
  ·refine ⟨hlive,rfl,by rw [hob,if_pos rfl,ho],by rw [hob,if_pos rfl,ho];rfl,fun v o m hv=>?_⟩;rw [ho] at hv;obtain ⟨A,c,k1,k2,k3,k4,k5⟩:=hv.ex;rw [hob,if_pos rfl];exact ⟨rfl,A,c,k1,k2,by simpa using k3,k4,k5⟩
  ·exfalso;rw [hob,if_neg hid,if_pos rfl] at hl;exact hl rfl
 ·rcases hC with rfl|rfl
  ·rw [hob,if_pos rfl];have hH:=(hF.obj i hlive).rowH (by rw [ho];rfl) (by rw [ho];rfl);rw [ho] at hH;obtain ⟨v1,us,r1,r2,r3,r4⟩:=hH.row;dsimp only at r1 r3 r4;rw [show ([r]:List (List FV)).flatten=r by simp] at r3 r4;refine .ofRow ⟨fun e he=>?_,fun f hf'=>?_,v1,us,?_,r2,?_,fun j u f hu hff=>?_⟩ (.own rfl) rfl
   ·rw [List.mem_singleton.1 he,List.length_set];exact hq
   ·dsimp only at hf';rw [show ([r.set p (.list sz es)]:List (List FV)).flatten=r.set p (.list sz es) by simp] at hf';obtain ⟨j,hj,rfl⟩:=List.getElem_of_mem hf';rw [List.length_set] at hj;rw [List.getElem_set];split
    ·rfl
    ·rename_i hne;exact hone j _ (by simp [hj]) fun e=>hne e.symm
   ·exact r1
   ·dsimp only;rw [show ([r.set p (.list sz es)]:List (List FV)).flatten=r.set p (.list sz es) by simp,List.length_set];exact r3
   ·dsimp only at hff;rw [show ([r.set p (.list sz es)]:List (List FV)).flatten=r.set p (.list sz es) by simp,List.getElem?_set] at hff;by_cases hjp:p=j
    ·subst hjp;rw [if_pos rfl] at hff;have hpl:p<r.length:=(List.getElem?_eq_some_iff.1 hp).1;rw [if_pos hpl] at hff;injection hff with hff
     subst hff;have hv:=r4 p u _ hu hp;have hov:=hv hlk (by rw [hok]);have hO:=hF.obj k hlk;have hrr:=hO.rowR (by rw [hok];rfl);have:=zfI (I':=Imm J wd β s') hov hrr (fun b hb=>?_) hI
     ·rw [hok] at this;dsimp only at this;rwa [List.drop_zero,List.take_length] at this
     ·have hlt:=hO.lt hb;refine ⟨hlt.2,hF.fresh b hlt.1 (.inr ⟨_,hlk,hb⟩),fun k' hl' e=>?_⟩;have:=hF.inj k k' b hlk (hsub k' (yf.mine_ne hl')) hb e;subst this;rw [hob,if_neg hid,if_pos rfl] at hl';cases hl'
    ·rw [if_neg hjp] at hff;have hv:=r4 j u f hu hff;have h1:=hone j f hff fun e=>hjp e.symm;have hn:f.hand=none:=by cases f <;> first|rfl|(simp [FV.one] at h1)
     exact (VR.rd hv hn).mono fun b hb=>⟨hI b hb,rfl⟩
  ·exfalso;rw [hob,if_neg hid,if_pos rfl] at hl;exact hl rfl
theorem FLe.deep1B {t:List (Nat×FV)} {ob:List (Nat×zq)} (id k p:Nat) {w q E2 E sz v:Nat} {r:List FV} {es:List (List FV)} (hid:id≠k) (hq:r.length=q) (h:look {} ob id=⟨w,.hrow,E2,q,[r]⟩) (hp:r[p]? = some (.own k v 0 es.length)) (hone:(r.set p (.bool true)).all FV.one=true)
  (hf:look {} ob k=⟨v,.own,E,sz,es⟩):FLe ⟨t,ob⟩ ⟨t,(id,⟨w,.own,E2,q,[r.set p (.list sz es)]⟩)::(k,⟨v,.dead,E,sz,es⟩)::ob⟩:=
 FLe.deep1 id k p hid hq h hp (fun i f hi hne=>List.all_eq_true.1 hone f (List.mem_of_getElem? (i:=i) (by rw [List.getElem?_set_ne (fun e=>hne e.symm)];exact hi))) hf
theorem FLe.deep1C {t:List (Nat×FV)} {ob:List (Nat×zq)} (id k p:Nat) {w q E2 E sz v:Nat} {r r2:List FV} {es:List (List FV)} (hid:id≠k) (hq:r.length=q) (h:look {} ob id=⟨w,.hrow,E2,q,[r]⟩) (hp:r[p]? = some (.own k v 0 es.length)) (hone:(r.set p (.bool true)).all FV.one=true)
  (hf:look {} ob k=⟨v,.own,E,sz,es⟩) (h2:r.set p (.list sz es)=r2):FLe ⟨t,ob⟩ ⟨t,(id,⟨w,.own,E2,q,[r2]⟩)::(k,⟨v,.dead,E,sz,es⟩)::ob⟩:=by
 subst h2;exact FLe.deep1B id k p hid hq h hp hone hf
inductive zap (s:FSt):List FV→List (Nat×Operand)→List FV→Prop where
 | nil {cs:List FV}:zap s cs [] cs
 | cons {i:Nat} {x:Operand} {f:FV} {cs cs' : List FV} {ps:List (Nat × Operand)} (hx:s.ev x=f) (hf:UM s f) (hw:f.notWrap=true) (hi:Nat.blt i cs.length=true) (h:zap s (cs.set i f) ps cs'):zap s cs ((i, x) :: ps) cs'
section
variable {c:Ctx} {w0 w:World} {J:JJ} {s:FSt} {a:Act} {β:Nat→Option Nat} {dst:Option Nat} {ty:TypeId} {pos:String} {after:Array Edge} {g:Option (Nat×Bool)}
theorem zap.run (h:FR c.N w0 J s a w β) {place:Nat→Option (Nat×Nat)} {n:Nat} (hp:∀ i,i<n→place i=some (i,1)) {cs cs' : List FV} {ps:List (Nat×Operand)} (hfl:zap s cs ps cs'):∀ (us:List Value),us.length=n→cs.length=n→(∀ (j:Nat) u f,us[j]? = some u→cs[j]? = some f→VR1 w (Imm J w β s) β s u f)→(∀ f∈cs,∀ id ver,f.hand=some (id,ver)→ver≤(s.ob id).ver)→
  ∃ us' : List Value,Instr.fill place us.toArray (ps.map fun p=>(p.1,a.eval p.2))=some us'.toArray∧us'.length=n∧cs'.length=n∧(∀ (j:Nat) u f,us'[j]? = some u→cs'[j]? = some f→VR1 w (Imm J w β s) β s u f)∧∀ f∈cs',∀ id ver,f.hand=some (id,ver)→ver≤(s.ob id).ver:=by
 induction hfl with
 | nil => exact fun us h1 h2 h3 h4 => ⟨us, rfl, h1, h2, h3, h4⟩
 | @cons i x f cs cs' ps hx hf hw hi hr ih=>
  intro us h1 h2 h3 h4;have hil:i<n:=by rw [← h2];exact Nat.le_of_ble_eq_true hi
  obtain ⟨c1,c2⟩:=UM.val h hx hf;have hvr:=h.ev x;rw [hx] at hvr;have hv1:=hvr.to1 (fun k fs e=>by subst e;cases hw);obtain ⟨us',k1,k2⟩:=ih (us.set i (a.eval x)) (by simpa using h1) (by simpa using h2) (fun j u q hu hq=>by
   rw [List.getElem?_set] at hu hq;by_cases e:i=j
   ·subst e;rw [if_pos rfl,if_pos za] at hu hq;injection hu with hu;injection hq with hq
    subst hu;subst hq;exact hv1
   ·rw [if_neg e] at hu hq;exact h3 j u q hu hq) (fun q hq id ver e=>by
   rcases List.mem_or_eq_of_mem_set hq with hq|rfl
   ·exact h4 q hq id ver e
   ·exact h.evers x (by rw [hx];exact FV.hand_hands (fun k fs e=>by subst e;cases hw) e))
  refine ⟨us',?_,k2⟩;rw [List.map_cons];unfold Instr.fill;rw [hp i hil];simp only [c1];rw [if_neg zx];have:(Array.foldl (fun cs (x:Value×Nat)=>cs.setIfInBounds (i+x.2) x.1) us.toArray (#[a.eval x].zipIdx))=(us.set i (a.eval x)).toArray:=by simp
  exact (congrArg (fun z=>Instr.fill place z _) this).trans k1
theorem zgA (h:FR c.N w0 J s a w β) {T:Nat} {fs:List (Nat×Nat)} (hT:(c.ty T).k=.strct fs) (hk:∀ p∈fs,(c.ty p.2).k≠.other) (hof:fs.map (fun p=>(p.1,(c.ty p.2).size))=(List.range fs.length).map fun i=>(i,1)) {z cs:List FV} (hz:(c.ty T).zero=z) (hzn:∀ f∈z,f.hand=none) (hzl:z.length=fs.length)
  (ps:List (Nat×Operand)) (hfill:zap s z ps cs):yV c w0 J s a ⟨dst,.build T ps.toArray,ty,pos,after,g⟩ w (.wrap .agg cs) []:=by
 obtain ⟨d,i,zz,ht⟩:=c.get hT zc;have hd:=ht.k;rw [hT] at hd;obtain ⟨gs,rfl,hgs,_⟩:=Wh hd;have hp:gs.toList.mapM (fun f=>(c.P.info? f.type).map fun i=>(f.offset,i.size))=some (gs.toList.map fun f=>(f.offset,(c.ty f.type).size)):=by
  have key:∀ (l:List Field),(∀ f∈l,(c.ty f.type).k≠.other)→l.mapM (fun f=>(c.P.info? f.type).map fun i=>(f.offset,i.size))=some (l.map fun f=>(f.offset,(c.ty f.type).size)):=by
   intro l
   induction l with
   | nil => intro _; rfl
   | cons f l ih =>
    intro hl;obtain ⟨d',i',z',ht'⟩:=c.get rfl (hl f zc);simp only [List.mapM_cons,ht'.info,Option.map_some,Option.bind_eq_bind,Option.bind_some,ih (fun f hf=>hl f (by simp [hf])),Option.pure_def,ht'.size,List.map_cons]
  refine key _ (fun f hf=>hk (f.offset,f.type) ?_);rw [hgs];exact List.mem_map.2 ⟨f,hf,rfl⟩
 have hpl:gs.toList.map (fun f=>(f.offset,(c.ty f.type).size))=(List.range fs.length).map fun i=>(i,1):=by
  have:gs.toList.map (fun f=>(f.offset,(c.ty f.type).size))=(gs.toList.map fun f=>(f.offset,f.type)).map fun p=>(p.1,(c.ty p.2).size):=by rw [List.map_map];rfl
  rw [this,← hgs,hof]
 have hr:=RdL.zeros (w:=w) (I:=Imm J w β s) ht.zr;rw [hz] at hr;obtain ⟨us',k1,k2,k3,k4,k5⟩:=hfill.run h (place:=fun i=>((List.range fs.length).map fun i=>(i,1))[i]?) (n:=fs.length) (fun i hi=>by simp [hi]) zz.cells.toList (hr.1.trans hzl) hzl (fun j u f hu hf=>(VR.of_rd (hr.2 j u f hu hf) (hzn f (List.mem_of_getElem? hf))).to1 (fun k fs e=>by subst e;have:=hzn _ (List.mem_of_getElem? hf);cases this))
  (fun f hf id ver e=>by rw [hzn f hf] at e;cases e)
 have hb:c.P.built T (ps.map fun p=>(p.1,a.eval p.2))=some us'.toArray:=by
  unfold Program.built;simp only [ht.info,ht.u,ht.zo,hp,hpl];simpa using k1
 refine .pure h (v:=.agg us'.toArray) ?_ ⟨us',rfl,k2.trans k3.symm,k4⟩ fun id ver hm=>?_
 ·have:=run_build (P:=c.P) w T (ps.map fun p=>(p.1,a.eval p.2)).toArray us'.toArray (by simpa using hb);simp only [execOp,Sem.run_bind];simp [this]
 ·obtain ⟨q,hq,e⟩:=zcy hm;exact k5 q hq id ver e
theorem FR.newHs (h:FR c.N w0 J s a w β) (d E:Nat) {fs:List FV} {us:List Value} (hlen:us.length=fs.length) (hv:∀ (j:Nat) u f,us[j]? = some u→fs[j]? = some f→VR w (Imm J w β s) β s u f) (hvv:∀ f∈fs,∀ id ver,(id,ver)∈f.hands→ver≤(s.ob id).ver) :
  FR c.N w0 J (s.set d ⟨(s.ob d).ver+1,.hrow,E,fs.length,[fs]⟩) a (w.alloc (.cells us.toArray E)) (XV β d (some w.heap.size)):=by
 obtain ⟨s',hs'⟩:∃ s' : FSt,s'=s.set d ⟨(s.ob d).ver+1,.hrow,E,fs.length,[fs]⟩:=⟨_,rfl⟩
 have cd:s'.ob d=⟨(s.ob d).ver+1,.hrow,E,fs.length,[fs]⟩:=by rw [hs',FSt.ob_set,if_pos rfl]
 have co:∀ k,k≠d→s'.ob k=s.ob k:=fun k hk=>by rw [hs',FSt.ob_set,if_neg (fun e=>hk e.symm)]
 have bo:∀ k,k≠d→XV β d (some w.heap.size) k=β k:=fun k hk=>by unfold XV;rw [if_neg hk]
 have hst:∀ b,b<w.heap.size→(w.alloc (.cells us.toArray E)).heap[b]? = w.heap[b]?:=fun b hb=>(ZS w (.cells us.toArray E)).block b hb;have hver:∀ k,(s.ob k).ver≤(s'.ob k).ver:=fun k=>by
  by_cases hk:k=d
  ·subst hk;rw [cd];exact Nat.le_succ _
  ·rw [co k hk];exact Nat.le_refl _
 rw [← hs'];refine h.step (C:=fun k=>k=d) h.size h.defers (h.bel.alloc h.bel.size _) (fun b hb=>⟨⟨?_,hb.2.1,fun id hid=>?_⟩,hst b hb.1⟩) (fun k=>.inl ⟨rfl,by rw [hs'];rfl⟩) (fun k hk=>⟨co k hk,bo k hk,fun hl b hb=>hst b ((h.obj k hl).lt hb).2⟩) (fun k _=>hver k) ?_ ?_ ?_ ?_
 ·exact Nat.lt_of_lt_of_le hb.1 (ZS w (.cells us.toArray E)).size
 ·by_cases hk:id=d
  ·subst hk;rw [yb];intro e;injection e with e;have:=hb.1;omega
  ·rw [bo id hk];exact hb.2.2 id (by rw [← co id hk];exact hid)
 ·rintro k rfl hl hv;rw [cd] at hv;exact absurd hv (Nat.succ_ne_self _)
 ·rintro k rfl hl hT;rw [cd,yb];refine .ofH ⟨by simp,fun g hg id ver hm=>?_,.slice (some ⟨w.heap.size,0,none⟩) 1 1,us,⟨by rw [hlen];simp,.inr ⟨w.heap.size,1,us.toArray,rfl,h.bel.size,heap_alloc_new w _,Nat.le_refl _,by simp [maxLen],by simp [hlen],by simp [← hlen]⟩⟩,rfl,by simp [hlen],fun j u g hu hg=>?_⟩ rfl
  ·simp at hg;exact Nat.le_trans (hvv g hg id ver hm) (hver id)
  ·simp at hg;exact hT u g (hv j u g hu hg) (hvv g (List.mem_of_getElem? hg))
 ·intro id id' b h1 h2 e1 e2;by_cases hk:id=d
  ·by_cases hk' : id'=d
   ·rw [hk,hk']
   ·subst hk;rw [yb] at e1;rw [bo id' hk'] at e2;rw [co id' hk'] at h2;injection e1 with e1
    have:=((h.obj id' h2).lt e2).2;omega
  ·by_cases hk' : id'=d
   ·subst hk';rw [yb] at e2;rw [bo id hk] at e1;rw [co id hk] at h1;injection e2 with e2
    have:=((h.obj id h1).lt e1).2;omega
   ·rw [bo id hk] at e1;rw [bo id' hk'] at e2;rw [co id hk] at h1;rw [co id' hk'] at h2;exact h.inj id id' b h1 h2 e1 e2
 ·intro b hb hn;refine ⟨hst b hb,fun id hl=>?_⟩;by_cases hk:id=d
  ·subst hk;rw [yb];intro e;injection e with e;omega
  ·rw [bo id hk];exact hn id (by rw [← co id hk];exact hl)
end
section
variable {c:Ctx} {ops:Array Oper} {rest:List Oper} {t:List (Nat×FV)} {ob:List (Nat×zq)} {d:Nat} {ty:TypeId} {pos:String} {af:Array Edge} {gd:Option (Nat×Bool)} {QS:FSt→Prop}
theorem zlB {T sz by_:Nat} {fs:List (Nat×Nat)} {z cs:List FV} {ps:List (Nat×Operand)} (hT:c.ty T=⟨.strct fs,sz,by_,z⟩) (hfill:zap ⟨t,ob⟩ z ps cs) (hk:fs.all (fun p=>(c.ty p.2).k.known)=true) (hof:fs.map (fun p=>(p.1,(c.ty p.2).size))=(List.range fs.length).map fun i=>(i,1)) (hzn:z.all (fun f=>f.hand.isNone)=true) (hzl:z.length=fs.length)
  (hd:Nat.blt d c.N=true) (hw:zT ops ⟨t,ob⟩ ⟨some d,.build T ps.toArray,ty,pos,af,gd⟩ true) (k:zn c ops rest ⟨(d,.wrap .agg cs)::t,ob⟩ QS):zn c ops (⟨some d,.build T ps.toArray,ty,pos,af,gd⟩::rest) ⟨t,ob⟩ QS:=
 zd7 (wr:=[]) hd hw (fun w0 J a w β hF=>zgA hF (by rw [hT]) (fun p hp=>TK.known_ne (List.all_eq_true.1 hk p hp)) hof (by rw [hT]) (fun f hf=>by have:=List.all_eq_true.1 hzn f hf;simpa using this) hzl ps hfill) k
theorem zn5 {T:Nat} {x:Operand} {fs:List FV} {v0 E0 sz0:Nat} {lf0:yf} {es0:List (List FV)} (hx:(⟨t,ob⟩:FSt).ev x=.wrap .agg fs) (hwf:fs.all FV.notWrap=true) (hv:(⟨t,ob⟩:FSt).ob d=⟨v0,lf0,E0,sz0,es0⟩) (hd:Nat.blt d c.N=true) (hw:zT ops ⟨t,ob⟩ ⟨some d,.box T x,ty,pos,af,gd⟩ true)
  (k:zn c ops rest ⟨(d,.ptr d (v0+1) 0 0)::t,(d,⟨v0+1,.hrow,T,fs.length,[fs]⟩)::ob⟩ QS):zn c ops (⟨some d,.box T x,ty,pos,af,gd⟩::rest) ⟨t,ob⟩ QS:=fun QQ w0 J a w β hQ hF=>by
 unfold wpList;rw [if_pos (hw.model hF)];refine .inl ?_;have hvr:=hF.ev x;have hvv:∀ id' ver',(id',ver')∈(FV.wrap .agg fs).hands→ver'≤((⟨t,ob⟩:FSt).ob id').ver:=fun id' ver' e=>hF.evers x (by rw [hx];exact e);rw [hx] at hvr;obtain ⟨us,he,hul,hu⟩:=hvr;have hN:=hF.newHs d T hul (fun j u f h1 h2=>VR.of1 (hu j u f h1 h2)) (fun f hf id ver hm=>hvv id ver (by
  have h1:=List.all_eq_true.1 hwf f hf;unfold FV.hands;refine List.mem_filterMap.2 ⟨f,hf,?_⟩;cases f with
  | own|ptr|omap => have := List.mem_singleton.1 hm; rw [this]; rfl
  | wrap => cases h1
  | _ => cases hm))
 have hrun:(execOp a.eval ⟨some d,.box T x,ty,pos,af,gd⟩).run c.P w=.ok (.value (.pointer (some ⟨w.heap.size,0,none⟩))) (w.alloc (.cells us.toArray T)):=by
  simp [execOp,Instr.box,newVar,newRow,he,Wk.mk,Value.cells]
 rw [hv] at hN;refine yV.wp (f:=.ptr d (v0+1) 0 0) (wr:=[(d,⟨v0+1,.hrow,T,fs.length,[fs]⟩)]) ⟨_,_,_,hrun,hN,fun _ _=>⟨?_,w.heap.size,yb _ _ _,by simp⟩,fun id ver e=>?_⟩ (fun d' e=>by injection e with e;subst e;exact Nat.le_of_ble_eq_true hd) fun a' w' β' hF'=>k QQ w0 J a' w' β' hQ hF'
 ·show (FSt.ob (FSt.set _ d _) d).life.slic=true;rw [FSt.ob_set,if_pos rfl];rfl
 ·simp only [FV.hands,List.mem_singleton,Prod.mk.injEq] at e;obtain ⟨rfl,rfl⟩:=e;show _≤(FSt.ob (FSt.set _ _ _) _).ver;rw [FSt.ob_set,if_pos rfl];exact Nat.le_refl _
end
section
variable {l:List OpV} {c:Int}
end
end
section
variable {l:List OpV} {c:Int}
end
section
open Go.RowKit
end
end Go.Proofs.Ytmnmakhpjgjdaaa
