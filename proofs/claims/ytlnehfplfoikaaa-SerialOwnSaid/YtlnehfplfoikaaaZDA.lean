/-
  Some texts as one: FmDeep1, FmRowH, FmRowD, FmSer9, FmQt, FmSerL, FmSerX.
-/
import Derived.Test.YtlnehfplfoikaaaZG
import Derived.Test.YtlnehfplfoikaaaZFmTopoL
import Derived.Test.YtlnehfplfoikaaaZFmSerH
import Derived.Test.YtlnehfplfoikaaaZFmDw
namespace Go.Proofs.Ytlnehfplfoikaaa
set_option linter.unusedVariables false
set_option maxHeartbeats 16000000
open Go.RowKit
theorem FLe.deep1 {t:List (Nat×FV)} {ob:List (Nat×zn)} (id k p:Nat) {w q E2 E sz v:Nat} {r:List FV} {es:List (List FV)} (hid:id≠k) (hq:r.length=q) (h:look {} ob id=⟨w,.hrow,E2,q,[r]⟩) (hp:r[p]? = some (.own k v 0 es.length)) (hone:∀ i f,r[i]? = some f→i≠p→f.one=true)
  (hf:look {} ob k=⟨v,.own,E,sz,es⟩):FLe ⟨t,ob⟩ ⟨t,(id,⟨w,.own,E2,q,[r.set p (.list sz es)]⟩)::(k,⟨v,.dead,E,sz,es⟩)::ob⟩:=by
 intro N w0 J a wd β hF;refine ⟨β,?_⟩;have ho:(⟨t,ob⟩:FSt).ob id=⟨w,.hrow,E2,q,[r]⟩:=h;have hok:(⟨t,ob⟩:FSt).ob k=⟨v,.own,E,sz,es⟩:=hf;have hlive:((⟨t,ob⟩:FSt).ob id).life≠.dead:=by rw [ho];exact (by decide:zX.hrow≠.dead)
 have hlk:((⟨t,ob⟩:FSt).ob k).life≠.dead:=by rw [hok];exact (by decide:zX.own≠.dead)
 obtain ⟨s',hs'⟩:∃ s' : FSt,s'=⟨t,(id,⟨w,.own,E2,q,[r.set p (.list sz es)]⟩)::(k,⟨v,.dead,E,sz,es⟩)::ob⟩:=⟨_,rfl⟩
 rw [← hs'];have hob:∀ i,s'.ob i=if id=i then ⟨w,.own,E2,q,[r.set p (.list sz es)]⟩ else if k=i then ⟨v,.dead,E,sz,es⟩ else (⟨t,ob⟩:FSt).ob i:=fun i=>by
  rw [hs'];show look ({}:zn) _ i=_;rw [zE,zE];split
  ·rfl
  ·split <;> rfl
 have hsub:∀ i,(s'.ob i).life≠.dead→((⟨t,ob⟩:FSt).ob i).life≠.dead:=fun i hl=>by
  rw [hob] at hl;split at hl
  ·rename_i e;subst e;exact hlive
  ·split at hl
   ·exact absurd rfl hl
   ·exact hl
 have hmine:∀ i,(s'.ob i).life.mine=true→((⟨t,ob⟩:FSt).ob i).life.mine=true:=fun i hl=>by
  rw [hob] at hl;split at hl
  ·rename_i e;subst e;rw [ho];rfl
  ·split at hl
   ·cases hl
   ·exact hl
 have hI:∀ b,Imm J wd β ⟨t,ob⟩ b→Imm J wd β s' b:=fun b hb=>⟨hb.1,hb.2.1,fun i hl=>hb.2.2 i (hmine i hl)⟩
 have hver:∀ i,(s'.ob i).ver=((⟨t,ob⟩:FSt).ob i).ver:=fun i=>by
  rw [hob];split
  ·rename_i e;subst e;rw [ho]
  ·split
   ·rename_i e;subst e;rw [hok]
   ·rfl
 refine hF.step (C:=fun i=>i=id∨i=k) hF.size hF.defers hF.bel (fun b hb=>⟨hI b hb,rfl⟩) (fun i=>.inl ⟨rfl,by rw [hs'];rfl⟩) (fun i hC=>?_) (fun i _=>Nat.le_of_eq (hver i).symm) (fun i hC hl _=>?_) (fun i hC hl T=>?_) (fun i i' b hl hl' e e'=>hF.inj i i' b (hsub i hl) (hsub i' hl') e e') (fun b _ hn=>⟨rfl,fun i hl=>hn i (hsub i hl)⟩)
 ·refine ⟨?_,rfl,fun _ _ _=>rfl⟩;rw [hob,if_neg (fun e=>hC (.inl e.symm)),if_neg (fun e=>hC (.inr e.symm))]
 ·rcases hC with rfl|rfl
  ·refine ⟨hlive,rfl,by rw [hob,if_pos rfl,ho],by rw [hob,if_pos rfl,ho];rfl,fun v o m hv=>?_⟩;rw [ho] at hv;obtain ⟨A,c,k1,k2,k3,k4,k5⟩:=hv.ex;rw [hob,if_pos rfl];exact ⟨rfl,A,c,k1,k2,by simpa using k3,k4,k5⟩
  ·exfalso;rw [hob,if_neg hid,if_pos rfl] at hl;exact hl rfl
 ·rcases hC with rfl|rfl
  ·rw [hob,if_pos rfl];have hH:=(hF.obj i hlive).rowH (by rw [ho];rfl) (by rw [ho];rfl);rw [ho] at hH;obtain ⟨v1,us,r1,r2,r3,r4⟩:=hH.row;dsimp only at r1 r3 r4;rw [show ([r]:List (List FV)).flatten=r by simp] at r3 r4;refine .ofRow ⟨fun e he=>?_,fun f hf'=>?_,v1,us,?_,r2,?_,fun j u f hu hff=>?_⟩ (.own rfl) rfl
   ·rw [List.mem_singleton.1 he,List.length_set];exact hq
   ·dsimp only at hf';rw [show ([r.set p (.list sz es)]:List (List FV)).flatten=r.set p (.list sz es) by simp] at hf';obtain ⟨j,hj,rfl⟩:=List.getElem_of_mem hf';rw [List.length_set] at hj;rw [List.getElem_set];split
    ·rfl
    ·rename_i hne;exact hone j _ (by simp [hj]) fun e=>hne e.symm
   ·exact r1
   ·dsimp only;rw [show ([r.set p (.list sz es)]:List (List FV)).flatten=r.set p (.list sz es) by simp,List.length_set];exact r3
   ·dsimp only at hff;rw [show ([r.set p (.list sz es)]:List (List FV)).flatten=r.set p (.list sz es) by simp,List.getElem?_set] at hff;by_cases hjp:p=j
    ·subst hjp;rw [if_pos rfl] at hff;have hpl:p<r.length:=(List.getElem?_eq_some_iff.1 hp).1;rw [if_pos hpl] at hff;injection hff with hff
     subst hff;have hv:=r4 p u _ hu hp;have hov:=hv hlk (by rw [hok]);have hO:=hF.obj k hlk;have hrr:=hO.rowR (by rw [hok];rfl);have:=zbZ (I':=Imm J wd β s') hov hrr (fun b hb=>?_) hI
     ·rw [hok] at this;dsimp only at this;rwa [List.drop_zero,List.take_length] at this
     ·have hlt:=hO.lt hb;refine ⟨hlt.2,hF.fresh b hlt.1 (.inr ⟨_,hlk,hb⟩),fun k' hl' e=>?_⟩;have:=hF.inj k k' b hlk (hsub k' (zX.mine_ne hl')) hb e;subst this;rw [hob,if_neg hid,if_pos rfl] at hl';cases hl'
    ·rw [if_neg hjp] at hff;have hv:=r4 j u f hu hff;have h1:=hone j f hff fun e=>hjp e.symm;have hn:f.hand=none:=by cases f <;> first|rfl|(simp [FV.one] at h1)
     exact (VR.rd hv hn).mono fun b hb=>⟨hI b hb,rfl⟩
  ·exfalso;rw [hob,if_neg hid,if_pos rfl] at hl;exact hl rfl
theorem FLe.deep1B {t:List (Nat×FV)} {ob:List (Nat×zn)} (id k p:Nat) {w q E2 E sz v:Nat} {r:List FV} {es:List (List FV)} (hid:id≠k) (hq:r.length=q) (h:look {} ob id=⟨w,.hrow,E2,q,[r]⟩) (hp:r[p]? = some (.own k v 0 es.length)) (hone:(r.set p (.bool true)).all FV.one=true)
  (hf:look {} ob k=⟨v,.own,E,sz,es⟩):FLe ⟨t,ob⟩ ⟨t,(id,⟨w,.own,E2,q,[r.set p (.list sz es)]⟩)::(k,⟨v,.dead,E,sz,es⟩)::ob⟩:=
 FLe.deep1 id k p hid hq h hp (fun i f hi hne=>List.all_eq_true.1 hone f (List.mem_of_getElem? (i:=i) (by rw [List.getElem?_set_ne (fun e=>hne e.symm)];exact hi))) hf
theorem FLe.deep1C {t:List (Nat×FV)} {ob:List (Nat×zn)} (id k p:Nat) {w q E2 E sz v:Nat} {r r2:List FV} {es:List (List FV)} (hid:id≠k) (hq:r.length=q) (h:look {} ob id=⟨w,.hrow,E2,q,[r]⟩) (hp:r[p]? = some (.own k v 0 es.length)) (hone:(r.set p (.bool true)).all FV.one=true)
  (hf:look {} ob k=⟨v,.own,E,sz,es⟩) (h2:r.set p (.list sz es)=r2):FLe ⟨t,ob⟩ ⟨t,(id,⟨w,.own,E2,q,[r2]⟩)::(k,⟨v,.dead,E,sz,es⟩)::ob⟩:=by
 subst h2;exact FLe.deep1B id k p hid hq h hp hone hf
theorem zbq {α:Type} {sz:Nat}:∀ (es:List (List α)),(∀ e∈es,e.length=sz)→∀ (j o:Nat) row f,es[j]? = some row→row[o]? = some f→es.flatten[j * sz+o]? = some f
 | [], _, j, o, row, f, h, _ => by simp at h
 | e :: es, he, 0, o, row, f, h, hf => by
  simp at h;subst h;have:=(List.getElem?_eq_some_iff.1 hf).1;rw [Nat.zero_mul,Nat.zero_add,List.flatten_cons,List.getElem?_append_left this];exact hf
 | e :: es, he, j+1, o, row, f, h, hf => by
  have h1:=he e zc;have:=zbq es (fun q hq=>he q (by simp [hq])) j o row f (by simpa using h) hf;rw [List.flatten_cons,List.getElem?_append_right (by rw [h1,Nat.add_mul];omega),h1,show (j+1) * sz+o - sz=j * sz+o by rw [Nat.add_mul];omega];exact this
theorem zbr {α:Type} {sz:Nat}:∀ (es:List (List α)),(∀ e∈es,e.length=sz)→∀ (j o:Nat) row f,es[j]? = some row→o<row.length→(es.set j (row.set o f)).flatten=es.flatten.set (j * sz+o) f
 | [], _, j, o, row, f, h, _ => by simp at h
 | e :: es, he, 0, o, row, f, h, ho => by
  simp at h;subst h;rw [List.set_cons_zero,List.flatten_cons,List.flatten_cons,Nat.zero_mul,Nat.zero_add,List.set_append_left _ _ ho]
 | e :: es, he, j+1, o, row, f, h, ho => by
  have h1:=he e zc;have:=zbr es (fun q hq=>he q (by simp [hq])) j o row f (by simpa using h) ho;rw [List.set_cons_succ,List.flatten_cons,List.flatten_cons,this,List.set_append_right _ _ (by rw [h1,Nat.add_mul];omega),h1,show (j+1) * sz+o - sz=j * sz+o by rw [Nat.add_mul];omega]
section
variable {c:Ctx} {w0 w:World} {J:JJ} {s:FSt} {a:Act} {β:Nat→Option Nat} {dst:Option Nat} {ty:TypeId} {pos:String} {after:Array Edge} {g:Option (Nat×Bool)}
theorem Vh (h:FR c.N w0 J s a w β) {T:Nat} (hk:(c.ty T).k.agg? = some false) (x:Operand) {id ver j o:Nat} (ex:s.ev x=.ptr id ver j o) (hlf:(s.ob id).life=.hrow) (hver:(s.ob id).ver=ver) {row:List FV} {f:FV} (hj:(s.ob id).es[j]? = some row) (ho:row[o]? = some f) :
  yL c w0 J s a ⟨dst,.load T x,ty,pos,after,g⟩ w f []:=by
 have hlive:(s.ob id).life≠.dead:=by rw [hlf];decide
 obtain ⟨_,b,hb,hv⟩:=h.ev_ptr ex hlive hver;obtain ⟨cur,cap,hblk,hn,hm,hcs,hl,hr⟩:=h.blockH hlf hb;have hH:=(h.obj id hlive).rowH (by rw [hlf];rfl) (by rw [hlf];rfl);have hw:=hH.wide;have hjl:=(List.getElem?_eq_some_iff.1 hj).1;have hjf:=zbq _ hw j o row f hj ho;obtain ⟨p,hp⟩:∃ p,j * (s.ob id).sz+o=p:=⟨_,rfl⟩
 rw [hp] at hjf hv;have hpf:p<(s.ob id).es.length * (s.ob id).sz:=by have:=(List.getElem?_eq_some_iff.1 hjf).1;rwa [yR hw] at this
 have hpc:p<cur.size:=by
  have:(s.ob id).es.length * (s.ob id).sz≤cap * (s.ob id).sz:=Nat.mul_le_mul_right _ hn;omega
 have hu:(cur.toList.take ((s.ob id).es.length * (s.ob id).sz))[p]? = some cur[p]:=by
  rw [List.getElem?_take,if_pos hpf];simp [hpc]
 have hcell:w.cell? ⟨b,p,none⟩=some cur[p]:=by
  have:=cell_of_row w b p cur (s.ob id).E (0,0) hblk;rw [this];simp [hpc]
 refine .pure h (v:=cur[p]) ?_ (hr p _ f hu hjf) (fun id' ver' e=>hH.vers f (List.mem_of_getElem? hjf) id' ver' e);have:(loadVar T ⟨b,p,none⟩).run c.P w=.ok cur[p] w:=by simp [loadVar,Zt hk,load,Sem.run,hcell]
 simp [execOp,Instr.loadAt,hv,Instr.sureAddr,this]
theorem ZV (h:FR c.N w0 J s a w β) {T:Nat} (hk:(c.ty T).k≠.other) (hz:(c.ty T).size=1) (x y:Operand) {id ver j o:Nat} (ex:s.ev x=.ptr id ver j o) (hlf:(s.ob id).life=.hrow) (hver:(s.ob id).ver=ver) {rw_:List FV} {f:FV} (ey:s.ev y=f)
  (hf:Zx s f) (hj:(s.ob id).es[j]? = some rw_) (ho:o<rw_.length) :
  ∃ w',(execOp a.eval ⟨dst,.store T x y,ty,pos,after,g⟩).run c.P w=.ok .skip w'∧FR c.N w0 J (s.wr [(id,{ s.ob id with es:=(s.ob id).es.set j (rw_.set o f) })]) a w' β:=by
 have hlive:(s.ob id).life≠.dead:=by rw [hlf];decide
 obtain ⟨_,b,hb,hvx⟩:=h.ev_ptr ex hlive hver;obtain ⟨cur,cap,hblk,hn,hm,hcs,hl,hr⟩:=h.blockH hlf hb;have hH:=(h.obj id hlive).rowH (by rw [hlf];rfl) (by rw [hlf];rfl);have hw:=hH.wide;obtain ⟨hc1,hc2⟩:=Zx.val h ey hf;have hvr:=h.ev y;have hvv:∀ id' ver',(id',ver')∈f.hands→ver'≤(s.ob id').ver:=fun id' ver' e=>h.evers y (by rw [ey];exact e);rw [ey] at hvr;generalize hy:a.eval y=v at hc1 hc2 hvr;obtain ⟨p,hp⟩:∃ p,j * (s.ob id).sz+o=p:=⟨_,rfl⟩
 have hjl:=(List.getElem?_eq_some_iff.1 hj).1;have hrl:rw_.length=(s.ob id).sz:=hw _ (List.mem_of_getElem? hj);have hpl:p<(s.ob id).es.length * (s.ob id).sz:=by
  have:(j+1) * (s.ob id).sz≤(s.ob id).es.length * (s.ob id).sz:=Nat.mul_le_mul_right _ hjl;rw [Nat.add_mul,Nat.one_mul] at this;omega
 have hpc:p<cur.size:=by
  have:(s.ob id).es.length * (s.ob id).sz≤cap * (s.ob id).sz:=Nat.mul_le_mul_right _ hn;omega
 rw [hp] at hvx;have hst:=run_storeCells_at c.P b p (s.ob id).E [v] 0 cur w hblk zI (by simpa using hc2);simp only [Nat.add_zero] at hst;have hjc:p<cur.toList.length:=by simp;omega
 obtain ⟨W,hW⟩:∃ W,W=w.setRow b (splice cur.toList p [v]).toArray:=⟨_,rfl⟩
 have hWb:W.heap[b]? = some (.cells (cur.toList.set p v).toArray (s.ob id).E (0,0)):=by rw [hW,zaf v hjc];exact yp w b _ cur _ hblk
 have hg:w.grownBy W (some b):=by
  subst hW;exact ⟨rfl,rfl,rfl,by simp [World.setRow],fun k hk hne=>yx w b k _ (fun e=>hne (by rw [e]))⟩
 have hlt:=(h.obj id hlive).lt hb;refine ⟨W,?_,?_⟩
 ·have hs:=yi (c:=c) hk w;have hst' : (storeCells ⟨b,p,none⟩ [v]).run c.P w=.ok () W:=by rw [hW];exact hst
  simp [execOp,Instr.storeAt,storeVar,hvx,hy,Instr.sureAddr,hs,hz,hc1,hst']
 ·have hob:∀ k,(s.wr [(id,{ s.ob id with es:=(s.ob id).es.set j (rw_.set o f) })]).ob k=if id=k then { s.ob id with es:=(s.ob id).es.set j (rw_.set o f) } else s.ob k:=fun k=>FSt.ob_set s id _ k
  have hI:∀ b',Imm J w β s b'→Imm J W β (s.wr [(id,{ s.ob id with es:=(s.ob id).es.set j (rw_.set o f) })]) b'∧W.heap[b']? = w.heap[b']?:=fun b' hbb=>by
   refine ⟨⟨Nat.lt_of_lt_of_le hbb.1 hg.size,hbb.2.1,fun id' hl'=>?_⟩,hg.block b' hbb.1 (fun e=>hbb.2.2 id (by rw [hlf];rfl) (by rw [hb];exact e.symm))⟩;rw [hob] at hl';split at hl'
   ·rename_i e;subst e;exact hbb.2.2 id (by rw [hlf];rfl)
   ·exact hbb.2.2 id' hl'
  refine h.step (C:=fun k=>k=id) h.size h.defers (h.bel.grown hg h.bel.size (fun k hk=>by injection hk with hk;subst hk;exact hlt.1)) hI (fun k=>.inl ⟨rfl,rfl⟩) (fun k hC=>?_) (fun k hC=>?_) (fun k hC hl2 hvv2=>?_) (fun k hC hl2 T'=>?_) ?_ (fun b' hlt' hn=>⟨hg.block b' hlt' (fun e=>hn id hlive (by rw [hb];exact e.symm)),fun k hl2=>hn k (by rw [hob] at hl2;split at hl2;(· rename_i e;subst e;exact hlive);(· exact hl2))⟩)
  ·refine ⟨by rw [hob,if_neg (fun e=>hC e.symm)],rfl,fun hl2 b' hbb=>hg.block b' ((h.obj k hl2).lt hbb).2 (fun e=>hC (h.inj k id b' hl2 hlive hbb (by rw [hb];exact e.symm)))⟩
  ·subst hC;rw [hob,if_pos rfl];exact Nat.le_refl _
  ·subst hC;refine ⟨hlive,rfl,by rw [hob,if_pos rfl],by rw [hob,if_pos rfl],fun v2 o n hv2=>?_⟩;rw [hob,if_pos rfl];obtain ⟨A,cc,q1,q2,q3,q4,q5⟩:=hv2.ex;refine ⟨hv2.row,A,cc,q1,q2,by simpa using q3,q4,fun b2 hbb=>?_⟩;obtain ⟨o',k1,k2,k3⟩:=q5 b2 hbb;refine ⟨o',k1,k2,fun cur' hc'=>?_⟩;rw [hb] at hbb;injection hbb with hbb
   subst hbb;dsimp only at hc';rw [hWb] at hc';injection hc' with hc'
   injection hc' with hc' _ _
   rw [← hc'];have:=k3 cur hblk;simpa using this
  ·subst hC;rw [hob,if_pos rfl];have hvers:∀ id',(s.ob id').ver≤((s.wr [(k,{ s.ob k with es:=(s.ob k).es.set j (rw_.set o f) })]).ob id').ver:=fun id'=>by
    rw [hob];split
    ·rename_i e;subst e;exact Nat.le_refl _
    ·exact Nat.le_refl _
   have hfl:=zbr _ hw j o rw_ f hj ho;rw [hp] at hfl;have hfll:(s.ob k).es.flatten.length=(s.ob k).es.length * (s.ob k).sz:=yR hw;refine .ofH ⟨fun e he=>?_,fun f' hf' id' ver' e=>?_,.slice (some ⟨b,0,none⟩) (s.ob k).es.length cap,(cur.toList.take ((s.ob k).es.length * (s.ob k).sz)).set p v,?_,by rw [hb];rfl,?_,fun i u f' hu hf'=>?_⟩ hlf
   ·rcases List.mem_or_eq_of_mem_set he with h'|h'
    ·exact hw e h'
    ·subst h';rw [List.length_set];exact hrl
   ·dsimp only at hf';rw [hfl] at hf';refine Nat.le_trans ?_ (hvers id');rcases List.mem_or_eq_of_mem_set hf' with h'|h'
    ·exact hH.vers f' h' id' ver' e
    ·subst h';exact hvv id' ver' e
   ·simp only [List.length_set];refine ⟨by rw [List.length_set,hl,hfll],.inr ⟨b,cap,_,rfl,hlt.1,hWb,hn,hm,by simpa using hcs,?_⟩⟩;simp only [List.take_set]
   ·dsimp only;rw [List.length_set,hl,hfl,List.length_set]
   ·dsimp only at hf';rw [hfl] at hf';rw [List.getElem?_set] at hu hf';by_cases hij:p=i
    ·subst hij;rw [if_pos rfl] at hu hf';split at hu
     ·split at hf'
      ·injection hu with hu
       injection hf' with hf'
       subst hu;subst hf';exact T' _ _ hvr hvv
      ·cases hf'
     ·cases hu
    ·rw [if_neg hij] at hu hf';exact T' _ _ (hr i u f' hu hf') (hH.vers f' (List.mem_of_getElem? hf'))
  ·intro k k' b' hl2 hl2' e e';refine h.inj k k' b' ?_ ?_ e e'
   ·rw [hob] at hl2;split at hl2
    ·rename_i e;subst e;exact hlive
    ·exact hl2
   ·rw [hob] at hl2';split at hl2'
    ·rename_i e;subst e;exact hlive
    ·exact hl2'
theorem Zx.one {I:Nat→Prop} {v:Value} {f:FV} (hv:VR w I β s v f) (hf:Zx s f):v.cells=#[v]∧v.oneCell'=true:=by
 rcases hf with h1|⟨id,ver,o,n,rfl,hl⟩|⟨id,ver,j,o,rfl,hl⟩|⟨k,fs,rfl⟩|⟨id,ver,rfl,hl⟩
 ·have hn:f.hand=none:=by cases f <;> first|rfl|(simp [FV.one] at h1)
  have hr:=VR.rd hv hn;cases hr <;> first|exact ⟨rfl,rfl⟩|(simp [FV.one] at h1)
 ·obtain ⟨A,cc,e,_⟩:=(hv hl.1 hl.2).ex;rw [e];exact ⟨rfl,rfl⟩
 ·obtain ⟨_,b,_,e⟩:=hv hl.1 hl.2;rw [e];exact ⟨rfl,rfl⟩
 ·obtain ⟨us,e,_⟩:=hv;rw [e];exact ⟨rfl,rfl⟩
 ·obtain ⟨_,b,_,e⟩:=hv hl.1 hl.2;rw [e];exact ⟨rfl,rfl⟩
end
section
variable {c:Ctx} {ops:Array Oper} {rest:List Oper} {t:List (Nat×FV)} {ob:List (Nat×zn)} {d:Nat} {ty:TypeId} {pos:String} {af:Array Edge} {gd:Option (Nat×Bool)} {QS:FSt→Prop}
theorem zaM {op:Op} {f:FV} {wr:List (Nat×zn)} (hd:Nat.blt d c.N=true) (hw:zM ops ⟨t,ob⟩ (⟨some d,op,ty,pos,af,gd⟩:Oper) true)
  (hg:∀ (w0:World) (J:JJ) (a:Act) (w:World) (β:Nat→Option Nat),FR c.N w0 J ⟨t,ob⟩ a w β→yL c w0 J ⟨t,ob⟩ a ⟨some d,op,ty,pos,af,gd⟩ w f wr)
  (k:zi c ops rest (((⟨t,ob⟩:FSt).wr wr).put d f) QS):zi c ops ((⟨some d,op,ty,pos,af,gd⟩:Oper)::rest) ⟨t,ob⟩ QS:=fun QQ w0 J a w β hQ hF=>by
 unfold wpList;rw [if_pos (hw.model hF)];refine .inl ?_;exact yL.wp (hg w0 J a w β hF) (fun d' e=>by injection e with e;subst e;exact Nat.le_of_ble_eq_true hd) fun a' w' β' hF'=>k QQ w0 J a' w' β' hQ hF'
theorem Zr {T id ver j o E sz:Nat} {x:Operand} {es:List (List FV)} {row:List FV} {f:FV} (hx:(⟨t,ob⟩:FSt).ev x=.ptr id ver j o) (hk:(c.ty T).k.agg? = some false) (hb:(⟨t,ob⟩:FSt).ob id=⟨ver,.hrow,E,sz,es⟩) (hj:es[j]? = some row) (ho:row[o]? = some f) (hd:Nat.blt d c.N=true) (hw:zM ops ⟨t,ob⟩ (⟨some d,.load T x,ty,pos,af,gd⟩:Oper) true)
  (k:zi c ops rest ⟨(d,f)::t,ob⟩ QS):zi c ops ((⟨some d,.load T x,ty,pos,af,gd⟩:Oper)::rest) ⟨t,ob⟩ QS:=
 zaM (wr:=[]) hd hw (fun w0 J a w β hF=>Vh hF hk x hx (by rw [hb]) (by rw [hb]) (by rw [hb];exact hj) ho) k
theorem UZ {T id ver j o E sz:Nat} {x y:Operand} {es:List (List FV)} {row:List FV} {f:FV} (hx:(⟨t,ob⟩:FSt).ev x=.ptr id ver j o) (hy:(⟨t,ob⟩:FSt).ev y=f) (hf:Zx ⟨t,ob⟩ f) (hk:(c.ty T).k.known=true) (hz:(c.ty T).size=1) (hb:(⟨t,ob⟩:FSt).ob id=⟨ver,.hrow,E,sz,es⟩) (hj:es[j]? = some row) (ho:o<row.length) (hw:zM ops ⟨t,ob⟩ (⟨none,.store T x y,ty,pos,af,gd⟩:Oper) true)
  (k:zi c ops rest ⟨t,(id,⟨ver,.hrow,E,sz,es.set j (row.set o f)⟩)::ob⟩ QS):zi c ops ((⟨none,.store T x y,ty,pos,af,gd⟩:Oper)::rest) ⟨t,ob⟩ QS:=fun QQ w0 J a w β hQ hF=>by
 unfold wpList;rw [if_pos (hw.model hF)];refine .inl ?_;obtain ⟨W,h2,h3⟩:=ZV (ty:=ty) (pos:=pos) (after:=af) (g:=gd) (dst:=none) hF (TK.known_ne hk) hz x y hx (by rw [hb]) (by rw [hb]) hy hf (by rw [hb];exact hj) ho;unfold Oper.wp;rw [h2,Oper.upon_skip];rw [hb] at h3;exact k QQ w0 J _ W β hQ h3
end
section
variable {c:Ctx} {w0 w:World} {J:JJ} {s:FSt} {a:Act} {β:Nat→Option Nat} {dst:Option Nat} {ty:TypeId} {pos:String} {after:Array Edge} {g:Option (Nat×Bool)}
end
section
variable {c:Ctx} {ops:Array Oper} {rest:List Oper} {t:List (Nat×FV)} {ob:List (Nat×zn)} {d:Nat} {ty:TypeId} {pos:String} {af:Array Edge} {gd:Option (Nat×Bool)} {tr:List Rec} {QD:FSt→List Rec→Prop}
theorem zin {op:Op} {f:FV} {wr:List (Nat×zn)} (hst:XY op=false) (hno:¬ zam op) (hd:Nat.blt d c.N=true) (hw:zM ops ⟨t,ob⟩ (⟨some d,op,ty,pos,af,gd⟩:Oper) true)
  (hg:∀ s' : FSt,(∀ x∈op.operands.toList,s'.ev x=(⟨t,ob⟩:FSt).ev x)→(∀ id∈yT ⟨t,ob⟩ d op,s'.ob id=(⟨t,ob⟩:FSt).ob id)→∀ (w0:World) (J:JJ) (a:Act) (w:World) (β:Nat→Option Nat) (ty:TypeId) (pos:String) (after:Array Edge) (g:Option (Nat×Bool)),
   FR c.N w0 J s' a w β→yL c w0 J s' a ⟨some d,op,ty,pos,after,g⟩ w f wr)
  (k:zK c ops rest (((⟨t,ob⟩:FSt).wr wr).put d f) (tr++[⟨(⟨some d,op,ty,pos,af,gd⟩:Oper),f,wr,yT ⟨t,ob⟩ d op⟩]) QD):zK c ops ((⟨some d,op,ty,pos,af,gd⟩:Oper)::rest) ⟨t,ob⟩ tr QD:=
 zK.cons (f:=f) (wr:=wr) (d:=d) ⟨.inl rfl,(fun _ e=>by injection e with e;subst e;exact Nat.le_of_ble_eq_true hd),.ext hst hno fun s' h1 h2 w0 J a w β ty pos after g hdN hF K Q hK=>
  yL.wp (hg s' h1 h2 w0 J a w β ty pos after g hF) (fun d' e=>by injection e with e;subst e;exact hdN) hK⟩ hw rfl rfl k
theorem zik {T:Nat} {x:Operand}:¬ zam (.load T x):=by rintro (⟨_,_,_,e⟩|⟨_,_,_,_,e⟩) <;> cases e
theorem zbX {T id ver j o E sz:Nat} {x:Operand} {es:List (List FV)} {row:List FV} {f:FV} (hx:(⟨t,ob⟩:FSt).ev x=.ptr id ver j o) (hk:(c.ty T).k.agg? = some false) (hb:(⟨t,ob⟩:FSt).ob id=⟨ver,.hrow,E,sz,es⟩) (hj:es[j]? = some row) (ho:row[o]? = some f) (hd:Nat.blt d c.N=true) (hw:zM ops ⟨t,ob⟩ (⟨some d,.load T x,ty,pos,af,gd⟩:Oper) true)
  (k:zK c ops rest ⟨(d,f)::t,ob⟩ (tr++[⟨(⟨some d,.load T x,ty,pos,af,gd⟩:Oper),f,[],yT ⟨t,ob⟩ d (.load T x)⟩]) QD):zK c ops ((⟨some d,.load T x,ty,pos,af,gd⟩:Oper)::rest) ⟨t,ob⟩ tr QD:=
 zin (wr:=[]) rfl zik hd hw (fun s' h1 h2 w0 J a w β ty pos after g hF=>by
  have e1:=(h1 x zh).trans hx;have e2:=(h2 id (Xg (x:=x) rfl zh (by rw [hx];rfl))).trans hb;exact Vh hF hk x e1 (by rw [e2]) (by rw [e2]) (by rw [e2];exact hj) ho) k
theorem Yw {T id ver j o E sz:Nat} {x y:Operand} {es:List (List FV)} {row:List FV} {f:FV} (hx:(⟨t,ob⟩:FSt).ev x=.ptr id ver j o) (hy:(⟨t,ob⟩:FSt).ev y=f) (hf:∃ i v n,f=.own i v 0 n) (hst:(⟨t,ob⟩:FSt).live id ver) (hfl:∀ i v n,f=.own i v 0 n→(⟨t,ob⟩:FSt).live i v) (hk:(c.ty T).k.known=true) (hz:(c.ty T).size=1) (hb:(⟨t,ob⟩:FSt).ob id=⟨ver,.hrow,E,sz,es⟩) (hj:es[j]? = some row) (ho:o<row.length) (hd:Nat.blt d c.N=true) (hw:zM ops ⟨t,ob⟩ (⟨none,.store T x y,ty,pos,af,gd⟩:Oper) true)
  (k:zK c ops rest ⟨t,(id,⟨ver,.hrow,E,sz,es.set j (row.set o f)⟩)::ob⟩ (tr++[⟨(⟨none,.store T x y,ty,pos,af,gd⟩:Oper),.undef,[(id,⟨ver,.hrow,E,sz,es.set j (row.set o f)⟩)],yT ⟨t,ob⟩ d (.store T x y)⟩]) QD):zK c ops ((⟨none,.store T x y,ty,pos,af,gd⟩:Oper)::rest) ⟨t,ob⟩ tr QD:=by
 refine zK.cons (f:=.undef) (wr:=[(id,⟨ver,.hrow,E,sz,es.set j (row.set o f)⟩)]) (d:=d) ⟨.inr ⟨rfl,.inl ⟨_,_,_,rfl⟩⟩,(fun _ e=>by cases e),.extN rfl (.inl ⟨_,_,_,rfl⟩) fun s' h1 h2 w0 J a w β dst ty pos after g hF=>?_⟩ hw rfl rfl k;have e1:=(h1 x zh).trans hx;have e2:=(h1 y zh).trans hy;have m1:id∈yT ⟨t,ob⟩ d (.store T x y):=Xg (x:=x) rfl zh (ver:=ver) (by rw [hx];rfl);have e3:=(h2 id m1).trans hb;obtain ⟨i,v,n,rfl⟩:=hf;have m2:i∈yT ⟨t,ob⟩ d (.store T x y):=Xg (x:=y) rfl zh (ver:=v) (by rw [hy];rfl);have hl2:s'.live i v:=by
  have:=hfl i v n rfl;unfold FSt.live at this ⊢;rw [h2 i m2];exact this
 have:=ZV (dst:=dst) (ty:=ty) (pos:=pos) (after:=after) (g:=g) hF (TK.known_ne hk) hz x y e1 (by rw [e3]) (by rw [e3]) e2 (.inr (.inl ⟨_,_,_,_,rfl,hl2⟩)) (by rw [e3];exact hj) ho;rw [e3] at this;exact this
end
theorem zbm (l:List OpV) (s:Bool) (i:Nat):∀ k,(ya l s i k).length≤4 * k
 | 0 => by simp [ya]
 | k+1 => by rw [ZA, List.length_append]; have := zbm l s i k; have := zbl l s i k; omega
theorem zaG (l:List OpV) (s:Bool) (hl:l.length≤1000):zY Try.prog 22 [.list 8 (l.map OpV.fv),.bool s] (.ow 28 3) (.list 3 ((yb l s).map EdV.fv)):=by
 obtain ⟨n,hn⟩:∃ n,l.length=n:=⟨_,rfl⟩
 refine zY.of_body (c:=(xa Try.prog zD zq 44)) ⟨Try.func22,rfl,Try.ntmps22,by kernel_rfl⟩ zC zp rfl ?_;change FW _ _ _ ⟨[(0,.list 8 (l.map OpV.fv)),(1,.bool s)],[]⟩;refine za ?_;refine FW.loop (fun i:Nat=>⟨[(0,.list 8 (l.map OpV.fv)),(1,.bool s),(5,.own 100 0 0 (Xd l s i).length),(6,.int .i64 i)],[(100,⟨0,.own,28,3,(Xd l s i).map EdV.fv⟩)]⟩) (fun i=>i≤n) (fun i=>n - i) 0 (Nat.zero_le _) ?_ ?_
 ·show FLe _ ⟨[(0,.list 8 (l.map OpV.fv)),(1,.bool s),(5,.own 100 0 0 0),(6,.int .i64 0)],[(100,⟨0,.own,28,3,[]⟩)]⟩;exact (FLe.cv [⟨100,none,0,⟨0,.own,28,3,[]⟩⟩] zf zd)
 intro i hi;have hel:=zcL l s (i:=i) zb hl;have hes:=WR l s i;have hlast:i=n→yb l s=Xd l s i:=fun e=>by unfold yb;rw [hn,e]
 generalize Xd l s i=A at hel hes hlast;refine za ?_;refine FW.cond rfl (fun hc=>?_) (fun hc=>?_)
 ·have hin:i<n:=by rw [hn] at hc;simpa using hc
  clear hc hlast;have hin2:i<l.length:=by omega
  refine za ?_;refine FW.loop (fun k:Nat=>⟨[(0,.list 8 (l.map OpV.fv)),(1,.bool s),(5,.own 100 0 0 (A++ya l s i k).length),(6,.int .i64 i),(7,.int .i64 k)],[(100,⟨0,.own,28,3,(A++ya l s i k).map EdV.fv⟩)]⟩) (fun k=>k≤n) (fun k=>n - k) 0 (Nat.zero_le _) ?_ ?_
  ·show FLe _ ⟨[(0,.list 8 (l.map OpV.fv)),(1,.bool s),(5,.own 100 0 0 (A++[]).length),(6,.int .i64 i),(7,.int .i64 0)],[(100,⟨0,.own,28,3,(A++[]).map EdV.fv⟩)]⟩;rw [List.append_nil];exact (FLe.cv [⟨100,some 100,0,⟨0,.own,28,3,A.map EdV.fv⟩⟩] zf zd)
  intro k hk;have hrl:=zbm l s i k;have hBl:(A++ya l s i k).length=A.length+(ya l s i k).length:=List.length_append;have hBs:A++ya l s i (k+1)=(A++ya l s i k)++xh l s i k:=by rw [ZA,List.append_assoc]
  have hlast:k=n→A++ya l s i k=Xd l s (i+1):=fun e=>by rw [hes,e,hn]
  generalize A++ya l s i k=B at hBl hBs hlast;refine za ?_;refine FW.cond rfl (fun hc=>?_) (fun hc=>?_)
  ·have hkn:k<n:=by rw [hn] at hc;simpa using hc
   clear hc hlast;have hkn2:k<l.length:=by omega
   have hwy:=zbT l s i k hin2 hkn2 zb;have hwl:=Ue l s i k;have hrow:xh l s i k=(xy l s i k).map fun w=>(i,k,w):=rfl;rw [hrow] at hBs;generalize xy l s i k=W at hwy hwl hBs;refine za ?_;refine xn hwy yN (List.length_map _) rfl rfl rfl ?_;refine zi.le ?_ (FLe.share 26 rfl rfl (by rw [List.length_map]));refine za ?_;refine FW.loop (fun j:Nat=>⟨[(0,.list 8 (l.map OpV.fv)),(1,.bool s),(5,.own 100 0 0 (B++(W.take j).map fun w=>(i,k,w)).length),(6,.int .i64 i),(7,.int .i64 k),(8,.list 1 (W.map zj)),(9,.int .i64 j)],[(100,⟨0,.own,28,3,(B++(W.take j).map fun w=>(i,k,w)).map EdV.fv⟩)]⟩) (fun j=>j≤W.length) (fun j=>W.length - j) 0 (Nat.zero_le _) ?_ ?_
   ·show FLe _ ⟨[(0,.list 8 (l.map OpV.fv)),(1,.bool s),(5,.own 100 0 0 (B++[]).length),(6,.int .i64 i),(7,.int .i64 k),(8,.list 1 (W.map zj)),(9,.int .i64 0)],[(100,⟨0,.own,28,3,(B++[]).map EdV.fv⟩)]⟩;rw [List.append_nil];exact (FLe.cv [⟨100,some 100,0,⟨0,.own,28,3,B.map EdV.fv⟩⟩] zf zd)
   intro j hj;have hCl:(B++(W.take j).map fun w=>(i,k,w)).length=B.length+j:=by rw [List.length_append,List.length_map,List.length_take];omega
   have hCs:∀ h:j<W.length,(B++(W.take (j+1)).map fun w=>(i,k,w))=(B++(W.take j).map fun w=>(i,k,w))++[(i,k,nth W j)]:=fun h=>by rw [List.take_succ_eq_append_getElem h,List.map_append,← List.append_assoc,nth_eq h];rfl
   have hlast:j=W.length→(B++(W.take j).map fun w=>(i,k,w))=A++ya l s i (k+1):=fun e=>by rw [hBs,e,List.take_length]
   generalize (B++(W.take j).map fun w=>(i,k,w))=C at hCl hCs hlast;refine za ?_;refine FW.cond rfl (fun hc=>?_) (fun hc=>?_)
   ·have hjm:j<W.length:=by simpa using hc
    clear hc hlast;have hCs:=hCs hjm;refine za ?_;refine ⟨j+1,by omega,by omega,?_⟩;rw [hCs,List.map_append];exact (FLe.cv [⟨100,some 42,0+1,⟨0,.own,28,3,C.map EdV.fv++[(i,k,nth W j)].map EdV.fv⟩⟩] zf zd)
   ·obtain rfl:j=W.length:=by simp at hc;omega
    have hl:=hlast rfl;refine za ?_;refine ⟨k+1,by omega,by omega,?_⟩;rw [← hl];exact (FLe.cv [⟨100,some 100,0,⟨0,.own,28,3,C.map EdV.fv⟩⟩] zf zd)
  ·obtain rfl:k=n:=by rw [hn] at hc;simp at hc;omega
   have hl:=hlast rfl;refine za ?_;refine ⟨i+1,by omega,by omega,?_⟩;rw [← hl];exact (FLe.cv [⟨100,some 100,0,⟨0,.own,28,3,B.map EdV.fv⟩⟩] zf zd)
 ·obtain rfl:i=n:=by rw [hn] at hc;simp at hc;omega
  rw [hlast rfl];refine za ?_;exact FW.ret ⟨.inl rfl,VG rfl rfl rfl zc zg rfl (EdV.flatsM _)⟩
def zdM (l:List Oper):Bool:=zaE l && (List.range l.length).all fun i=>(List.range i).all fun j=>((zdj l []).getD i []).contains j || (l.getD j default).apart l.toArray (l.getD i default)
def zja (tr:List Rec):Bool:=tr.all fun r=>r.wr.isEmpty
theorem Wy {c:Ctx} {l:List Oper} {s s' : FSt} {tr:List Rec} (hst:zdM l=true) (hx:zfu c l.toArray s l tr s') (hs:zja tr=true):XO l.toArray tr=true:=by
 obtain ⟨hlen,_,hrec⟩:=hx.at;unfold zdM at hst;rw [Bool.and_eq_true] at hst;unfold XO;rw [Bool.and_eq_true];refine ⟨hst.1,?_⟩;unfold zc0;rw [List.all_eq_true];intro i hi;rw [List.all_eq_true];intro j hj;have hi2:i<l.length:=by rw [← hlen];exact List.mem_range.1 hi
 have hj2:j<i:=List.mem_range.1 hj;have h:=List.all_eq_true.1 (List.all_eq_true.1 hst.2 i (List.mem_range.2 hi2)) j hj;rw [Bool.or_eq_true] at h ⊢;refine h.imp id (fun h=>?_);have key:∀ k,k<l.length→(tr.getD k default).wr=[]:=fun k hk=>by
  have hk' : k<tr.length:=by omega
  have:tr.getD k default∈tr:=by
   rw [List.getD_eq_getElem?_getD,List.getElem?_eq_getElem hk',Option.getD_some];exact List.getElem_mem hk'
  have:=List.all_eq_true.1 hs _ this;exact List.isEmpty_iff.1 this
 unfold Zy;rw [key i hi2,key j zb,(hrec i hi2).1,(hrec j zb).1,h];rfl
/-! the same look,reckoned on numbers -/
def WJ:List Nat→Nat
 | [] => 0
 | t :: l => (1 <<< t) ||| WJ l
theorem XD {d:Nat}:∀ {l:List Nat},d∈l→(WJ l).testBit d=true
 | t :: l, h => by
  unfold WJ;rw [Nat.testBit_or,Bool.or_eq_true];rcases List.mem_cons.1 h with rfl|h
  ·left;rw [Nat.testBit_shiftLeft];simp
  ·exact .inr (XD h)
def zie (o:Oper):Nat:=match o.dst with|some d=>1 <<< d|none=>0
theorem WP {o:Oper} {d:Nat} (h:o.dst=some d):(zie o).testBit d=true:=by
 unfold zie;rw [h];dsimp only;rw [Nat.testBit_shiftLeft];simp
def frc (n:Nat) (k:Nat→Bool):Bool:=match n with|0=>k 0|m+1=>k (m+1)
theorem zfM (n:Nat) (k:Nat→Bool):frc n k=k n:=by cases n <;> rfl
def zho (A D L:Nat):Nat→List (Nat×Nat)→Bool
 | _, [] => true
 | j, p :: rest => (A.testBit (j - 1) || (Nat.beq (p.1 &&& (L ||| D)) 0 && Nat.beq (D &&& p.2) 0)) && zho A D L (j - 1) rest
def ziH (i:Nat) (acc:List Nat):List Edge→Nat
 | [] => 0
 | e :: es => (if Region.binds .any e then (1 <<< e.on) ||| acc.getD (i - 1 - e.on) 0 else 0) ||| ziH i acc es
def zei (i:Nat):List Edge→Bool
 | [] => true
 | e :: es => (!Region.binds .any e || Nat.blt e.on i) && zei i es
def zdz (ops:Array Oper):List Oper→Nat→List (Nat×Nat)→List Nat→Bool
 | [], _, _, _ => true
 | o :: l, i, prev, acc => frc (zie o) fun D => frc (WJ (o.looksAt ops)) fun L => frc (ziH i acc o.after.toList) fun A => zei i o.after.toList && zho A D L i prev && zdz ops l (i+1) ((D, L) :: prev) (A :: acc)
def zdA (l:List Oper):Bool:=zdz l.toArray l 0 [] []
theorem zdP {A D L:Nat}:∀ {prev:List (Nat×Nat)} {j:Nat},prev.length=j→zho A D L j prev=true→∀ x,x<j→A.testBit x=true∨((prev.getD (j - 1 - x) (0,0)).1 &&& (L ||| D)=0∧D &&& (prev.getD (j - 1 - x) (0,0)).2=0)
 | [], j, hl, _, x, hx => by simp at hl; omega
 | p::rest,j,hl,h,x,hx=>by
  unfold zho at h;rw [Bool.and_eq_true] at h;rcases Nat.eq_or_lt_of_le (show x≤j - 1 by omega) with e|hlt
  ·subst e;rw [Nat.sub_self,List.getD_cons_zero];rw [Bool.or_eq_true,Bool.and_eq_true] at h;exact h.1.imp id fun h=>⟨Nat.eq_of_beq_eq_true h.1,Nat.eq_of_beq_eq_true h.2⟩
  ·have:=zdP (by simp at hl;omega) h.2 x hlt;rwa [show j - 1 - x=(j - 1 - 1 - x)+1 by omega,List.getD_cons_succ]
theorem zfA {i:Nat} {accM:List Nat} {acc:List (List Nat)} (hl:acc.length=i) (hm:∀ k,k<i→∀ b,(accM.getD (i - 1 - k) 0).testBit b=true→b∈acc.getD k []):∀ (es:List Edge),zei i es=true→∀ b,(ziH i accM es).testBit b=true→
  b∈es.flatMap fun e=>if Region.binds .any e then e.on::acc.getD e.on [] else []
 | [], _, b, h => by simp [ziH] at h
 | e ::es,he,b,h=>by
  unfold zei at he;rw [Bool.and_eq_true] at he;unfold ziH at h;rw [Nat.testBit_or,Bool.or_eq_true] at h;rw [List.flatMap_cons,List.mem_append];rcases h with h|h
  ·left;by_cases hb:Region.binds .any e=true
   ·rw [if_pos hb] at h ⊢;rw [Nat.testBit_or,Bool.or_eq_true] at h;rcases h with h|h
    ·rw [Nat.one_shiftLeft,Nat.testBit_two_pow] at h;have:e.on=b:=of_decide_eq_true h;rw [this];exact List.mem_cons_self
    ·have h1:=he.1;rw [hb] at h1;have h1:e.on<i:=by simpa using h1
     exact List.mem_cons_of_mem _ (hm _ h1 b h)
   ·rw [if_neg hb] at h;simp at h
  ·exact .inr (zfA hl hm es he.2 b h)
theorem zdv {i:Nat}:∀ {es:List Edge},zei i es=true→∀ e∈es,(!Region.binds .any e || decide (e.on<i))=true
 | e::es,h,e',he=>by
  unfold zei at h;rw [Bool.and_eq_true] at h;rcases List.mem_cons.1 he with rfl|he
  ·have:=h.1;rw [Bool.or_eq_true] at this ⊢;exact this.imp id fun h=>decide_eq_true (Nat.le_of_ble_eq_true h)
  ·exact zdv h.2 e' he
theorem zfB {a b d:Nat} (h:a &&& b=0) (ha:a.testBit d=true):b.testBit d=false:=by
 have:(a &&& b).testBit d=false:=by rw [h];exact Nat.zero_testBit d
 rw [Nat.testBit_and,ha,Bool.true_and] at this;exact this
theorem zec {ops:Array Oper} {x y:Oper} (h1:zie x &&& (WJ (y.looksAt ops) ||| zie y)=0) (h2:zie y &&& WJ (x.looksAt ops)=0):x.apart ops y=true:=by
 unfold Oper.apart;rw [Bool.and_eq_true];constructor
 ·cases hd:x.dst with
  | none => rfl
  | some d=>
   have:=zfB h1 (WP hd);rw [Nat.testBit_or,Bool.or_eq_false_iff] at this;dsimp only;rw [Bool.and_eq_true];constructor
   ·cases hc:(y.looksAt ops).contains d with
    | false => rfl
    | true =>
     have:=this.1;rw [XD (by simpa using hc)] at this;cases this
   ·simp only [bne_iff_ne,ne_eq];intro e;have:=this.2;rw [WP e] at this;cases this
 ·cases hd:y.dst with
  | none => rfl
  | some d =>
   have:=zfB h2 (WP hd);dsimp only;cases hc:(x.looksAt ops).contains d with
   | false => rfl
   | true => rw [XD (by simpa using hc)] at this; cases this
theorem zbo {ops:Array Oper}:∀ {l:List Oper} {first:List Oper} {i:Nat} {prev:List (Nat×Nat)} {accM:List Nat} {acc:List (List Nat)},first.length=i→prev.length=i→accM.length=i→acc.length=i→
  (∀ j,j<i→prev.getD (i - 1 - j) (0,0)=(zie (first.getD j default),WJ ((first.getD j default).looksAt ops)))→(∀ k,k<i→∀ b,(accM.getD (i - 1 - k) 0).testBit b=true→b∈acc.getD k [])→
  zdz ops l i prev accM=true→∀ k,k<l.length→(∀ e∈(l.getD k default).after.toList,(!Region.binds .any e || decide (e.on<i+k))=true)∧∀ j,j<i+k→j∈(zdj l acc).getD (i+k) []∨((first++l).getD j default).apart ops (l.getD k default)=true
 | [], _, _, _, _, _, _, _, _, _, _, _, _, k, hk => by simp at hk
 | o ::l,first,i,prev,accM,acc,hf,hp,ha,hc,h1,h2,h,k,hk=>by
  unfold zdz at h;rw [zfM,zfM,zfM,Bool.and_eq_true,Bool.and_eq_true] at h;obtain ⟨⟨he,hpr⟩,hrest⟩:=h;have hanc:∀ b,(ziH i accM o.after.toList).testBit b=true→b∈o.after.toList.flatMap fun e=>if Region.binds .any e then e.on::acc.getD e.on [] else []:=zfA hc h2 _ he
  cases k with
  | zero=>
   refine ⟨fun e hee=>zdv he e (by simpa using hee),fun j hj=>?_⟩;rw [Nat.add_zero] at hj ⊢;rw [List.getD_cons_zero];rcases zdP hp hpr j hj with q|⟨q1,q2⟩
   ·left;rw [zdj,zdk l _ i zI,List.getD_eq_getElem?_getD,List.getElem?_append_right zb,hc,Nat.sub_self];simpa using hanc j q
   ·right;rw [h1 j hj] at q1 q2;rw [List.getD_eq_getElem?_getD,List.getElem?_append_left zb,← List.getD_eq_getElem?_getD];exact zec q1 q2
  | succ k=>
   have:=zbo (first:=first++[o]) (i:=i+1) (acc:=acc++[o.after.toList.flatMap fun e=>if Region.binds .any e then e.on::acc.getD e.on [] else []]) zI zI zI zI (fun j hj=>?_) (fun q hq b hb=>?_) hrest k (by simpa using hk)
   ·rw [show i+1+k=i+(k+1) by omega] at this;rw [List.getD_cons_succ,zdj];rw [List.append_assoc] at this;exact this
   ·rcases Nat.eq_or_lt_of_le (show j≤i by omega) with e|hlt
    ·subst e;rw [Nat.add_sub_cancel,Nat.sub_self,List.getD_cons_zero];have:(first++[o]).getD j default=o:=by rw [List.getD_eq_getElem?_getD,List.getElem?_append_right zb,hf,Nat.sub_self];rfl
     rw [this]
    ·rw [show i+1 - 1 - j=(i - 1 - j)+1 by omega,List.getD_cons_succ,h1 j hlt];have:(first++[o]).getD j default=first.getD j default:=by rw [List.getD_eq_getElem?_getD,List.getElem?_append_left zb,← List.getD_eq_getElem?_getD]
     rw [this]
   ·rcases Nat.eq_or_lt_of_le (show q≤i by omega) with e|hlt
    ·subst e;rw [Nat.add_sub_cancel,Nat.sub_self,List.getD_cons_zero] at hb;rw [List.getD_eq_getElem?_getD,List.getElem?_append_right zb,hc,Nat.sub_self];simpa using hanc b hb
    ·rw [show i+1 - 1 - q=(i - 1 - q)+1 by omega,List.getD_cons_succ] at hb;rw [List.getD_eq_getElem?_getD,List.getElem?_append_left zb,← List.getD_eq_getElem?_getD];exact h2 q hlt b hb
theorem Uv {l:List Oper} (h:zdA l=true):zdM l=true:=by
 have key:=zbo (first:=[]) (acc:=[]) (i:=0) rfl rfl rfl rfl (fun j hj=>by omega) (fun j hj=>by omega) h;unfold zdM;rw [Bool.and_eq_true];constructor
 ·unfold zaE;rw [List.all_eq_true];intro i hi;rw [List.all_eq_true];intro e he;have:=(key i (List.mem_range.1 hi)).1 e he;rwa [Nat.zero_add] at this
 ·rw [List.all_eq_true];intro i hi;rw [List.all_eq_true];intro j hj;have:=(key i (List.mem_range.1 hi)).2 j (by rw [Nat.zero_add];exact List.mem_range.1 hj);rw [Nat.zero_add,List.nil_append] at this;rw [Bool.or_eq_true];exact this.imp (fun h=>by simpa using h) id
theorem FW.drawQ {c:Ctx} {Q:Exit→FSt→Prop} {s:FSt} {id:Nat} {l:List Oper} (hst:zdA l=true) (h:zK c l.toArray l s [] fun s' tr=>zja tr=true∧Q .normal s'):FW c (.region id l.toArray true) Q s:=by
 obtain ⟨tr,s',hx,hs,hq⟩:=h;exact FW.draw ⟨tr,s',hx,Wy (Uv hst) hx (by simpa using hs),hq⟩
end Go.Proofs.Ytlnehfplfoikaaa
