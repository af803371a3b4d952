/-
  Some texts as one: FmW, FmX, FmLin1, FmView, FmCau1, FmLin2, LinPlain, FmCau2.
-/
import Derived.Test.YtmnmakhpjgjdaaaZL
import Derived.Lib.SliceRun
import Derived.Test.YtmnmakhpjgjdaaaZR
import Derived.Test.YtmnmakhpjgjdaaaZD
namespace Go.Proofs.Ytmnmakhpjgjdaaa
set_option linter.unusedVariables false
set_option maxHeartbeats 16000000
section
open Go.RowKit
section
variable {c:Ctx} {ops:Array Oper} {rest:List Oper} {t:List (Nat×FV)} {ob:List (Nat×zq)} {d:Nat} {ty ty2:TypeId} {pos pos2:String} {af af2:Array Edge} {QS:FSt→Prop}
theorem ziI {w0 w:World} {J:JJ} {s:FSt} {a:Act} {β:Nat→Option Nat} {g:Option (Nat×Bool)} {dst:Option Nat} (h:FR c.N w0 J s a w β) {T e:Nat} (hT:(c.ty T).k=.slice e) (he:(c.ty e).k≠.other) (hz:(c.ty e).size=1) {f0:FV} (hz0:(c.ty e).zero=[f0]) (h1:f0.one=true) (x:Operand) {id ver o m:Nat} (ex:s.ev x=.own id ver o m) (hl:(s.ob id).life=.own) (hv:(s.ob id).ver=ver) (hsz:(s.ob id).sz=1) (hm0:0<m) :
  ∃ W,(execOp a.eval ⟨dst,.call { callee:=.builtin .clear,args:=#[x],argTypes:=#[T] },ty,pos,af,g⟩).run c.P w=.ok (.value (.tuple #[])) W∧FR c.N w0 J (s.wr [(id,{ s.ob id with es:=splice (s.ob id).es o (List.replicate m [f0]) })]) a W β:=by
 have hlive:(s.ob id).life≠.dead:=by rw [hl];decide
 have hrl:(s.ob id).life.row=true:=by rw [hl];rfl
 obtain ⟨dd,ii,z,ht⟩:=c.get hT zc;have hd:=ht.k;rw [hT] at hd;obtain rfl:=yB hd;obtain ⟨zv,z1,z2,z3⟩:=xT he w;rw [hz] at z3;rw [hz0] at z2;obtain ⟨u,hu⟩:∃ u,zv.cells=#[u]:=by
  have hl:zv.cells.toList.length=1:=by simpa using z3
  obtain ⟨u,hu⟩:=List.length_eq_one_iff.1 hl;exact ⟨u,by apply Array.ext';rw [hu]⟩
 have hrz:RdL w (Imm J w β s) [u] [f0]:=by have:=RdL.zeros (w:=w) (I:=Imm J w β s) z2;rwa [hu] at this
 have hru:=hrz.2 0 u f0 rfl rfl;have hou:=hru.oneCell h1;obtain ⟨A,cc,e1,e2,e3,e4,e5⟩:=(h.ev_own ex hlive hv).ex;obtain ⟨b,hb⟩:∃ b,β id=some b:=by
  cases hbb:β id with
  | none => obtain ⟨q1, q2⟩ := e4 hbb; omega
  | some b => exact ⟨b, rfl⟩
 obtain ⟨o',rfl,k2,k3⟩:=e5 b hb;have:=k2 (.inl za);subst this;obtain ⟨cur,cap,hblk,hn,hm,hcs,hr,hrow⟩:=h.block hlive hrl hb;have hw:=((h.obj id hlive).rowR hrl).wide;have hone:=((h.obj id hlive).rowR hrl).one;rw [hsz] at hw hcs hr hrow e1;simp only [Nat.mul_one] at hcs hr hrow e1;generalize hes:(s.ob id).es=es at hn hr hrow hw hone e3;obtain ⟨us,hus⟩:∃ us,List.replicate m u=us:=⟨_,rfl⟩
 have husl:us.length=m:=by rw [← hus];simp
 obtain ⟨q2,hq2⟩:∃ q2,List.replicate m [f0]=q2:=⟨_,rfl⟩
 have hq2l:q2.length=m:=by rw [← hq2];simp
 have hd1:∀ q∈q2,q.length=1:=fun q hq=>by rw [← hq2] at hq;rw [List.eq_of_mem_replicate hq];rfl
 have hqf:q2.flatten=List.replicate m f0:=by rw [← hq2,List.flatten_replicate_singleton]
 have hr3:RdL w (Imm J w β s) us q2.flatten:=by
  rw [hqf,← hus];refine ⟨by simp,fun j v f hv hf=>?_⟩;have a1:=List.eq_of_mem_replicate (List.mem_of_getElem? hv);have a2:=List.eq_of_mem_replicate (List.mem_of_getElem? hf);rw [a1,a2];exact hru
 have h1u:∀ v∈us,v.oneCell'=true:=fun v hv=>by rw [← hus] at hv;rw [List.eq_of_mem_replicate hv];exact hou
 have hfit:o+us.length≤cur.size:=by rw [husl,hcs];omega
 have hst:=run_storeCells_at c.P b o (s.ob id).E us 0 cur w hblk za h1u;simp only [Nat.add_zero] at hst;obtain ⟨W,hW⟩:∃ W,W=w.setRow b (splice cur.toList o us).toArray:=⟨_,rfl⟩
 have hst' : (storeCells ⟨b,o,none⟩ us).run c.P w=.ok () W:=by rw [hW];exact hst
 have hWb:W.heap[b]? = some (.cells (splice cur.toList o us).toArray (s.ob id).E (0,0)):=by rw [hW];exact yJ w b _ cur _ hblk
 have hgrown:w.grownBy W (β id):=by
  subst hW;refine ⟨rfl,rfl,rfl,by simp [World.setRow],fun k hk hne=>yW w b k _ (fun e=>hne (by rw [e,hb]))⟩
 have hcl:cur.toList.length=cap:=by simpa using hcs
 have htl:(cur.toList.take es.length).length=es.length:=by rw [List.length_take,hcl];omega
 have hslen:(splice es o q2).length=es.length:=yC za;have hrow' : W.ownsRow w0.heap.size (s.ob id).E 1 (.slice (some ⟨b,0,none⟩) es.length cap) (splice es o q2).length (splice (cur.toList.take es.length) o us):=by
  rw [hslen];refine ⟨?_,.inr ⟨b,cap,_,rfl,((h.obj id hlive).lt hb).1,hWb,hn,hm,?_,?_⟩⟩
  ·rw [yC za,htl,Nat.mul_one]
  ·simp only [List.size_toArray];rw [yC za,hcl,Nat.mul_one]
  ·rw [Nat.mul_one];have key:∀ (L p:Nat) (cs ds:List Value),p+ds.length≤L→L≤cs.length→(splice cs p ds).take L=splice (cs.take L) p ds:=by
    intro L p cs ds h1 h2;unfold splice;rw [List.append_assoc,List.append_assoc,List.take_append,List.length_take,Nat.min_eq_left za,List.take_append,List.take_take,List.take_take,Nat.min_eq_right za,Nat.min_eq_left za,List.take_of_length_le (by omega:ds.length≤L - p),List.drop_take];congr 3;omega
   exact key _ _ _ _ za za
 refine ⟨W,?_,?_⟩
 ·have hzc:(Builtin.zeroCells zv.cells m).toList=us:=by
   rw [hu,← hus];simp [Builtin.zeroCells];apply List.ext_getElem
   ·simp
   ·intro i h1 h2;simp [Nat.mod_one]
  obtain ⟨m',rfl⟩:∃ m',m=m'+1:=⟨m - 1,by omega⟩
  have hrunc:(Builtin.clear_ #[T] ty #[.slice (some ⟨b,o,none⟩) (m'+1) cc]).run c.P w=.ok (.tuple #[]) W:=by
   simp [Builtin.clear_,run_underlying ht.u,z1,hzc,hst']
  simp [execOp,resolve,invoke,builtin,e1,hrunc]
 ·refine h.write id (es:=splice es o q2) (v:=.slice (some ⟨b,0,none⟩) es.length cap) (xs:=splice (cur.toList.take es.length) o us) hl hgrown ?_ ?_ ?_ hb.symm ?_ ?_ ?_ (fun k=>?_) (fun k=>FSt.wr_get _ _ _)
  ·rw [hsz];intro q hq;rcases YE hq with hq|hq
   ·exact hw q hq
   ·exact hd1 q hq
  ·intro f hf;obtain ⟨q,hq,hfq⟩:=List.mem_flatten.1 hf;rcases YE hq with hq|hq
   ·exact hone f (List.mem_flatten.2 ⟨q,hq,hfq⟩)
   ·have hff:f∈q2.flatten:=List.mem_flatten.2 ⟨q,hq,hfq⟩;rw [hqf] at hff;rw [List.eq_of_mem_replicate hff];exact h1
  ·rw [hsz];exact hrow'
  ·rw [UF hw hd1];exact hr.splice hr3 _
  ·rw [hes,hslen]
  ·intro b' cur1 cur2 hb' h1 h2;rw [hb] at hb';injection hb' with hb'
   subst hb';rw [hblk] at h1;injection h1 with h1
   injection h1 with h1 _ _
   subst h1;rw [hWb] at h2;injection h2 with h2
   injection h2 with h2 _ _
   rw [← h2];simp only [List.size_toArray];rw [yC za,hcl,hcs]
  ·rw [← hes,← hq2];exact FSt.ob_set s id _ k
theorem zmZ {T e by_:Nat} {kk:TK} {f0:FV} {x:Operand} {id ver o m E:Nat} {es:List (List FV)} {gd:Option (Nat×Bool)} (hT:(c.ty T).k=.slice e) (he:c.ty e=⟨kk,1,by_,[f0]⟩) (hk:kk.known=true) (h1:f0.one=true) (hx:(⟨t,ob⟩:FSt).ev x=.own id ver o m) (hb:(⟨t,ob⟩:FSt).ob id=⟨ver,.own,E,1,es⟩) (hm0:0<m) (hw:zT ops ⟨t,ob⟩ (⟨none,.call { callee:=.builtin .clear,args:=#[x],argTypes:=#[T] },ty,pos,af,gd⟩:Oper) true)
  (k:zn c ops rest ⟨t,((id,⟨ver,.own,E,1,splice es o (List.replicate m [f0])⟩)::ob)⟩ QS):zn c ops ((⟨none,.call { callee:=.builtin .clear,args:=#[x],argTypes:=#[T] },ty,pos,af,gd⟩:Oper)::rest) ⟨t,ob⟩ QS:=fun QQ w0 J a w β hQ hF=>by
 unfold wpList;rw [if_pos (hw.model hF)];refine .inl ?_;obtain ⟨W,h2,h3⟩:=ziI (ty:=ty) (pos:=pos) (af:=af) (g:=gd) (dst:=none) hF hT (fun e=>by rw [he] at e;dsimp only at e;rw [e] at hk;cases hk) (by rw [he]) (by rw [he]) h1 x hx (by rw [hb]) (by rw [hb]) (by rw [hb]) hm0;unfold Oper.wp;rw [h2,Oper.upon_value];rw [hb] at h3;exact k QQ w0 J _ W β hQ h3
theorem zbv {x:Operand} {i:Nat} {fs:List FV} {f:FV} {gd:Option (Nat×Bool)} (hx:(⟨t,ob⟩:FSt).ev x=.wrap .tup fs) (hf:fs[i]? = some f) (hnw:f.notWrap=true) (hd:Nat.blt d c.N=true) (hw:zT ops ⟨t,ob⟩ (⟨some d,.extract x i,ty,pos,af,gd⟩:Oper) true)
  (k:zn c ops rest ⟨((d,f)::t),ob⟩ QS):zn c ops ((⟨some d,.extract x i,ty,pos,af,gd⟩:Oper)::rest) ⟨t,ob⟩ QS:=fun QQ w0 J a w β hQ hF=>by
 unfold wpList;rw [if_pos (hw.model hF)];refine .inl ?_;have hv:=hF.ev x;rw [hx] at hv;obtain ⟨us,ev,hul,hur⟩:=hv;have ev' : a.eval x=.tuple us.toArray:=ev;have hi:i<fs.length:=(List.getElem?_eq_some_iff.1 hf).1;have hiu:i<us.length:=by rw [hul];exact hi
 have h1:=hur i us[i] f (by simp [hiu]) hf;have hrun:(execOp a.eval ⟨some d,.extract x i,ty,pos,af,gd⟩).run c.P w=.ok (.value us[i]) w:=by
  simp [execOp,Instr.extract,ev',hiu]
 have hver:∀ id ver,(id,ver)∈f.hands→ver≤((⟨t,ob⟩:FSt).ob id).ver:=fun id ver hm=>by
  refine hF.evers x (id:=id) (ver:=ver) ?_;rw [hx];refine List.mem_filterMap.2 ⟨f,List.mem_of_getElem? hf,?_⟩;cases f with
  | own|ptr|omap => rw [List.mem_singleton.1 hm]; rfl
  | wrap k fs => cases hnw
  | _ => exact (FV.no_hands rfl hm).elim
 exact yV.wp (f:=f) (wr:=[]) (yV.pure hF hrun (VR.of1 h1) hver) (fun d' e=>by injection e with e;subst e;exact Nat.le_of_ble_eq_true hd) fun a' w' β' hF'=>k QQ w0 J a' w' β' hQ hF'
end
section
variable {c:Ctx} {w0 w:World} {J:JJ} {s:FSt} {a:Act} {β:Nat→Option Nat} {dst:Option Nat} {ty:TypeId} {pos:String} {after:Array Edge} {g:Option (Nat×Bool)}
end
section
variable {c:Ctx} {ops:Array Oper} {rest:List Oper} {t:List (Nat×FV)} {ob:List (Nat×zq)} {d:Nat} {ty:TypeId} {pos:String} {af:Array Edge} {g:Option (Nat×Bool)} {Q:FSt→Prop}
end
def wOf (key v:Int) (o:OpV):Bool:=decide (o.k=1) && (decide (o.key=key) && decide (o.arg=v))
theorem Yu {key v:Int} {o:OpV}:wOf key v o=true↔o.k=1∧o.key=key∧o.arg=v:=by simp [wOf]
def okW (l:List OpV) (i:Nat):Prop:=(nth l i).k=0∨((nth l i).k=1∧(nth l i).arg≠0∧∀ j,j<i→wOf (nth l i).key (nth l i).arg (nth l j)=false)
instance (l:List OpV) (i:Nat):Decidable (okW l i):=by unfold okW;infer_instance
def Yi (l:List OpV):Prop:=∀ i,i<l.length→okW l i
instance (l:List OpV):Decidable (Yi l):=by unfold Yi;infer_instance
theorem Vv {a b c d:Int} (h:zeo a b=zeo c d):a=c∧b=d:=by
 unfold zeo at h;injection h with h
 injection h with h1 h
 injection h with h2 h
 injection h1 with _ h1
 injection h2 with _ h2
 exact ⟨h1,h2⟩
inductive Yy (s:FSt):FV→FV→Prop where
 | undef (f:FV):Yy s f .undef
 | plain {f:FV} (h:f.hand=none):Yy s f f
 | own {id ver o n sz:Nat} {es' : List (List FV)} (hl:s.live id ver) (hs:(s.ob id).life.slic=true) (hz:(s.ob id).sz=sz) (hn:es'.length=n) (hw:∀ e∈es',e.length=sz) (ho:∀ g∈es'.flatten,g.one=true)
   (hv:∀ (j:Nat) f g,(((s.ob id).es.drop o).take n).flatten[j]? = some f→es'.flatten[j]? = some g→Yy s f g):Yy s (.own id ver o n) (.list sz es')
 | ptr {id ver j o sz:Nat} {es' : List (List FV)} (hl:s.live id ver) (hs:(s.ob id).life.slic=true) (hz:(s.ob id).sz=sz) (hn:es'.length=(s.ob id).es.length) (hw:∀ e∈es',e.length=sz) (ho:∀ g∈es'.flatten,g.one=true)
   (hv:∀ (j:Nat) f g,(s.ob id).es.flatten[j]? = some f→es'.flatten[j]? = some g→Yy s f g):Yy s (.ptr id ver j o) (.eptr sz es' j o)
 | omap {id ver:Nat} {es:List (List FV)} (hl:s.live id ver) (hs:(s.ob id).life.slic=false) (hm:(s.ob id).life ≠ .hmap) (he:(s.ob id).es=es):Yy s (.omap id ver) (.smap es)
 | hmap {id ver:Nat} {es' : List (List FV)} (hl:s.live id ver) (hm:(s.ob id).life=.hmap) (hn:es'.length=(s.ob id).es.length) (hk:∀ (j:Nat) row row',(s.ob id).es[j]? = some row→es'[j]? = some row'→row'.head? = row.head?∧row'.length=2)
   (hv:∀ (j:Nat) row row' f g,(s.ob id).es[j]? = some row→es'[j]? = some row'→row[1]? = some f→row'[1]? = some g→Yy s f g):Yy s (.omap id ver) (.smap es')
section
variable {N:Nat} {w0 w:World} {J:JJ} {s:FSt} {a:Act} {β:Nat→Option Nat}
def zmi (J:JJ) (w:World) (b:Nat):Prop:=b<w.heap.size∧J b
theorem FR.still (h:FR N w0 J s a w β) {id b:Nat} (hl:(s.ob id).life≠.dead) (hb:β id=some b):zmi J w b:=by
 have hlt:=(h.obj id hl).lt hb;exact ⟨hlt.2,h.fresh b hlt.1 (.inr ⟨id,hl,hb⟩)⟩
theorem FR.cellsV (h:FR N w0 J s a w β) {id:Nat} (hl:(s.ob id).life≠.dead) (hs:(s.ob id).life.slic=true):(∀ e∈(s.ob id).es,e.length=(s.ob id).sz)∧
  ∃ v us,w.ownsRow w0.heap.size (s.ob id).E (s.ob id).sz v (s.ob id).es.length us∧v.ownBlock=β id∧us.length=(s.ob id).es.flatten.length∧∀ (j:Nat) u f,us[j]? = some u→(s.ob id).es.flatten[j]? = some f→VR w (Imm J w β s) β s u f:=by
 cases hr:(s.ob id).life.row with
 | true =>
  have hR:=(h.obj id hl).rowR hr;obtain ⟨v,us,r1,r2,r3⟩:=hR.row;exact ⟨hR.wide,v,us,r1,r2,r3.1,fun j u f hu hf=>VR.of_rd (r3.2 j u f hu hf) (by have:=hR.one f (List.mem_of_getElem? hf);cases f <;> first|rfl|(simp [FV.one] at this))⟩
 | false =>
  have hR:=(h.obj id hl).rowH hr hs;obtain ⟨v,us,r1,r2,r3,r4⟩:=hR.row;exact ⟨hR.wide,v,us,r1,r2,r3,r4⟩
theorem Yy.sound (h:FR N w0 J s a w β) {f g:FV} (hv:Yy s f g):∀ v,VR w (Imm J w β s) β s v f→Rd w (zmi J w) v g:=by
 induction hv with
 | undef f => exact fun v _ => .undef v
 | plain hn => exact fun v hv => (VR.rd hv hn).mono fun b hb => ⟨⟨hb.1, hb.2.1⟩, rfl⟩
 | @own id ver o n sz es' hl hs hz hn hw ho hv ih=>
  intro v hvr;have hO:Wv w (β id) (s.ob id) v o n:=hvr hl.1 hl.2;obtain ⟨A,cc,rfl,e2,e3,e4,e5⟩:=hO.ex;obtain ⟨c1,v',us,r1,r2,r3,r4⟩:=h.cellsV hl.1 hs;subst hz;have hwd:∀ e∈(s.ob id).es.drop o,e.length=(s.ob id).sz:=fun e he=>c1 e (List.mem_of_mem_drop he);have hfl:(((s.ob id).es.drop o).take n).flatten=((s.ob id).es.flatten.drop (o * (s.ob id).sz)).take (n * (s.ob id).sz):=by rw [Zm _ hwd,xI _ c1]
  have hel:=yw c1;have hel' : es'.flatten.length=n * (s.ob id).sz:=by rw [yw hw,hn]
  have hmul:o * (s.ob id).sz+n * (s.ob id).sz≤(s.ob id).es.length * (s.ob id).sz:=by rw [← Nat.add_mul];exact Nat.mul_le_mul_right _ e3
  cases hbi:β id with
  | none =>
   obtain ⟨rfl,rfl⟩:=e4 hbi;obtain rfl:n=0:=by omega
   obtain rfl:es'=[]:=List.length_eq_zero_iff.1 hn;exact .list none 0 0 _ _ [] zc (Nat.le_refl _) zc zc zc zc zc
  | some b=>
   obtain ⟨o',rfl,k2,k3⟩:=e5 b hbi;have hus:∀ (j:Nat) u,((us.drop (o * (s.ob id).sz)).take (n * (s.ob id).sz))[j]? = some u→us[o * (s.ob id).sz+j]? = some u:=fun j u hu=>by
    rw [List.getElem?_take] at hu;split at hu
    ·rwa [List.getElem?_drop] at hu
    ·cases hu
   refine .list _ n cc (s.ob id).sz _ ((us.drop (o * (s.ob id).sz)).take (n * (s.ob id).sz)) hn e2 hw ho (fun h0=>⟨b,o',rfl,h.still hl.1 hbi,fun j u hu=>?_⟩) ?_ fun j u g hu hg=>?_
   ·have:=k2 (.inl za);subst this;have hcell:=r1.cells (g:=b) (by rw [r2];exact hbi) _ u (hus j u hu);rwa [yP,Nat.zero_add] at hcell
   ·rw [List.length_take,List.length_drop,hel',r3,hel];omega
   ·have hj:j<n * (s.ob id).sz:=by rw [← hel'];exact (List.getElem?_eq_some_iff.1 hg).1
    have hf:(((s.ob id).es.drop o).take n).flatten[j]? = some ((s.ob id).es.flatten[o * (s.ob id).sz+j]'(by rw [hel];omega)):=by
     rw [hfl,List.getElem?_take,if_pos hj,List.getElem?_drop,List.getElem?_eq_getElem]
    exact ih j _ g hf hg u (r4 _ u _ (hus j u hu) (by rw [List.getElem?_eq_getElem]))
 | @ptr id ver i o sz es' hl hs hz hn hw ho hv ih=>
  intro v hvr;obtain ⟨_,b,hb,rfl⟩:(s.ob id).life.slic=true∧∃ b,β id=some b∧v=.pointer (some ⟨b,i * (s.ob id).sz+o,none⟩):=hvr hl.1 hl.2;obtain ⟨c1,v',us,r1,r2,r3,r4⟩:=h.cellsV hl.1 hs;subst hz;have hel:=yw c1;have hel' : es'.flatten.length=(s.ob id).es.flatten.length:=by rw [yw hw,hn,hel]
  have:=Rd.eptr (w:=w) (I:=zmi J w) b 0 (s.ob id).sz es' i o us (h.still hl.1 hb) hw ho (fun j u hu=>by
   have hcell:=r1.cells (g:=b) (by rw [r2];exact hb) _ u hu;rwa [yP] at hcell) (by rw [r3,hel']) fun j u g hu hg=>by
   have hj:j<(s.ob id).es.flatten.length:=by rw [← hel'];exact (List.getElem?_eq_some_iff.1 hg).1
   exact ih j _ g (List.getElem?_eq_getElem hj) hg u (r4 _ u _ hu (List.getElem?_eq_getElem hj))
  rwa [Nat.zero_add] at this
 | @omap id ver es hl hs hm he =>
  intro v hvr;subst he;obtain ⟨_,b,hb,rfl⟩:(s.ob id).life.slic=false∧∃ b,β id=some b∧v=.map (some b):=hvr hl.1 hl.2;obtain ⟨b',clock,ents,q1,q2,q3,q4,q5,q6,q7⟩:=((h.obj id hl.1).mapR hs hm).ex;rw [hb] at q1;injection q1 with q1
  subst q1;exact .smap b clock ents _ (h.still hl.1 hb) q3 q4 q5 q6 fun j e row f h1 h2 h3=>(q7 j e row f h1 h2 h3).mono fun b hb=>⟨⟨hb.1,hb.2.1⟩,rfl⟩
 | @hmap id ver es' hl hm hn hk hv ih=>
  intro v hvr;obtain ⟨_,b,hb,rfl⟩:(s.ob id).life.slic=false∧∃ b,β id=some b∧v=.map (some b):=hvr hl.1 hl.2;obtain ⟨b',clock,ents,q1,q2,q3,q4,q5,q6,q7⟩:=((h.obj id hl.1).mapH hm).ex;rw [hb] at q1;injection q1 with q1
  subst q1;have hrow:∀ (j:Nat) row',es'[j]? = some row'→∃ row,(s.ob id).es[j]? = some row:=fun j row' hr=>by
   have hj:j<(s.ob id).es.length:=by rw [← hn];exact (List.getElem?_eq_some_iff.1 hr).1
   exact ⟨_,List.getElem?_eq_getElem hj⟩
  refine .smap b clock ents _ (h.still hl.1 hb) q3 q4 (by rw [q5,hn]) (fun j e row' h1 h2=>?_) fun j e row' g h1 h2 h3=>?_
  ·obtain ⟨row,hr⟩:=hrow j row' h2;obtain ⟨kf,vf,rfl,k1,k2⟩:=q6 j e row h1 hr;obtain ⟨p1,p2⟩:=hk j _ row' hr h2
   match row',p1,p2 with
   | [x, y], p1, _ =>
    simp at p1;subst p1;exact ⟨x,y,rfl,k1,k2⟩
  ·obtain ⟨row,hr⟩:=hrow j row' h2;obtain ⟨kf,vf,rfl,k1,k2⟩:=q6 j e row h1 hr;exact ih j _ row' vf g hr h2 rfl h3 _ (q7 j e _ vf h1 hr rfl)
end
inductive zok (s:FSt):List (Nat×FV)→Prop where
 | nil:zok s []
 | cons {d:Nat} {f g:FV} {t' : List (Nat × FV)} (h:look .undef s.t d=f) (hv:Yy s f g) (hn:g.hand=none) (hs:zok s t'):zok s ((d, g) :: t')
theorem zok.get {s:FSt} {t' : List (Nat×FV)} (h:zok s t') (d:Nat):Yy s (look .undef s.t d) (look .undef t' d)∧(look .undef t' d).hand=none:=by
 induction h with
 | nil => exact ⟨.undef _, rfl⟩
 | @cons d0 f g t' h hv hn hs ih =>
  rw [zI];by_cases e:d0=d
  ·subst e;rw [if_pos rfl,h];exact ⟨hv,hn⟩
  ·rw [if_neg e];exact ih
theorem FLe.freeze {t t' : List (Nat×FV)} {ob:List (Nat×zq)} (hlow:zmD ob=true) (hc:zok ⟨t,ob⟩ t'):FLe ⟨t,ob⟩ ⟨t',[]⟩:=by
 intro N w0 J a w β hF;have hI:∀ b,zmi J w b→Imm J w (fun _=>none) ⟨t',[]⟩ b:=fun b hb=>⟨hb.1,hb.2,fun id hl=>by cases hl⟩
 have hv0:∀ id,zh≤id→((⟨t,ob⟩:FSt).ob id).ver=0:=fun id hid=>by
  show (look ({}:zq) ob id).ver=0;rw [Vx (fun p hp e=>?_)];have:=List.all_eq_true.1 hlow p hp;rw [e,Nat.ble_eq_true_of_le hid] at this;cases this
 refine ⟨fun _=>none,hF.size,hF.defers,hF.bel,hF.fresh0,fun d=>?_,fun d id ver hm=>?_,fun id hl=>absurd rfl hl,fun id id' b hl=>absurd rfl hl,fun b hb=>?_,fun v f hg=>?_⟩
 ·obtain ⟨h1,h2⟩:=hc.get d;exact VR.of_rd ((h1.sound hF _ (hF.slot d)).mono fun b hb=>⟨hI b hb,rfl⟩) h2
 ·exact (FV.no_hands (hc.get d).2 hm).elim
 ·obtain ⟨k1,k2,k3⟩:=hF.kept b hb;exact ⟨k1,fun id hl=>absurd rfl hl,k3⟩
 ·obtain ⟨g1,g2⟩:=hF.gh v f hg;refine ⟨g1.mono (fun b hb=>⟨hI b ⟨hb.1,hb.2.1⟩,rfl⟩) fun id ver hh hl=>absurd rfl hl,fun id ver hh=>?_⟩;obtain ⟨q1,q2⟩:=g2 id ver hh;rw [hv0 id q1] at q2;exact ⟨q1,q2⟩
inductive zci (s:FSt):List Operand→List FV→Prop where
 | nil:zci s [] []
 | cons {x:Operand} {xs:List Operand} {f g:FV} {gs:List FV} (h:s.ev x=f) (hv:Yy s f g) (hs:zci s xs gs):zci s (x :: xs) (g :: gs)
theorem zci.rd {N:Nat} {w0 w:World} {J:JJ} {s:FSt} {a:Act} {β:Nat→Option Nat} (hF:FR N w0 J s a w β) {xs:List Operand} {gs:List FV} (h:zci s xs gs):RdL w (fun b=>b<w.heap.size) (xs.map a.eval) gs:=by
 induction h with
 | nil => exact RdL.nil
 | @cons x xs f g gs h hv hs ih =>
  have:=hF.ev x;rw [h] at this;exact RdL.cons ((hv.sound hF _ this).mono fun b hb=>⟨hb.1,rfl⟩) ih
section
variable {c:Ctx} {ops:Array Oper} {rest:List Oper} {t:List (Nat×FV)} {ob:List (Nat×zq)} {d:Nat} {ty:TypeId} {pos:String} {af:Array Edge} {gd:Option (Nat×Bool)} {QS:FSt→Prop}
theorem zlD {f:Nat} {xs:List Operand} {ts:Array TypeId} {args:List FV} {res:FV} (hs:zX c.P f args .fr res) (hx:zci ⟨t,ob⟩ xs args) (hd:Nat.blt d c.N=true)
  (hw:zT ops ⟨t,ob⟩ ⟨some d,.call { callee:=.value (.func f),args:=xs.toArray,argTypes:=ts },ty,pos,af,gd⟩ true) (k:zn c ops rest ⟨(d,res)::t,ob⟩ QS) :
  zn c ops (⟨some d,.call { callee:=.value (.func f),args:=xs.toArray,argTypes:=ts },ty,pos,af,gd⟩::rest) ⟨t,ob⟩ QS:=fun QQ w0 J a w β hQ hF=>by
 unfold wpList;rw [if_pos (hw.model hF)];refine .inl ?_;have hr:=hx.rd hF;have hc:=hs.calls w (fun b=>b<w.heap.size) _ (fun b hb=>hb) hr;have hmap:(xs.map a.eval).toArray=xs.toArray.map a.eval:=by apply Array.ext';simp
 rw [hmap] at hc;unfold Oper.wp;have hrun:(execOp a.eval ⟨some d,.call { callee:=.value (.func f),args:=xs.toArray,argTypes:=ts },ty,pos,af,gd⟩).run c.P w=.ok (.enter f (xs.toArray.map a.eval)) w:=by
  have:=yn (P:=c.P) hs.go (xs.toArray.map a.eval) w;simp [execOp,resolve,Act.eval,Deferred.ofValue,invoke] at this ⊢;exact this
 rw [hrun,Oper.upon_enter];refine hc.mono ?_;rintro e w' ⟨v,rfl,hb,hr2⟩;have hG:=hF.grow hb;have hrd:Rd w' (Imm J w' β ⟨t,ob⟩) v res:=Rd.mono (fun b hb'=>⟨⟨hb'.2,hF.fresh b (Nat.le_trans hF.bel.size hb'.1) (.inl hb'.1),fun id hl e=>by
  have:=((hF.obj id (yf.mine_ne hl)).lt e).2;omega⟩,rfl⟩) hr2
 exact k QQ w0 J _ w' β hQ (hG.put (Nat.le_of_ble_eq_true hd) (VR.of_rd hrd hs.hand) (fun id ver e=>(FV.no_hands hs.hand e).elim))
end
theorem Vu:Maps.Keyed Try.prog 87:=Maps.Keyed.of_law (deep_law_laid znO (m:=2) za (of_decide_eq_true zj) zj zj)
theorem UV {a b:Int} (ha:I64 a) (hb:I64 b):Zy Try.prog 87 (zeo a b):=
 ⟨rfl,zkT (i:=3) (fs:=zne Try.prog 87) zj zj zj zj zj zj zj (Try.prog.types.size - 1) zj (zfn ha) (zfn hb)⟩
def zcg (l:List OpV) (i:Nat):List (List FV):=((List.range i).filter fun j=>decide ((nth l j).k=1)).map fun j=>[zeo (nth l j).key (nth l j).arg,.agg []]
theorem zjN (l:List OpV) (i:Nat):zcg l (i+1)=zcg l i++if (nth l i).k=1 then [[zeo (nth l i).key (nth l i).arg,.agg []]] else []:=by
 unfold zcg;rw [List.range_succ,List.filter_append,List.map_append];congr 1;by_cases h:(nth l i).k=1 <;> simp [h]
theorem zbI {l:List OpV} {i:Nat} (hi:i≤l.length) (hin:∀ o∈l,Ve o):∀ row∈zcg l i,∀ kf,row.head? = some kf→Zy Try.prog 87 kf:=fun row hr kf hk=>by
 obtain ⟨j,hj,rfl⟩:=List.mem_map.1 hr;have hj' : j<i:=by simpa using (List.mem_filter.1 hj).1
 have ho:=hin _ (zC (show j<l.length by omega));injection hk with hk
 subst hk;exact UV ho.2.2.1 ho.2.2.2.1
theorem zlX {l:List OpV} {i j:Nat} {a b:Int} (hj:j<i) (h:wOf a b (nth l j)=true):[zeo a b,.agg []]∈zcg l i:=by
 rw [Yu] at h;exact List.mem_map.2 ⟨j,List.mem_filter.2 ⟨by simpa using hj,by simpa using h.1⟩,by rw [h.2.1,h.2.2]⟩
theorem zc9 {l:List OpV} {i:Nat} {a b:Int} (h:∀ j,j<i→wOf a b (nth l j)=false):∀ row∈zcg l i,row.head?≠some (zeo a b):=fun row hr he=>by
 obtain ⟨j,hj,rfl⟩:=List.mem_map.1 hr;obtain ⟨h1,h2⟩:=List.mem_filter.1 hj;injection he with he
 obtain ⟨e1,e2⟩:=Vv he;have:=h j (by simpa using h1);rw [show wOf a b (nth l j)=true from Yu.2 ⟨by simpa using h2,e1,e2⟩] at this;cases this
def Zj (l:List OpV):Int:=if xv l≠0 then xv l else if Yi l then 0 else 22
theorem Ux (l:List OpV) (hl:l.length≤1000000000) (hin:∀ o∈l,Ve o):zX Try.prog 30 [.list 8 (l.map OpV.fv)] .fr (.int .i64 (Zj l)):=by
 have hck:=zgE l hin hl;obtain ⟨E,hE⟩:∃ E,Zj l=E:=⟨_,rfl⟩
 rw [hE];have hE1:xv l≠0→E=xv l:=fun h=>by rw [← hE];unfold Zj;rw [if_pos h]
 have hE2:xv l=0→Yi l→E=0:=fun h hd=>by rw [← hE];unfold Zj;rw [if_neg (by simpa using h),if_pos hd]
 have hE3:xv l=0→¬ Yi l→E=22:=fun h hd=>by rw [← hE];unfold Zj;rw [if_neg (by simpa using h),if_neg hd]
 generalize xv l=C at hck hE1 hE2 hE3;refine zX.of_body (c:=(xx Try.prog zE zt 53)) ⟨Try.func30,rfl,Try.ntmps30,by kernel_rfl⟩ zH zw rfl ?_;change FW _ _ _ ⟨[(0,.list 8 (l.map OpV.fv))],[]⟩;refine zb ?_;refine zS hck (by repeat (first|exact zu.nil|refine zu.cons zm ?_)) rfl rfl ?_;refine zb ?_;refine FW.cond rfl (fun h=>?_) (fun h=>?_)
 ·obtain rfl:=hE1 (by simpa using h);refine zb ?_;exact FW.ret ⟨.inl rfl,zF rfl rfl rfl rfl⟩
 have h0:C=0:=by simpa using h
 refine zb ?_;refine FW.loop (fun i:Nat=>⟨[(4,.omap 100 0),(16,.list 8 (l.map OpV.fv)),(17,.int .i64 l.length),(18,.int .i64 i)],[(100,⟨0,.mapo,85,0,zcg l i⟩)]⟩) (fun i=>i≤l.length∧∀ j,j<i→okW l j) (fun i=>l.length - i) 0 ⟨Nat.zero_le _,fun j hj=>absurd hj (Nat.not_lt_zero _)⟩
  (FLe.cv [⟨100,some 15,1,⟨0,.mapo,85,0,[]⟩⟩] zf zd) ?_
 rintro i ⟨hi,hok⟩;refine zb ?_;refine FW.cond rfl (fun h=>?_) (fun h=>?_)
 ·have hlt:i<l.length:=by simpa using h
  clear h;have step:okW l i→∀ j,j<i+1→okW l j:=fun h0 j hj=>by
   rcases Nat.lt_or_ge j i with h1|h1
   ·exact hok j h1
   ·have:j=i:=by omega
    subst this;exact h0
  have bad:¬ okW l i→¬ Yi l:=fun h0 hd=>h0 (hd i hlt);have ho:=hin _ (zC hlt);obtain ⟨o,hoe⟩:∃ o,nth l i=o:=⟨_,rfl⟩
  unfold okW at step bad;have hws:=zjN l i;rw [hoe] at step bad ho hws;refine zb ?_;rw [hoe];skip;by_cases hkn:∀ j,j<i→wOf o.key o.arg (nth l j)=false
  ·refine XO Vu (zbI hi hin) (UV ho.2.2.1 ho.2.2.2.1) (.inr ⟨rfl,rfl,zc9 hkn⟩) rfl rfl zg rfl rfl rfl rfl rfl rfl ?_;refine zb ?_;refine FW.cond rfl (fun h3=>?_) (fun h3=>?_)
   ·have h3:o.k=0:=by simpa using h3
    rw [if_neg za,List.append_nil] at hws;refine zb ?_;refine ⟨i+1,⟨by omega,step (.inl h3)⟩,by omega,?_⟩;rw [hws];exact (FLe.cv [⟨100,some 100,0,⟨0,.mapo,85,0,zcg l i⟩⟩] zf zd)
   have h3:o.k≠0:=by simpa using h3
   refine zb ?_;refine zP (fun h4=>?_) (fun h4=>?_)
   ·have h4:o.k≠1:=by simpa using h4
    obtain rfl:=hE3 h0 (bad (fun q=>by rcases q with q|q;exact h3 q;exact h4 q.1));refine zb ?_;exact FW.ret ⟨.inl rfl,zF rfl rfl rfl rfl⟩
   have h4:o.k=1:=by simpa using h4
   refine zb ?_;refine zP (fun h5=>?_) (fun h5=>?_)
   ·have h5:o.arg=0:=by simpa using h5
    obtain rfl:=hE3 h0 (bad (fun q=>by rcases q with q|q;exact h3 q;exact q.2.1 h5));refine zb ?_;exact FW.ret ⟨.inl rfl,zF rfl rfl rfl rfl⟩
   have h5:o.arg≠0:=by simpa using h5
   refine zb ?_;refine Ye Vu (zbI hi hin) (UV ho.2.2.1 ho.2.2.2.1) (.inr ⟨zc9 hkn,rfl⟩) rfl rfl rfl rfl rfl rfl rfl ?_;refine zb ?_;rw [if_pos h4] at hws;refine ⟨i+1,⟨by omega,step (.inr ⟨h4,h5,hkn⟩)⟩,by omega,?_⟩;rw [hws];exact (FLe.cv [⟨100,some 100,0,⟨0,.mapo,85,0,zcg l i++[[zeo o.key o.arg,.agg []]]⟩⟩] zf zd)
  ·have:∃ j,j<i∧wOf o.key o.arg (nth l j)=true:=by simpa using hkn
   obtain ⟨j,hj,hp⟩:=this;refine XO Vu (zbI hi hin) (UV ho.2.2.1 ho.2.2.2.1) (.inl ⟨rfl,zlX hj hp⟩) rfl rfl zg rfl rfl rfl rfl rfl rfl ?_;refine zb ?_;refine FW.cond rfl (fun h3=>?_) (fun h3=>?_)
   ·have h3:o.k=0:=by simpa using h3
    rw [if_neg za,List.append_nil] at hws;refine zb ?_;refine ⟨i+1,⟨by omega,step (.inl h3)⟩,by omega,?_⟩;rw [hws];exact (FLe.cv [⟨100,some 100,0,⟨0,.mapo,85,0,zcg l i⟩⟩] zf zd)
   have h3:o.k≠0:=by simpa using h3
   refine zb ?_;refine zP (fun h4=>?_) (fun h4=>?_)
   ·have h4:o.k≠1:=by simpa using h4
    obtain rfl:=hE3 h0 (bad (fun q=>by rcases q with q|q;exact h3 q;exact h4 q.1));refine zb ?_;exact FW.ret ⟨.inl rfl,zF rfl rfl rfl rfl⟩
   have h4:o.k=1:=by simpa using h4
   refine zb ?_;refine zP (fun h5=>?_) (fun h5=>?_)
   ·have h5:o.arg=0:=by simpa using h5
    obtain rfl:=hE3 h0 (bad (fun q=>by rcases q with q|q;exact h3 q;exact q.2.1 h5));refine zb ?_;exact FW.ret ⟨.inl rfl,zF rfl rfl rfl rfl⟩
   have h5:o.arg≠0:=by simpa using h5
   refine zb ?_;obtain rfl:=hE3 h0 (bad (fun q=>by rcases q with q|q;exact h3 q;exact hkn q.2.2));exact FW.ret ⟨.inl rfl,zF rfl rfl rfl rfl⟩
 ·have:i=l.length:=by simp at h;omega
  subst this;have hd:Yi l:=hok;obtain rfl:=hE2 h0 hd;refine zb ?_;exact FW.ret ⟨.inl rfl,zF rfl rfl rfl rfl⟩
def yp (i:Nat):List FV:=[.int .i64 (i:Int)]
end
def zmc (key v:Int) (o:OpV):Bool:=decide (o.k=0) && (o.done && (decide (o.key=key) && decide (o.res=v)))
def zK (l:List OpV) (i:Nat):Bool:=(nth l i).done || (decide ((nth l i).k=1) && l.any (zmc (nth l i).key (nth l i).arg))
theorem zge {α:Type} [Inhabited α] {l:List α} {f:α→Bool}:l.any f=true↔∃ i,i<l.length∧f (nth l i)=true:=by
 rw [List.any_eq_true];constructor
 ·rintro ⟨x,hx,h⟩;obtain ⟨i,hi,e⟩:=List.getElem_of_mem hx;exact ⟨i,hi,by rw [nth_eq hi,e];exact h⟩
 ·rintro ⟨i,hi,h⟩;exact ⟨_,zC hi,h⟩
section
variable {l:List OpV}
end
section
open Go.RowKit
def zot (l:List OpV) (j:Nat):Bool:=decide ((nth l j).k=1) && zK l j
def yG (l:List OpV) (i:Nat):List (List FV):=((List.range i).filter (zot l)).map fun j=>[zeo (nth l j).key (nth l j).arg,.int .i64 (j:Int)]
theorem zip (l:List OpV) (i:Nat):yG l (i+1)=yG l i++if zot l i=true then [[zeo (nth l i).key (nth l i).arg,.int .i64 (i:Int)]] else []:=by
 unfold yG;rw [List.range_succ,List.filter_append,List.map_append];congr 1;by_cases h:zot l i=true <;> simp [h]
theorem zax {l:List OpV} {i:Nat} (hi:i≤l.length) (hin:∀ o∈l,Ve o):∀ row∈yG l i,∀ kf,row.head? = some kf→Zy Try.prog 87 kf:=fun row hr kf hk=>by
 obtain ⟨j,hj,rfl⟩:=List.mem_map.1 hr;have hj' : j<i:=by simpa using (List.mem_filter.1 hj).1
 have ho:=hin _ (zC (show j<l.length by omega));injection hk with hk
 subst hk;exact UV ho.2.2.1 ho.2.2.2.1
theorem zkk {l:List OpV} {i j:Nat} {a b:Int} (hj:j<i) (h:wOf a b (nth l j)=true) (hc:zK l j=true):[zeo a b,.int .i64 (j:Int)]∈yG l i:=by
 rw [Yu] at h;exact List.mem_map.2 ⟨j,List.mem_filter.2 ⟨by simpa using hj,by unfold zot;rw [hc];simpa using h.1⟩,by rw [h.2.1,h.2.2]⟩
theorem zcm {l:List OpV} {i:Nat} {a b:Int} (h:∀ j,j<i→zK l j=true→wOf a b (nth l j)=false):∀ row∈yG l i,row.head?≠some (zeo a b):=fun row hr he=>by
 obtain ⟨j,hj,rfl⟩:=List.mem_map.1 hr;obtain ⟨h1,h2⟩:=List.mem_filter.1 hj;injection he with he
 obtain ⟨e1,e2⟩:=Vv he;unfold zot at h2;rw [Bool.and_eq_true] at h2;have:=h j (by simpa using h1) h2.2;rw [show wOf a b (nth l j)=true from Yu.2 ⟨by simpa using h2.1,e1,e2⟩] at this;cases this
def cIx (l:List OpV) (a b:Int):Option Nat:=(List.range l.length).find? fun j=>wOf a b (nth l j) && zK l j
theorem ZE {l:List OpV} {a b:Int} {w:Nat} (h:cIx l a b=some w):w<l.length∧wOf a b (nth l w)=true∧zK l w=true:=by
 have h1:=List.find?_some h;have h2:=List.mem_of_find?_eq_some h;rw [Bool.and_eq_true] at h1;exact ⟨by simpa using h2,h1.1,h1.2⟩
theorem zhp {l:List OpV} {a b:Int} (h:cIx l a b=none):∀ j,j<l.length→zK l j=true→wOf a b (nth l j)=false:=fun j hj hc=>by
 have:=List.find?_eq_none.1 h j (by simpa using hj);rw [hc] at this;simpa using this
theorem zk2 (l:List OpV) (a b:Int):Xw (yG l l.length) (zeo a b) (.int .i64 0) (.int .i64 ((cIx l a b).getD 0:Nat)) (cIx l a b).isSome:=by
 cases h:cIx l a b with
 | none => exact .inr ⟨rfl, rfl, zcm (zhp h)⟩
 | some w =>
  obtain ⟨h1,h2,h3⟩:=ZE h;exact .inl ⟨rfl,zkk h1 h2 h3⟩
def yR (l:List OpV) (i:Nat):Option Nat:=if (nth l i).k≠0∨(nth l i).res=0 then none else cIx l (nth l i).key (nth l i).res
def zjv (l:List OpV) (f1 f3:FV):FV:=.eptr 4 [[.list 8 (l.map OpV.fv),f1,.smap (yG l l.length),f3]] 0 0
def ziE (l:List OpV) (i:Nat):FV:=.tup [.int .i64 ((yR l i).getD 0:Nat),.bool (yR l i).isSome]
theorem zaT (l:List OpV) (f1 f3:FV) (h1:f1.one=true) (h3:f3.one=true) (i:Nat) (hi:i<l.length) (hl:l.length≤1000000000) (hin:∀ o∈l,Ve o):zX Try.prog 55 [zjv l f1 f3,.int .i64 i] .fr (ziE l i):=by
 have hn1:f1.hand=none:=by cases f1 <;> first|rfl|(simp [FV.one] at h1)
 have hn3:f3.hand=none:=by cases f3 <;> first|rfl|(simp [FV.one] at h3)
 obtain ⟨R,hR⟩:∃ R,ziE l i=R:=⟨_,rfl⟩
 have hRh:R.hand=none:=by rw [← hR];rfl
 rw [hR];unfold zjv;have ho:=hin _ (zC hi);have hlk:=zk2 l (nth l i).key (nth l i).res;unfold ziE yR at hR;obtain ⟨o,hoe⟩:∃ o,nth l i=o:=⟨_,rfl⟩
 rw [hoe] at ho hlk hR;refine zX.of_body (c:=(xx Try.prog zE zt 39)) ⟨Try.func55,rfl,Try.ntmps55,by kernel_rfl⟩ zH zw hRh ?_;change FW _ _ _ ⟨[(0,.eptr 4 [[.list 8 (l.map OpV.fv),f1,.smap (yG l l.length),f3]] 0 0),(1,.int .i64 i)],[]⟩;refine zb ?_;rw [hoe];refine zP (fun h4=>?_) (fun h4=>?_)
 ·have h4:o.k≠0:=by simpa using h4
  rw [if_pos (.inl h4)] at hR;subst hR;refine zb ?_;exact FW.ret ⟨.inl rfl,.flat (.cons (.tmp 4 rfl rfl) (.cons (.tmp 5 rfl rfl) .nil)) rfl rfl⟩
 have h4:o.k=0:=by simpa using h4
 refine zb ?_;refine FW.cond rfl (fun h5=>?_) (fun h5=>?_)
 ·have h5:o.res=0:=by simpa using h5
  rw [if_pos (.inr h5)] at hR;subst hR;refine zb ?_;exact FW.ret ⟨.inl rfl,.flat (.cons (.tmp 4 rfl rfl) (.cons (.tmp 5 rfl rfl) .nil)) rfl rfl⟩
 have h5:o.res≠0:=by simpa using h5
 rw [if_neg (by rintro (q|q);exact q h4;exact h5 q)] at hR;subst hR;generalize cIx l o.key o.res=C at hlk;refine zQ ?_;refine zlm (e:=3) Vu (zax (Nat.le_refl _) hin) (UV ho.2.2.1 ho.2.2.2.2.1) hlk rfl rfl rfl rfl rfl rfl rfl ?_;refine zp ?_;refine ⟨by kernel_rfl,?_⟩;refine zb ?_;exact FW.ret ⟨.inl rfl,.flat (.cons (.tmp 4 rfl rfl) (.cons (.tmp 5 rfl rfl) .nil)) rfl rfl⟩
end
end Go.Proofs.Ytmnmakhpjgjdaaa
