/-
  Some texts as one: FmAgt, FmSerO, LawSerialOwn.
-/
import Derived.Test.YtlnehfplfoikaaaZFmSerD
import Derived.Test.YtlnehfplfoikaaaZCycRef
import Derived.Test.YtlnehfplfoikaaaZFmTopoL
import Derived.Test.YtlnehfplfoikaaaZDA
import Derived.Test.YtlnehfplfoikaaaZFmSerH
namespace Go.Proofs.Ytlnehfplfoikaaa
set_option linter.unusedVariables false
set_option maxHeartbeats 16000000
open Go.RowKit
theorem VU {c:Ctx} {T:Nat} (hk:(c.ty T).k.agg? = some true) (w:World) (b:Nat) (us:List Value) (hl:us.length=(c.ty T).size) (hc:∀ (j:Nat) u,us[j]? = some u→w.cell? ⟨b,0+j,none⟩=some u) :
  (loadVar T ⟨b,0,none⟩).run c.P w=.ok (.agg us.toArray) w:=by
 have hs:=yi (zfy hk) w;have hlc:=run_loadCells_list (P:=c.P) (w:=w) ⟨b,0,none⟩ us (fun j v hv=>by rw [yM];exact hc j v hv);rw [hl] at hlc;simp [loadVar,Zt hk,hs,hlc]
theorem zaj {f:FV} (hw:f.notWrap=true) {id ver:Nat} (h:(id,ver)∈f.hands):f.hand=some (id,ver):=by
 cases f with
 | own|ptr|omap => have := List.mem_singleton.1 h; rw [this]; rfl
 | wrap => cases hw
 | _ => cases h
theorem zh9.agt {c:Ctx} {fn:Func} {t:List (Nat×FV)} {ob:List (Nat×zn)} {d T u id ver E n:Nat} {cs:List FV} {g:FV} (hr:fn.results.toList=[.cell d T,.tmp u]) (h:look .undef t d=.ptr id ver 0 0) (hb:look {} ob id=⟨ver,.hrow,E,n,[cs]⟩) (hT:(c.ty T).k.agg? = some true)
  (hz:(c.ty T).size=n) (hn:cs.length=n) (hg:look .undef t u=g) (hgn:g.hand=none) (hnw:cs.all FV.notWrap=true):zh9 c fn ⟨t,ob⟩ (.wrap (.agt n) (cs++[g])):=.run fun w0 J a w β hF=>by
 have hbo:(⟨t,ob⟩:FSt).ob id=⟨ver,.hrow,E,n,[cs]⟩:=hb;obtain ⟨_,b,hbb,hv⟩:=hF.ev_ptr (x:=.tmp d) h (by rw [hbo];exact fun e=>by cases e) (by rw [hbo]);obtain ⟨cur,cap,hblk,_,_,hcs,hl,hrow⟩:=hF.blockH (id:=id) (by rw [hbo]) hbb;rw [hbo] at hblk hcs hl hrow;dsimp only at hblk hcs hl hrow;simp only [List.length_cons,List.length_nil,Nat.zero_add,Nat.one_mul,List.flatten_cons,List.flatten_nil,List.append_nil] at hl hrow;obtain ⟨us,hus⟩:∃ us,cur.toList.take n=us:=⟨_,rfl⟩
 rw [hus] at hl hrow;have hld:=VU (c:=c) (T:=T) hT w b us (by rw [hz,hl,hn]) fun j u' hu=>by
  rw [Nat.zero_add,cell_of_row w b j cur E (0,0) hblk];rw [← hus,List.getElem?_take] at hu;split at hu
  ·simpa using hu
  ·cases hu
 have hra:fn.results=#[.cell d T,.tmp u]:=by apply Array.ext';simpa using hr
 have hgv:Rd w (Imm J w β ⟨t,ob⟩) (a.tmps.getD u undef) g:=hF.ev_rd (x:=.tmp u) hg hgn;have hdv:a.tmps[d]?.getD undef=.pointer (some ⟨b,0,none⟩):=by
  have h2:a.tmps.getD d undef=.pointer (some ⟨b,0 * ((⟨t,ob⟩:FSt).ob id).sz+0,none⟩):=hv;rw [Nat.zero_mul,Array.getD_eq_getD_getElem?] at h2;exact h2
 refine ⟨.tuple #[.agg us.toArray,a.tmps.getD u undef],?_,⟨us++[a.tmps.getD u undef],?_,by simp [hl],fun j x f hx hf=>?_⟩,fun id' ver' hm=>?_⟩
 ·unfold results;rw [hra];simp [hdv,asAddr,hld]
 ·have e:us.length=n:=by rw [hl,hn]
  simp [Wk.mk,← e]
 ·rcases Nat.lt_or_ge j us.length with hj|hj
  ·rw [List.getElem?_append_left hj] at hx;rw [List.getElem?_append_left zb] at hf;exact (hrow j x f hx hf).to1 fun k fs e=>by
    have:=List.all_eq_true.1 hnw f (List.mem_of_getElem? hf);subst e;cases this
  ·rw [List.getElem?_append_right hj] at hx;rw [List.getElem?_append_right zb] at hf;have hj0:j=us.length:=by
    have:=(List.getElem?_eq_some_iff.1 hx).1;simp at this;omega
   subst hj0;rw [Nat.sub_self] at hx;rw [hl,Nat.sub_self] at hf;injection hx with hx;injection hf with hf
   subst hx;subst hf;exact (VR.of_rd hgv hgn).to1 fun k fs e=>by subst e;cases hgn
 ·obtain ⟨q,hq,e⟩:=List.mem_filterMap.1 hm;rcases List.mem_append.1 hq with hq|hq
  ·have hH:=(hF.obj id (by rw [hbo];exact fun e=>by cases e)).rowH (by rw [hbo];rfl) (by rw [hbo];rfl);have:=hH.vers q (by rw [hbo];simpa using hq) id' ver' (FV.hand_hands (fun k fs e'=>by
    have:=List.all_eq_true.1 hnw q hq;subst e';cases this) e)
   exact this
  ·have:=List.mem_singleton.1 hq;subst this;rw [hgn] at e;cases e
section
variable {c:Ctx} {w0 w:World} {J:JJ} {s:FSt} {a:Act} {β:Nat→Option Nat} {dst:Option Nat} {ty:TypeId} {pos:String} {after:Array Edge} {g:Option (Nat×Bool)}
theorem zcQ (h:FR c.N w0 J s a w β) {T:Nat} (hk:(c.ty T).k.agg? = some true) (x:Operand) {id ver:Nat} (ex:s.ev x=.ptr id ver 0 0) (hlf:(s.ob id).life=.hrow) (hver:(s.ob id).ver=ver) {cs:List FV} (hes:(s.ob id).es=[cs]) (hz:(c.ty T).size=(s.ob id).sz) (hnw:cs.all FV.notWrap=true) :
  yL c w0 J s a ⟨dst,.load T x,ty,pos,after,g⟩ w (.wrap .agg cs) []:=by
 have hlive:(s.ob id).life≠.dead:=by rw [hlf];exact fun e=>by cases e
 obtain ⟨_,b,hb,hv⟩:=h.ev_ptr ex hlive hver;obtain ⟨cur,cap,hblk,hn,hm,hcs,hl,hr⟩:=h.blockH hlf hb;have hH:=(h.obj id hlive).rowH (by rw [hlf];rfl) (by rw [hlf];rfl);have hw:=hH.wide;have hvs:=hH.vers;rw [hes] at hl hr hw hvs;simp only [List.length_cons,List.length_nil,Nat.zero_add,Nat.one_mul,List.flatten_cons,List.flatten_nil,List.append_nil] at hl hr hvs;have hcl:cs.length=(s.ob id).sz:=hw cs zc;obtain ⟨us,hus⟩:∃ us,cur.toList.take (s.ob id).sz=us:=⟨_,rfl⟩
 rw [hus] at hl hr;have hld:=VU (c:=c) (T:=T) hk w b us (by rw [hz,hl,hcl]) fun j u' hu=>by
  rw [Nat.zero_add,cell_of_row w b j cur (s.ob id).E (0,0) hblk];rw [← hus,List.getElem?_take] at hu;split at hu
  ·simpa using hu
  ·cases hu
 rw [Nat.zero_mul] at hv;refine .pure h (v:=.agg us.toArray) ?_ ⟨us,rfl,hl,fun j u f hu hf=>(hr j u f hu hf).to1 fun k fs e=>?_⟩ fun id' ver' e=>?_
 ·simp [execOp,Instr.loadAt,hv,Instr.sureAddr,hld]
 ·have:=List.all_eq_true.1 hnw f (List.mem_of_getElem? hf);subst e;cases this
 ·obtain ⟨q,hq,e⟩:=List.mem_filterMap.1 e;exact hvs q hq id' ver' (FV.hand_hands (fun k fs e'=>by
   have:=List.all_eq_true.1 hnw q hq;subst e';cases this) e)
theorem zbD (h:FR c.N w0 J s a w β) {T:Nat} (hk:(c.ty T).k≠.other) (x y:Operand) {id ver:Nat} (ex:s.ev x=.ptr id ver 0 0) (hlf:(s.ob id).life=.hrow) (hver:(s.ob id).ver=ver) {cs fs:List FV} (hes:(s.ob id).es=[cs]) (ey:s.ev y=.wrap .agg fs) (hfl:fs.length=(s.ob id).sz)
  (hz:(c.ty T).size=(s.ob id).sz) (hnw:fs.all FV.notWrap=true) (hok:∀ f∈fs,Zx s f) :
  ∃ w',(execOp a.eval ⟨dst,.store T x y,ty,pos,after,g⟩).run c.P w=.ok .skip w'∧FR c.N w0 J (s.wr [(id,{ s.ob id with es:=[fs] })]) a w' β:=by
 have hlive:(s.ob id).life≠.dead:=by rw [hlf];exact fun e=>by cases e
 obtain ⟨_,b,hb,hvx⟩:=h.ev_ptr ex hlive hver;obtain ⟨cur,cap,hblk,hn,hm,hcs,hl,hr⟩:=h.blockH hlf hb;have hvr:=h.ev y;have hve:∀ id' ver',(id',ver')∈(s.ev y).hands→ver'≤(s.ob id').ver:=fun id' ver' e=>h.evers y e;rw [ey] at hvr hve;obtain ⟨us,he,hul,hu⟩:=hvr;have he' : a.eval y=.agg us.toArray:=he;have hvv:∀ f∈fs,∀ id' ver',(id',ver')∈f.hands→ver'≤(s.ob id').ver:=fun f hf id' ver' e=>hve id' ver' (List.mem_filterMap.2 ⟨f,hf,zaj (List.all_eq_true.1 hnw f hf) e⟩);have hc2:∀ v∈us,v.oneCell'=true:=fun v hvm=>by
  obtain ⟨j,hj,rfl⟩:=List.getElem_of_mem hvm;have hjf:fs[j]? = some fs[j]:=by simp [← hul,hj]
  exact (Zx.one (VR.of1 (hu j us[j] fs[j] (by simp [hj]) hjf)) (hok _ (List.mem_of_getElem? hjf))).2
 rw [Nat.zero_mul] at hvx;rw [hes] at hn;have hus:us.length=(s.ob id).sz:=hul.trans hfl;have hcap:us.length≤cur.toList.length:=by
  have:1 * (s.ob id).sz≤cap * (s.ob id).sz:=Nat.mul_le_mul_right _ hn;simp only [Array.length_toList];omega
 have hst:=run_storeCells_at c.P b 0 (s.ob id).E us 0 cur w hblk (by simpa using hcap) hc2;simp only [Nat.add_zero,Nat.zero_add,List.take_zero,List.nil_append] at hst;obtain ⟨W,hW⟩:∃ W,W=w.setRow b (us++cur.toList.drop us.length).toArray:=⟨_,rfl⟩
 rw [← hW] at hst;have hWb:W.heap[b]? = some (.cells (us++cur.toList.drop us.length).toArray (s.ob id).E (0,0)):=by rw [hW];exact yp w b _ cur _ hblk
 have hg:w.grownBy W (some b):=by
  subst hW;exact ⟨rfl,rfl,rfl,by simp [World.setRow],fun k hk hne=>yx w b k _ (fun e=>hne (by rw [e]))⟩
 have hlt:=(h.obj id hlive).lt hb;have hsame:(us++cur.toList.drop us.length).length=cur.size:=by
  rw [List.length_append,List.length_drop];simp only [Array.length_toList] at hcap ⊢;omega
 refine ⟨W,?_,?_⟩
 ·have hs:=yi (c:=c) hk w;have hvc:(Value.agg us.toArray).cells=us.toArray:=rfl;simp [execOp,Instr.storeAt,storeVar,hvx,he',Instr.sureAddr,hs,hz,hvc,hus,hst]
 ·have hob:∀ k,(s.wr [(id,{ s.ob id with es:=[fs] })]).ob k=if id=k then { s.ob id with es:=[fs] } else s.ob k:=fun k=>FSt.ob_set s id _ k
  have hI:∀ b',Imm J w β s b'→Imm J W β (s.wr [(id,{ s.ob id with es:=[fs] })]) b'∧W.heap[b']? = w.heap[b']?:=fun b' hbb=>by
   refine ⟨⟨Nat.lt_of_lt_of_le hbb.1 hg.size,hbb.2.1,fun id' hl'=>?_⟩,hg.block b' hbb.1 (fun e=>hbb.2.2 id (by rw [hlf];rfl) (by rw [hb];exact e.symm))⟩;rw [hob] at hl';split at hl'
   ·rename_i e;subst e;exact hbb.2.2 id (by rw [hlf];rfl)
   ·exact hbb.2.2 id' hl'
  refine h.step (C:=fun k=>k=id) h.size h.defers (h.bel.grown hg h.bel.size (fun k hk=>by injection hk with hk;subst hk;exact hlt.1)) hI (fun k=>.inl ⟨rfl,rfl⟩) (fun k hC=>?_) (fun k hC=>?_) (fun k hC hl2 hvv2=>?_) (fun k hC hl2 T'=>?_) ?_ (fun b' hlt' hn=>⟨hg.block b' hlt' (fun e=>hn id hlive (by rw [hb];exact e.symm)),fun k hl2=>hn k (by rw [hob] at hl2;split at hl2;(· rename_i e;subst e;exact hlive);(· exact hl2))⟩)
  ·refine ⟨by rw [hob,if_neg (fun e=>hC e.symm)],rfl,fun hl2 b' hbb=>hg.block b' ((h.obj k hl2).lt hbb).2 (fun e=>hC (h.inj k id b' hl2 hlive hbb (by rw [hb];exact e.symm)))⟩
  ·subst hC;rw [hob,if_pos rfl];exact Nat.le_refl _
  ·subst hC;refine ⟨hlive,rfl,by rw [hob,if_pos rfl],by rw [hob,if_pos rfl],fun v2 o n hv2=>?_⟩;rw [hob,if_pos rfl];obtain ⟨A,cc,q1,q2,q3,q4,q5⟩:=hv2.ex;refine ⟨hv2.row,A,cc,q1,q2,by rw [hes] at q3;exact q3,q4,fun b2 hbb=>?_⟩;obtain ⟨o',k1,k2,k3⟩:=q5 b2 hbb;refine ⟨o',k1,k2,fun cur' hc'=>?_⟩;rw [hb] at hbb;injection hbb with hbb
   subst hbb;dsimp only at hc';rw [hWb] at hc';injection hc' with hc'
   injection hc' with hc' _ _
   rw [← hc'];have:=k3 cur hblk;simp only [List.size_toArray];rw [hsame];exact this
  ·subst hC;rw [hob,if_pos rfl];have hvers:∀ id',(s.ob id').ver≤((s.wr [(k,{ s.ob k with es:=[fs] })]).ob id').ver:=fun id'=>by
    rw [hob];split
    ·rename_i e;subst e;exact Nat.le_refl _
    ·exact Nat.le_refl _
   refine .ofH ⟨fun e he=>?_,fun f' hf' id' ver' e=>?_,.slice (some ⟨b,0,none⟩) 1 cap,us,?_,by rw [hb];rfl,?_,fun i u f' hu1 hf'=>?_⟩ hlf
   ·rw [List.mem_singleton.1 he];exact hfl
   ·simp only [List.flatten_cons,List.flatten_nil,List.append_nil] at hf';exact Nat.le_trans (hvv f' hf' id' ver' e) (hvers id')
   ·refine ⟨by simp only [List.length_cons,List.length_nil,Nat.zero_add,Nat.one_mul];exact hus,.inr ⟨b,cap,_,rfl,hlt.1,hWb,hn,hm,by simp only [List.size_toArray];rw [hsame];exact hcs,?_⟩⟩;simp only [List.length_cons,List.length_nil,Nat.zero_add,Nat.one_mul];rw [← hus,List.take_left]
   ·simp only [List.flatten_cons,List.flatten_nil,List.append_nil];exact hul
   ·simp only [List.flatten_cons,List.flatten_nil,List.append_nil] at hf';exact T' _ _ (VR.of1 (hu i u f' hu1 hf')) (hvv f' (List.mem_of_getElem? hf'))
  ·intro k k' b' hl2 hl2' e e';refine h.inj k k' b' ?_ ?_ e e'
   ·rw [hob] at hl2;split at hl2
    ·rename_i e;subst e;exact hlive
    ·exact hl2
   ·rw [hob] at hl2';split at hl2'
    ·rename_i e;subst e;exact hlive
    ·exact hl2'
end
section
variable {c:Ctx} {ops:Array Oper} {rest:List Oper} {t:List (Nat×FV)} {ob:List (Nat×zn)} {d:Nat} {ty ty2:TypeId} {pos pos2:String} {af af2:Array Edge} {gd:Option (Nat×Bool)} {QS:FSt→Prop}
theorem VJ {x:Operand} {n:Nat} {fs:List FV} (hx:(⟨t,ob⟩:FSt).ev x=.wrap (.agt n) fs) (hn:Nat.ble n fs.length=true) (hd:Nat.blt d c.N=true) (hw:zM ops ⟨t,ob⟩ (⟨some d,.extract x 0,ty,pos,af,gd⟩:Oper) true)
  (k:zi c ops rest ⟨((d,.wrap .agg (fs.take n))::t),ob⟩ QS):zi c ops ((⟨some d,.extract x 0,ty,pos,af,gd⟩:Oper)::rest) ⟨t,ob⟩ QS:=
 zaM (wr:=[]) hd hw (fun w0 J a w β hF=>by
  have hv:=hF.ev x;rw [hx] at hv;obtain ⟨us,ev,hul,hur⟩:=hv;have ev' : a.eval x=.tuple (.agg (us.take n).toArray::us.drop n).toArray:=ev;refine .pure hF (v:=.agg (us.take n).toArray) ?_ ⟨us.take n,rfl,by simp [hul],fun j u f hu hf=>?_⟩ fun id ver hm=>?_
  ·simp [execOp,Instr.extract,ev']
  ·rw [List.getElem?_take] at hu hf;split at hu
   ·rw [if_pos (by assumption)] at hf;exact hur j u f hu hf
   ·cases hu
  ·obtain ⟨q,hq,e⟩:=List.mem_filterMap.1 hm;refine hF.evers x (id:=id) (ver:=ver) ?_;rw [hx];exact List.mem_filterMap.2 ⟨q,List.mem_of_mem_take hq,e⟩) k
theorem VK {x:Operand} {n:Nat} {fs:List FV} {f:FV} (hx:(⟨t,ob⟩:FSt).ev x=.wrap (.agt n) fs) (hf:fs[n]? = some f) (hfn:f.hand=none) (hd:Nat.blt d c.N=true) (hw:zM ops ⟨t,ob⟩ (⟨some d,.extract x 1,ty,pos,af,gd⟩:Oper) true)
  (k:zi c ops rest ⟨((d,f)::t),ob⟩ QS):zi c ops ((⟨some d,.extract x 1,ty,pos,af,gd⟩:Oper)::rest) ⟨t,ob⟩ QS:=
 zaM (wr:=[]) hd hw (fun w0 J a w β hF=>by
  have hv:=hF.ev x;rw [hx] at hv;obtain ⟨us,ev,hul,hur⟩:=hv;have ev' : a.eval x=.tuple (.agg (us.take n).toArray::us.drop n).toArray:=ev;have hnl:=(List.getElem?_eq_some_iff.1 hf).1;have hu:us[n]? = some us[n]:=by simp [hul,hnl]
  have h1:=hur n us[n] f hu hf;refine .pure hF (v:=us[n]) ?_ ?_ fun id ver hm=>(FV.no_hands hfn hm).elim
  ·have hd:us.drop n=us[n]::us.drop (n+1):=List.drop_eq_getElem_cons zb;rw [hd] at ev';simp [execOp,Instr.extract,ev',-List.getElem_cons_drop]
  ·exact VR.of1 h1) k
theorem Wo {T sz by_:Nat} {kk:TK} {z fs:List FV} {x:Operand} {v0 E0 sz0:Nat} {lf0:zX} {es0:List (List FV)} (hx:(⟨t,ob⟩:FSt).ev x=.wrap .agg fs) (hxd:zjc d x=true) (hT:c.ty T=⟨kk,sz,by_,z⟩) (hk:kk.known=true) (hwf:fs.all FV.notWrap=true) (hl:fs.length=sz) (hv:(⟨t,ob⟩:FSt).ob d=⟨v0,lf0,E0,sz0,es0⟩) (hd:Nat.blt d c.N=true)
  (hok:∀ f∈fs,Zx ⟨t,ob⟩ f)
  (k:zi c ops rest ⟨((d,(.ptr d (v0+1) 0 0))::t),((d,⟨v0+1,.hrow,T,sz,[fs]⟩)::ob)⟩ QS) :
  zi c ops ((⟨some d,.alloc T,ty,pos,af,none⟩:Oper)::(⟨none,.store T (.tmp d) x,ty2,pos2,af2,none⟩:Oper)::rest) ⟨t,ob⟩ QS:=fun QQ w0 J a w β hQ hF=>by
 have hkn:(c.ty T).k≠.other:=fun e=>by rw [hT] at e;dsimp only at e;rw [e] at hk;cases hk
 have hdN:d<c.N:=Nat.le_of_ble_eq_true hd;have hvr:=hF.ev x;have hvv:∀ id' ver',(id',ver')∈(FV.wrap .agg fs).hands→ver'≤((⟨t,ob⟩:FSt).ob id').ver:=fun id' ver' e=>hF.evers x (by rw [hx];exact e);rw [hx] at hvr;obtain ⟨us,he,hul,hu⟩:=hvr;have he' : a.eval x=.agg us.toArray:=he;have hN:=hF.newHs d T hul (fun j u f h1 h2=>VR.of1 (hu j u f h1 h2)) (fun f hf id ver hm=>hvv id ver (List.mem_filterMap.2 ⟨f,hf,zaj (List.all_eq_true.1 hwf f hf) hm⟩));have hc2:∀ v∈us,v.oneCell'=true:=fun v hvm=>by
  obtain ⟨j,hj,rfl⟩:=List.getElem_of_mem hvm;have hjf:fs[j]? = some fs[j]:=by simp [← hul,hj]
  exact (Zx.one (VR.of1 (hu j us[j] fs[j] (by simp [hj]) hjf)) (hok _ (List.mem_of_getElem? hjf))).2
 obtain ⟨zv,z1,_,z3⟩:=yw (c:=c) (T:=T) hkn w;have hall:(execOp a.eval ⟨some d,.alloc T,ty,pos,af,none⟩).run c.P w=.ok (.value (.pointer (some ⟨w.heap.size,0,none⟩))) (w.alloc (.cells zv.cells T)):=by
  simp [execOp,Instr.alloc,z1,newVar,newRow]
 unfold wpList;rw [if_pos (zM.model hF (show zM ops ⟨t,ob⟩ (⟨some d,.alloc T,ty,pos,af,none⟩:Oper) true from rfl))];refine .inl ?_;unfold Oper.wp;rw [hall,Oper.upon_value];have hcl:us.length=(c.ty T).size:=by rw [hT,hul];exact hl
 have hzs:zv.cells.size=(c.ty T).size:=z3;have hevx:(a.put (some d) (.pointer (some ⟨w.heap.size,0,none⟩))).eval x=.agg us.toArray:=by
  rw [← he'];cases x with
  | tmp i =>
   show (a.put (some d) _).tmps.getD i undef=a.tmps.getD i undef;rw [Xh a d _ i (by rw [hF.size];exact hdN)];rw [if_neg (fun e=>by subst e;simp [zjc] at hxd)]
  | _ => rfl
 have hevd:(a.put (some d) (.pointer (some ⟨w.heap.size,0,none⟩))).eval (.tmp d)=.pointer (some ⟨w.heap.size,0,none⟩):=by
  show (a.put (some d) _).tmps.getD d undef=_;rw [Xh a d _ d (by rw [hF.size];exact hdN),if_pos rfl]
 have hblk:(w.alloc (.cells zv.cells T)).heap[w.heap.size]? = some (.cells zv.cells T (0,0)):=by show (w.heap.push _)[w.heap.size]? = _;simp
 have hst:=run_storeCells_at c.P w.heap.size 0 T us 0 zv.cells (w.alloc (.cells zv.cells T)) hblk zb hc2;have hst' : (storeCells ⟨w.heap.size,0,none⟩ us).run c.P (w.alloc (.cells zv.cells T))=.ok () (w.alloc (.cells us.toArray T)):=by
  rw [← Wr w zv.cells us.toArray T];simp only [Nat.add_zero,Nat.zero_add] at hst;have hf2:(zv.cells.toList.take 0++us++zv.cells.toList.drop us.length).toArray=us.toArray:=by
   rw [List.take_zero,List.nil_append,List.drop_of_length_le zI,List.append_nil]
  rw [hf2] at hst;exact hst
 have hs:=yi (c:=c) hkn (w.alloc (.cells zv.cells T));have hstore:(execOp (a.put (some d) (.pointer (some ⟨w.heap.size,0,none⟩))).eval ⟨none,.store T (.tmp d) x,ty2,pos2,af2,none⟩).run c.P (w.alloc (.cells zv.cells T))=.ok .skip (w.alloc (.cells us.toArray T)):=by
  have hvc:(Value.agg us.toArray).cells=us.toArray:=rfl;simp [execOp,Instr.storeAt,storeVar,hevd,hevx,Instr.sureAddr,hs,hvc,hcl,hst']
 show wpList c.P ops QQ (_::rest) _ _;unfold wpList;rw [if_pos (by rfl)];refine .inl ?_;unfold Oper.wp;rw [hstore,Oper.upon_skip];rw [hv] at hN;rw [hl] at hN;refine k QQ w0 J _ _ _ hQ (hN.put hdN (fun _ _=>⟨?_,w.heap.size,zW _ _ _,by simp⟩) fun id ver e=>?_)
 ·show (FSt.ob (FSt.set _ d _) d).life.slic=true;rw [FSt.ob_set,if_pos rfl];rfl
 ·simp only [FV.hands,List.mem_singleton,Prod.mk.injEq] at e;obtain ⟨rfl,rfl⟩:=e;show _≤(FSt.ob (FSt.set _ _ _) _).ver;rw [FSt.ob_set,if_pos rfl];exact Nat.le_refl _
theorem VN {T id ver E sz by_:Nat} {kk:TK} {z cs:List FV} {x:Operand} (hx:(⟨t,ob⟩:FSt).ev x=.ptr id ver 0 0) (hT:c.ty T=⟨kk,sz,by_,z⟩) (hk:kk.agg? = some true) (hb:(⟨t,ob⟩:FSt).ob id=⟨ver,.hrow,E,sz,[cs]⟩) (hnw:cs.all FV.notWrap=true) (hd:Nat.blt d c.N=true) (hw:zM ops ⟨t,ob⟩ (⟨some d,.load T x,ty,pos,af,gd⟩:Oper) true)
  (k:zi c ops rest ⟨((d,.wrap .agg cs)::t),ob⟩ QS):zi c ops ((⟨some d,.load T x,ty,pos,af,gd⟩:Oper)::rest) ⟨t,ob⟩ QS:=
 zaM (wr:=[]) hd hw (fun w0 J a w β hF=>zcQ hF (by rw [hT];exact hk) x hx (by rw [hb]) (by rw [hb]) (by rw [hb]) (by rw [hb,hT]) hnw) k
theorem XW {T id ver E sz by_:Nat} {kk:TK} {z cs fs:List FV} {x y:Operand} (hx:(⟨t,ob⟩:FSt).ev x=.ptr id ver 0 0) (hy:(⟨t,ob⟩:FSt).ev y=.wrap .agg fs) (hT:c.ty T=⟨kk,sz,by_,z⟩) (hk:kk.known=true) (hb:(⟨t,ob⟩:FSt).ob id=⟨ver,.hrow,E,sz,[cs]⟩) (hl:fs.length=sz) (hnw:fs.all FV.notWrap=true) (hok:∀ f∈fs,Zx ⟨t,ob⟩ f)
  (hw:zM ops ⟨t,ob⟩ (⟨none,.store T x y,ty,pos,af,gd⟩:Oper) true) (k:zi c ops rest ⟨t,((id,⟨ver,.hrow,E,sz,[fs]⟩)::ob)⟩ QS):zi c ops ((⟨none,.store T x y,ty,pos,af,gd⟩:Oper)::rest) ⟨t,ob⟩ QS:=fun QQ w0 J a w β hQ hF=>by
 unfold wpList;rw [if_pos (hw.model hF)];refine .inl ?_;obtain ⟨W,h1,h2⟩:=zbD (dst:=none) (ty:=ty) (pos:=pos) (after:=af) (g:=gd) hF (fun e=>by rw [hT] at e;dsimp only at e;rw [e] at hk;cases hk) x y hx (by rw [hb]) (by rw [hb]) (by rw [hb]) hy (by rw [hb];exact hl) (by rw [hb,hT]) hnw hok;unfold Oper.wp;rw [h1,Oper.upon_skip];rw [hb] at h2;exact k QQ w0 J _ W β hQ h2
theorem Yx {QD:FSt→List Rec→Prop} {tr:List Rec} {T id ver j o E sz:Nat} {x y:Operand} {es:List (List FV)} {row:List FV} {f:FV} (hx:(⟨t,ob⟩:FSt).ev x=.ptr id ver j o) (hy:(⟨t,ob⟩:FSt).ev y=f) (h1f:f.one=true) (hk:(c.ty T).k.known=true) (hz:(c.ty T).size=1) (hb:(⟨t,ob⟩:FSt).ob id=⟨ver,.hrow,E,sz,es⟩) (hj:es[j]? = some row) (ho:Nat.blt o row.length=true)
  (hw:zM ops ⟨t,ob⟩ (⟨none,.store T x y,ty,pos,af,gd⟩:Oper) true) (k:zK c ops rest ⟨t,(id,⟨ver,.hrow,E,sz,es.set j (row.set o f)⟩)::ob⟩ (tr++[⟨(⟨none,.store T x y,ty,pos,af,gd⟩:Oper),.undef,[(id,⟨ver,.hrow,E,sz,es.set j (row.set o f)⟩)],yT ⟨t,ob⟩ 0 (.store T x y)⟩]) QD) :
  zK c ops ((⟨none,.store T x y,ty,pos,af,gd⟩:Oper)::rest) ⟨t,ob⟩ tr QD:=by
 refine zK.cons (f:=.undef) (wr:=[(id,⟨ver,.hrow,E,sz,es.set j (row.set o f)⟩)]) (d:=0) ⟨.inr ⟨rfl,.inl ⟨_,_,_,rfl⟩⟩,(fun _ e=>by cases e),.extN rfl (.inl ⟨_,_,_,rfl⟩) fun s' h1 h2 w0 J a w β dst ty pos after g hF=>?_⟩ hw rfl rfl k;have e1:=(h1 x zh).trans hx;have e2:=(h1 y zh).trans hy;have m1:id∈yT ⟨t,ob⟩ 0 (.store T x y):=Xg (x:=x) rfl zh (ver:=ver) (by rw [hx];rfl);have e3:=(h2 id m1).trans hb;have:=ZV (dst:=dst) (ty:=ty) (pos:=pos) (after:=after) (g:=g) hF (TK.known_ne hk) hz x y e1 (by rw [e3]) (by rw [e3]) e2 (.inl h1f) (by rw [e3];exact hj) (Nat.le_of_ble_eq_true ho);rw [e3] at this;exact this
end
def zjB (o:Nat→zn) (k a b:Int) (res:FV):Prop:=
 (∃ (n:Nat) (xs:List Int),res=.wrap (.agt 5) [.int .i64 k,.int .i64 a,.int .i64 b,.own 4000 1 0 n,.nil,.int .i64 0]∧o 4000=⟨1,.own,3,1,xs.map zj⟩∧n≤xs.length∧xs.length≤1000)∨
 ∃ ys:List EdV,res=.wrap (.agt 5) [.int .i64 k,.int .i64 a,.int .i64 b,.nil,.own 4000 1 0 ys.length,.int .i64 0]∧o 4000=⟨1,.own,28,3,ys.map EdV.fv⟩∧ys.length≤1000
theorem XF {s:FSt} {k a b:Int} {id ver n:Nat} (h:s.live id ver):∀ f∈[FV.int .i64 k,.int .i64 a,.int .i64 b,.own id ver 0 n,.nil],Zx s f:=fun f hf=>by
 simp only [List.mem_cons,List.not_mem_nil,or_false] at hf;rcases hf with rfl|rfl|rfl|rfl|rfl
 ·exact .inl rfl
 ·exact .inl rfl
 ·exact .inl rfl
 ·exact .inr (.inl ⟨_,_,_,_,rfl,h⟩)
 ·exact .inl rfl
theorem za9 {s:FSt} {k a b:Int} {id ver n:Nat} (h:s.live id ver):∀ f∈[FV.int .i64 k,.int .i64 a,.int .i64 b,.nil,.own id ver 0 n],Zx s f:=fun f hf=>by
 simp only [List.mem_cons,List.not_mem_nil,or_false] at hf;rcases hf with rfl|rfl|rfl|rfl|rfl
 ·exact .inl rfl
 ·exact .inl rfl
 ·exact .inl rfl
 ·exact .inl rfl
 ·exact .inr (.inl ⟨_,_,_,_,rfl,h⟩)
theorem zci (l:List OpV) (s:Bool) (hl:l.length≤12) (hin:∀ o∈l,zgU o) (hdd:xB l=true):yI Try.prog 6 [.list 8 (l.map OpV.fv),.bool s] [] [4000] (fun res o=>∃ k a b,zjB o k a b res):=by
 have hwr:=Xu l zb hin;obtain ⟨R,hR⟩:∃ R,Wz l s=R:=⟨_,rfl⟩
 refine yI.of_body (c:=(xa Try.prog zD zq 121)) ⟨Try.func6,rfl,Try.ntmps6,by kernel_rfl⟩ zp ?_ ?_
 ·rintro res o ⟨k,a,b,⟨n,xs,rfl,h,_⟩|⟨ys,rfl,h,_⟩⟩
  ·exact ⟨(fun k hk=>by cases hk),(fun k hk=>by obtain rfl:=List.mem_singleton.1 hk;rw [h];exact ⟨Nat.zero_lt_one,fun _=>rfl⟩),(fun k hk=>by obtain rfl:=List.mem_singleton.1 hk;rw [h];rfl),rfl⟩
  ·exact ⟨(fun k hk=>by cases hk),(fun k hk=>by obtain rfl:=List.mem_singleton.1 hk;rw [h];exact ⟨Nat.zero_lt_one,fun _=>rfl⟩),(fun k hk=>by obtain rfl:=List.mem_singleton.1 hk;rw [h];rfl),rfl⟩
 change FW _ _ _ ⟨[(0,.list 8 (l.map OpV.fv)),(1,.bool s)],[]⟩;refine za ?_;refine yg hwr (by repeat (first|exact zx.nil|refine zx.cons zt ?_)) rfl rfl ?_;refine za ?_;cases hd:xB l with
 | false => rw [hd] at hdd; cases hdd
 | true=>
  have hRf:zcj l s=R:=by rw [← hR];unfold Wz;rw [if_pos hd]
  rw [show wM l true=.smap (Zd l l.length) from rfl];have hDm:=Xc.1 hd;have hwk:=Wc (l:=l) (i:=l.length) (Nat.le_refl _) hin;have hlk:=zcV l l.length;have hiw:=fun a b=>zcm (l:=l) (a:=a) (b:=b);generalize Zd l l.length=W at hwk hlk;obtain ⟨n,hn⟩:∃ n,l.length=n:=⟨_,rfl⟩
  have hstep:=fun i (hi:i<l.length)=>Ua (l:=l) hi;rw [hn] at hl hlk hiw hstep;refine za ?_;refine FW.join (fun _:Unit=>⟨[(1,.bool s),(2,.ptr 101 0 0 0),(4,.ptr 102 0 0 0),(6,.smap W),(8,.ptr 103 0 0 0)],[(101,⟨0,.own,23,1,[[.list 8 (l.map OpV.fv)]]⟩),(102,⟨0,.own,32,5,[[.int .i64 0,.int .i64 0,.int .i64 0,.nil,.nil]]⟩),(103,⟨0,.own,32,5,[[.int .i64 (cOf s),.int .i64 0,.int .i64 0,.nil,.nil]]⟩)]⟩) (fun _=>True) ?_ (fun _ _=>?_)
  ·refine FW.cond rfl (fun h=>?_) (fun h=>?_)
   ·subst h;refine za ?_;exact ⟨rfl,(),trivial,(FLe.cv [⟨101,some 2,0+1,⟨0,.own,23,1,[[.list 8 (l.map OpV.fv)]]⟩⟩,⟨102,some 4,0+1,⟨0,.own,32,5,[[.int .i64 0,.int .i64 0,.int .i64 0,.nil,.nil]]⟩⟩,⟨103,some 8,0+1,⟨0,.own,32,5,[[.int .i64 (cOf true),.int .i64 0,.int .i64 0,.nil,.nil]]⟩⟩] zf zd)⟩
   ·subst h;refine za ?_;exact ⟨rfl,(),trivial,(FLe.cv [⟨101,some 2,0+1,⟨0,.own,23,1,[[.list 8 (l.map OpV.fv)]]⟩⟩,⟨102,some 4,0+1,⟨0,.own,32,5,[[.int .i64 0,.int .i64 0,.int .i64 0,.nil,.nil]]⟩⟩,⟨103,some 8,0+1,⟨0,.own,32,5,[[.int .i64 (cOf false),.int .i64 0,.int .i64 0,.nil,.nil]]⟩⟩] zf zd)⟩
  refine za ?_;rw [hn];refine FW.loop (fun i:Nat=>⟨[(1,.bool s),(2,.ptr 101 0 0 0),(4,.ptr 102 0 0 0),(6,.smap W),(8,.ptr 103 0 0 0),(31,.list 8 (l.map OpV.fv)),(32,.int .i64 n),(33,.int .i64 i)],[(101,⟨0,.own,23,1,[[.list 8 (l.map OpV.fv)]]⟩),(102,⟨0,.own,32,5,[[.int .i64 0,.int .i64 0,.int .i64 0,.nil,.nil]]⟩),(103,⟨0,.own,32,5,[[.int .i64 (cOf s),.int .i64 0,.int .i64 0,.nil,.nil]]⟩)]⟩) (fun i=>i≤n∧ZM (XZ l) (n - i) i=Zb l) (fun i=>n - i) 0 ⟨Nat.zero_le _,by unfold Zb;rw [hn,Nat.sub_zero]⟩ ?_ ?_
  ·show FLe _ ⟨[(1,.bool s),(2,.ptr 101 0 0 0),(4,.ptr 102 0 0 0),(6,.smap W),(8,.ptr 103 0 0 0),(31,.list 8 (l.map OpV.fv)),(32,.int .i64 n),(33,.int .i64 0)],[(101,⟨0,.own,23,1,[[.list 8 (l.map OpV.fv)]]⟩),(102,⟨0,.own,32,5,[[.int .i64 0,.int .i64 0,.int .i64 0,.nil,.nil]]⟩),(103,⟨0,.own,32,5,[[.int .i64 (cOf s),.int .i64 0,.int .i64 0,.nil,.nil]]⟩)]⟩;exact (FLe.cv [⟨101,some 101,0,⟨0,.own,23,1,[[.list 8 (l.map OpV.fv)]]⟩⟩,⟨102,some 102,0,⟨0,.own,32,5,[[.int .i64 0,.int .i64 0,.int .i64 0,.nil,.nil]]⟩⟩,⟨103,some 103,0,⟨0,.own,32,5,[[.int .i64 (cOf s),.int .i64 0,.int .i64 0,.nil,.nil]]⟩⟩] zf zd)
  rintro i ⟨hi,hth⟩;refine za ?_;refine FW.cond rfl (fun hc=>?_) (fun hc=>?_)
  ·have hlt:i<n:=by simpa using hc
   clear hc;have hlt2:i<l.length:=by omega
   have ho:=hin _ (zL hlt2);rw [hstep i hlt] at hth;have hkd:=hDm.kind i hlt2;have hkf:=zf6 ho.2.2.1 ho.2.2.2.2.1;have htb:XZ l i=(zS (nth l i) && decide ((nth l i).res≠0) && !(zaW l n (nth l i).key (nth l i).res).isSome):=by unfold XZ;rw [hiw]
   have hlk:=hlk (nth l i).key (nth l i).res;obtain ⟨o,hoo⟩:∃ o,nth l i=o:=⟨_,rfl⟩
   rw [hoo] at hkd hkf htb hlk;have hic:zS o=o.done:=by unfold zS;rcases hkd with e|e <;> simp [e]
   rw [hic] at htb;refine za ?_;rw [hoo];skip;refine zca (e:=3) zbI hwk hkf hlk rfl rfl rfl rfl rfl rfl rfl ?_;refine za ?_;cases hdn:o.done with
   | false =>
    rw [hdn,Bool.false_and,Bool.false_and] at htb;rw [htb,if_neg zg] at hth;refine za ?_;exact ⟨i+1,⟨by omega,hth⟩,by omega,(FLe.cv [⟨101,some 101,0,⟨0,.own,23,1,[[.list 8 (l.map OpV.fv)]]⟩⟩,⟨102,some 102,0,⟨0,.own,32,5,[[.int .i64 0,.int .i64 0,.int .i64 0,.nil,.nil]]⟩⟩,⟨103,some 103,0,⟨0,.own,32,5,[[.int .i64 (cOf s),.int .i64 0,.int .i64 0,.nil,.nil]]⟩⟩] zf zd)⟩
   | true=>
    rw [hdn,Bool.true_and] at htb;refine za ?_;refine zJ (fun h1=>?_) (fun h1=>?_)
    ·have h1' : o.res≠0:=by simpa using h1
     rw [decide_eq_true h1',Bool.true_and] at htb;refine za ?_;cases hws:(zaW l n o.key o.res).isSome with
     | true =>
      rw [hws] at htb;rw [htb,if_neg zg] at hth;refine za ?_;exact ⟨i+1,⟨by omega,hth⟩,by omega,(FLe.cv [⟨101,some 101,0,⟨0,.own,23,1,[[.list 8 (l.map OpV.fv)]]⟩⟩,⟨102,some 102,0,⟨0,.own,32,5,[[.int .i64 0,.int .i64 0,.int .i64 0,.nil,.nil]]⟩⟩,⟨103,some 103,0,⟨0,.own,32,5,[[.int .i64 (cOf s),.int .i64 0,.int .i64 0,.nil,.nil]]⟩⟩] zf zd)⟩
     | false =>
      rw [hws] at htb;rw [htb,if_pos zg] at hth;have hRR:R=⟨cOf s,2,o.key,[(i:Int)],[]⟩:=by rw [← hRf];unfold zcj;rw [← hth];dsimp only;rw [hoo]
      subst hRR;refine FW.le ?_ (FLe.toH (i:=103) rfl);refine FW.le ?_ (FLe.toH (i:=102) rfl)
      (repeat (first|refine FW.seq ?_|refine FW.condT rfl ?_|refine FW.draw ?_|refine xE rfl rfl rfl rfl rfl (by simp;done) rfl rfl rfl rfl rfl ?_|refine Zh rfl rfl rfl ?_|refine Zp rfl rfl rfl rfl rfl rfl zg rfl rfl ?_))
      refine Zo rfl rfl rfl rfl rfl rfl rfl rfl ?_;refine zw ?_;refine Yx rfl rfl rfl rfl rfl rfl rfl rfl rfl ?_;refine zw ?_;refine Yx rfl rfl rfl rfl rfl rfl rfl rfl rfl ?_;refine zw ?_;refine Yw (d:=0) rfl rfl ⟨_,_,_,rfl⟩ (zN rfl zg) (fun i v n e=>by injection e with e1 e2 e3 e4;subst e1;subst e2;exact zN rfl zg) rfl rfl rfl rfl (by show 3<5;decide) rfl rfl ?_;refine zw ?_;refine ⟨by kernel_rfl,?_⟩;refine za ?_;refine VN rfl rfl rfl rfl rfl rfl rfl ?_;refine XW rfl rfl rfl rfl rfl rfl rfl (XF (zN rfl zg)) rfl ?_;refine za ?_;refine FW.le (s':=⟨[(4,.ptr 102 0 0 0),(5,.int .i64 0)],[(4000,⟨1,.own,3,1,[(i:Int)].map zj⟩),(102,⟨0,.hrow,32,5,[[.int .i64 (cOf s),.int .i64 2,.int .i64 o.key,.own 4000 1 0 1,.nil]]⟩)]⟩) ?_ (FLe.cv [⟨4000,some 62,0+1,⟨1,.own,3,1,[(i:Int)].map zj⟩⟩,⟨102,some 102,0,⟨0,.hrow,32,5,[[.int .i64 (cOf s),.int .i64 2,.int .i64 o.key,.own 4000 1 0 1,.nil]]⟩⟩] zf zd);exact FW.ret ⟨.inl rfl,_,.agt rfl rfl rfl rfl rfl rfl rfl rfl rfl,_,_,_,.inl ⟨1,[(i:Int)],rfl,rfl,by simp,by simp⟩⟩
    ·have h1' : ¬ o.res≠0:=by simpa using h1
     rw [decide_eq_false h1',Bool.false_and] at htb;rw [htb,if_neg zg] at hth;refine za ?_;exact ⟨i+1,⟨by omega,hth⟩,by omega,(FLe.cv [⟨101,some 101,0,⟨0,.own,23,1,[[.list 8 (l.map OpV.fv)]]⟩⟩,⟨102,some 102,0,⟨0,.own,32,5,[[.int .i64 0,.int .i64 0,.int .i64 0,.nil,.nil]]⟩⟩,⟨103,some 103,0,⟨0,.own,32,5,[[.int .i64 (cOf s),.int .i64 0,.int .i64 0,.nil,.nil]]⟩⟩] zf zd)⟩
  ·obtain rfl:i=n:=by simp at hc;omega
   clear hc hstep hlk hwk hiw hi;obtain ⟨n,hni⟩:∃ n,n=i:=⟨_,rfl⟩
   rw [← hni] at hl hn hth ⊢;rw [Nat.sub_self] at hth;have hth:Zb l=none:=hth.symm;have hes:=(XH l s zb).sh_of_ow;have hel:=Yr l s l.length;have hin2:=zbQ l s;obtain ⟨X,hX⟩:∃ X,yb l s=X:=⟨_,rfl⟩
   have hXl:X.length≤576:=by
    rw [← hX];refine Nat.le_trans hel ?_;exact Nat.le_trans (Nat.mul_le_mul (Nat.mul_le_mul (Nat.le_refl 4) (by omega:l.length≤12)) (by omega:l.length≤12)) zg
   have hcy:=fun h=>zbf l s zb h;have hpl:(prs X).length=X.length:=by unfold prs;rw [List.length_map]
   have hcr:ym l s=yO (prs X) n:=by unfold ym;rw [hX,hn]
   have hor:Xm l s=(yq n (prs X)).filter fun x=>zS (nth l x.toNat):=by unfold Xm;rw [hX,hn]
   rw [hX] at hes hin2 hcy;rw [hn] at hin2;have hC:=We n (prs X) zb zb hin2;rw [← hcr] at hC;clear hel;refine za ?_;refine yg hes (by repeat (first|exact zx.nil|refine zx.cons zt ?_)) rfl rfl ?_;refine za ?_;refine FW.loop (fun k:Nat=>⟨[(2,.ptr 101 0 0 0),(4,.ptr 102 0 0 0),(8,.ptr 103 0 0 0),(13,.list 3 (X.map EdV.fv)),(14,.own 104 0 0 k),(72,.list 3 (X.map EdV.fv)),(73,.int .i64 X.length),(74,.int .i64 k)],[(101,⟨0,.own,23,1,[[.list 8 (l.map OpV.fv)]]⟩),(102,⟨0,.own,32,5,[[.int .i64 0,.int .i64 0,.int .i64 0,.nil,.nil]]⟩),(103,⟨0,.own,32,5,[[.int .i64 (cOf s),.int .i64 0,.int .i64 0,.nil,.nil]]⟩),(104,⟨0,.own,56,2,((prs X).take k).map edf⟩)]⟩) (fun k=>k≤X.length) (fun k=>X.length - k) 0 (Nat.zero_le _) ?_ ?_
   ·show FLe _ ⟨[(2,.ptr 101 0 0 0),(4,.ptr 102 0 0 0),(8,.ptr 103 0 0 0),(13,.list 3 (X.map EdV.fv)),(14,.own 104 0 0 0),(72,.list 3 (X.map EdV.fv)),(73,.int .i64 X.length),(74,.int .i64 0)],[(101,⟨0,.own,23,1,[[.list 8 (l.map OpV.fv)]]⟩),(102,⟨0,.own,32,5,[[.int .i64 0,.int .i64 0,.int .i64 0,.nil,.nil]]⟩),(103,⟨0,.own,32,5,[[.int .i64 (cOf s),.int .i64 0,.int .i64 0,.nil,.nil]]⟩),(104,⟨0,.own,56,2,[]⟩)]⟩;exact (FLe.cv [⟨101,some 101,0,⟨0,.own,23,1,[[.list 8 (l.map OpV.fv)]]⟩⟩,⟨102,some 102,0,⟨0,.own,32,5,[[.int .i64 0,.int .i64 0,.int .i64 0,.nil,.nil]]⟩⟩,⟨103,some 103,0,⟨0,.own,32,5,[[.int .i64 (cOf s),.int .i64 0,.int .i64 0,.nil,.nil]]⟩⟩,⟨104,none,0,⟨0,.own,56,2,[]⟩⟩] zf zd)
   intro k hk;have hkl:((prs X).take k).length=k:=by rw [List.length_take];omega
   have hks:∀ h:k<X.length,(prs X).take (k+1)=(prs X).take k++[((nth X k).1,(nth X k).2.1)]:=fun h=>by
    rw [List.take_succ_eq_append_getElem zb];congr 2;rw [nth_eq h];simp [prs]
   have hlast:k=X.length→(prs X).take k=prs X:=fun e=>by rw [e,← hpl,List.take_length]
   generalize (prs X).take k=Z at hkl hks hlast;subst hkl;refine za ?_;refine FW.cond rfl (fun hc=>?_) (fun hc=>?_)
   ·have hlt:Z.length<X.length:=by simpa using hc
    clear hc hlast;have hks:=hks hlt;obtain ⟨⟨a,b,w⟩,he⟩:∃ e,nth X Z.length=e:=⟨_,rfl⟩
    rw [he] at hks;refine za ?_;rw [he];skip;refine ⟨Z.length+1,by omega,by omega,?_⟩;rw [hks,List.map_append];exact (FLe.cv [⟨101,some 101,0,⟨0,.own,23,1,[[.list 8 (l.map OpV.fv)]]⟩⟩,⟨102,some 102,0,⟨0,.own,32,5,[[.int .i64 0,.int .i64 0,.int .i64 0,.nil,.nil]]⟩⟩,⟨103,some 103,0,⟨0,.own,32,5,[[.int .i64 (cOf s),.int .i64 0,.int .i64 0,.nil,.nil]]⟩⟩,⟨104,some 85,0+1,⟨0,.own,56,2,Z.map edf++[(a,b)].map edf⟩⟩] zf zd)
   ·have hZ:=hlast (by simp at hc;omega);subst hZ;clear hc hlast hks hk;refine za ?_;rw [hn];refine zi.le ?_ (FLe.share 14 rfl rfl zc);skip;refine yg hC yN rfl rfl ?_;refine za ?_;cases hcc:ym l s with
    | nil=>
     have hRR:R=⟨cOf s,0,0,Xm l s,[]⟩:=by rw [← hRf];unfold zcj;rw [hth];dsimp only;rw [if_pos hcc]
     rw [show zij (([]:List Int).map zj)=.nil from rfl];have hO:=(ZD hin2 (by rw [← hcr];exact hcc)).2;have hTL:=zag n (prs X) zb zb hin2 hO.len;subst hRR;generalize yq n (prs X)=T at hO hTL;have hTl:=hO.len;have hkp:(T.filter fun x=>zS (nth l x.toNat))=yQ (fun x=>!zS (nth l x.toNat)) T:=by unfold yQ;simp
     have hD:=ZK 1 T 18 [zfq l] (fun x=>!zS (nth l x.toNat)) zb (fun x hx=>by
      have hr:=hO.rng x hx;have:=WN l x.toNat zb;rw [show ((x.toNat:Nat):Int)=x by omega] at this;exact this)
     rw [hTl] at hD;have hKl:=ZY (fun x=>!zS (nth l x.toNat)) T T.length;rw [List.take_length,hTl] at hKl;generalize yQ (fun x=>!zS (nth l x.toNat)) T=K at hD hKl;clear hRf hkp hcr hor hcy hC hes;refine za ?_;rw [hn];refine xe hTL [(4000,105)] rfl zF.nil rfl rfl rfl rfl rfl rfl ?_;rintro _ ob' ⟨rfl,h4⟩;refine yH.one [(105,⟨1,.own,3,1,T.map zj⟩)] (.wrap .tup [.own 105 1 0 n,.bool true]) rfl (by show [(105,zn.ren _ (look {} ob' 4000))]=_;rw [h4];rfl) ?_;clear h4 ob' hTL;refine za ?_;refine ZF rfl rfl rfl rfl rfl ?_;refine ZF rfl rfl rfl rfl rfl ?_
     (repeat (first|refine FW.seq ?_|refine FW.region ?_|refine zi.nil ?_|refine zO rfl rfl rfl ?_|refine zG rfl rfl rfl ?_))
     refine zi.le ?_ (FLe.shareP 2 rfl rfl)
     (repeat (first|refine Yz rfl rfl rfl rfl ?_))
     refine xe hD [(5000,105)] rfl (zF.cons rfl rfl rfl zF.nil) rfl rfl rfl rfl rfl rfl ?_;rintro _ ob' ⟨rfl,h4⟩;obtain ⟨Ze,hZe⟩:∃ Ze,(K++List.replicate (n - K.length) 0).map zj=Ze:=⟨_,rfl⟩
     have hZt:(Ze.drop 0).take K.length=K.map zj:=by rw [← hZe,List.drop_zero,List.map_append,List.take_left' (List.length_map _)]
     rw [hZe] at h4;refine yH.one [(105,⟨1,.own,3,1,Ze⟩)] (.own 105 1 0 K.length) rfl (by show [(105,zn.ren _ (look {} ob' 5000))]=_;rw [h4];rfl) ?_;clear h4 ob' hD;refine zi.le ?_ (FLe.toH (i:=103) rfl);refine zi.le ?_ (FLe.toH (i:=102) rfl);refine za ?_;refine UZ rfl rfl (.inr (.inl ⟨_,_,_,_,rfl,zN rfl zg⟩)) rfl rfl rfl rfl (by show 3<5;decide) rfl ?_;refine za ?_;refine VN rfl rfl rfl rfl rfl rfl rfl ?_;refine XW rfl rfl rfl rfl rfl rfl rfl (XF (zN rfl zg)) rfl ?_;refine za ?_;refine FW.le (s':=⟨[(4,.ptr 102 0 0 0),(5,.int .i64 0)],[(4000,⟨1,.own,3,1,Ze⟩),(102,⟨0,.hrow,32,5,[[.int .i64 (cOf s),.int .i64 0,.int .i64 0,.own 4000 1 0 K.length,.nil]]⟩)]⟩) ?_ (FLe.cv [⟨4000,some 105,1,⟨1,.own,3,1,Ze⟩⟩,⟨102,some 102,0,⟨0,.hrow,32,5,[[.int .i64 (cOf s),.int .i64 0,.int .i64 0,.own 4000 1 0 K.length,.nil]]⟩⟩] zf zd);exact FW.ret ⟨.inl rfl,_,.agt rfl rfl rfl rfl rfl rfl rfl rfl rfl,_,_,_,.inl ⟨K.length,K++List.replicate (n - K.length) 0,rfl,hZe▸rfl,by simp,by simp;omega⟩⟩
    | cons c0 cs =>
     have hRR:R=⟨cOf s,5,(nth l (nth (ym l s) 0).toNat).key,[],XC l s (ym l s) (ym l s).length⟩:=by rw [← hRf];unfold zcj;rw [hth];dsimp only;rw [if_neg (by rw [hcc];simp)]
     rw [show zij ((c0::cs).map zj)=.list 1 ((c0::cs).map zj) from rfl];have hne:ym l s≠[]:=by rw [hcc];simp
     obtain ⟨a,b,ha,_,hal,_,_⟩:=zcF hne (i:=0) (by rw [hcc];simp);have hcl:(ym l s).length≤n:=by rw [hcr,← Yp hin2];exact Xa hin2 (Nat.le_refl n)
     have hcy:=hcy hne zb;rw [ha,Int.toNat_natCast] at hRR;subst hRR;obtain ⟨Y,hY⟩:∃ Y,XC l s (ym l s) (ym l s).length=Y:=⟨_,rfl⟩
     have hYl:Y.length≤1000:=by rw [← hY,zdt];omega
     rw [hY] at hcy;have hc0:0<(ym l s).length:=by rw [hcc];simp
     rw [← hcc];obtain ⟨C,hCC⟩:∃ C,ym l s=C:=⟨_,rfl⟩
     rw [hCC] at hcy ha hc0 ⊢;clear hRf hcr hor hC hes hY hcc hcl;skip;refine zi.le (s':=⟨[(2,.ptr 101 0 0 0),(4,.ptr 140 0 0 0),(8,.ptr 103 0 0 0),(13,.list 3 (X.map EdV.fv)),(17,.list 1 (C.map zj)),(91,.list 1 (C.map zj))],[(101,⟨0,.own,23,1,[[.list 8 (l.map OpV.fv)]]⟩),(140,⟨0,.own,32,5,[[.int .i64 0,.int .i64 0,.int .i64 0,.nil,.nil]]⟩),(103,⟨0,.own,32,5,[[.int .i64 (cOf s),.int .i64 0,.int .i64 0,.nil,.nil]]⟩)]⟩) ?_ (FLe.cv [⟨101,some 101,0,⟨0,.own,23,1,[[.list 8 (l.map OpV.fv)]]⟩⟩,⟨140,some 102,0,⟨0,.own,32,5,[[.int .i64 0,.int .i64 0,.int .i64 0,.nil,.nil]]⟩⟩,⟨103,some 103,0,⟨0,.own,32,5,[[.int .i64 (cOf s),.int .i64 0,.int .i64 0,.nil,.nil]]⟩⟩] zf zd);refine zi.le ?_ (FLe.toH (i:=103) rfl);refine zi.le ?_ (FLe.toH (i:=140) rfl);refine zcc rfl rfl rfl (by intro e;rw [List.map_eq_nil_iff] at e;subst e;cases hc0) rfl rfl ?_;refine yf ?_;rw [ha];refine zw ?_;refine zhs hcy (by repeat (first|exact zx.nil|refine zx.cons zt ?_)) (List.length_map _) rfl rfl rfl ?_;refine zw ?_;refine Yx rfl rfl rfl rfl rfl rfl rfl rfl rfl ?_;refine zw ?_;refine Yx rfl rfl rfl rfl rfl rfl rfl rfl rfl ?_;refine zw ?_;refine Yw (d:=0) rfl rfl ⟨_,_,_,rfl⟩ (zN rfl zg) (fun i v n e=>by injection e with e1 e2 e3 e4;subst e1;subst e2;exact zN rfl zg) rfl rfl rfl rfl (by show 4<5;decide) rfl rfl ?_;refine zw ?_;refine ⟨by kernel_rfl,?_⟩;refine za ?_;refine VN rfl rfl rfl rfl rfl rfl rfl ?_;refine XW rfl rfl rfl rfl rfl rfl rfl (za9 (zN rfl zg)) rfl ?_;refine za ?_;refine FW.le (s':=⟨[(4,.ptr 140 0 0 0),(5,.int .i64 0)],[(4000,⟨1,.own,28,3,Y.map EdV.fv⟩),(140,⟨0,.hrow,32,5,[[.int .i64 (cOf s),.int .i64 5,.int .i64 (nth l a).key,.nil,.own 4000 1 0 Y.length]]⟩)]⟩) ?_ (FLe.cv [⟨4000,some 102,0+1,⟨1,.own,28,3,Y.map EdV.fv⟩⟩,⟨140,some 140,0,⟨0,.hrow,32,5,[[.int .i64 (cOf s),.int .i64 5,.int .i64 (nth l a).key,.nil,.own 4000 1 0 Y.length]]⟩⟩] zf zd);exact FW.ret ⟨.inl rfl,_,.agt rfl rfl rfl rfl rfl rfl rfl rfl rfl,_,_,_,.inr ⟨Y,rfl,rfl,hYl⟩⟩
theorem zau (o:OpV):zd5 Try.prog 37 o.fv o.fv true:=by
 refine ⟨by kernel_rfl,fun w=>?_⟩;obtain ⟨a1,a2,a3,a4,a5,a6,a7,a8⟩:=o;show (Op.equalIn 10000 37 (.agg #[.int .i64 a1,.int .i64 a2,.int .i64 a3,.int .i64 a4,.int .i64 a5,.int .i64 a6,.int .i64 a7,.bool a8]) (.agg #[.int .i64 a1,.int .i64 a2,.int .i64 a3,.int .i64 a4,.int .i64 a5,.int .i64 a6,.int .i64 a7,.bool a8])).run Try.prog w=_;have hS:Try.prog.underlying 37=some (.struct (Try.prog.fieldsOf 37)):=by kernel_rfl
 have hp:Try.prog.stoodInHeld 37=false:=by kernel_rfl
 rw [show (10000:Nat)=9999+1 from rfl,run_equalIn_agg w 9999 37 _ _ hS hp];simp only [Program.fieldsOf,Try.underlying37];simp [go_sem]
def e3f (e:Int×Int×Int):List FV:=[.int .i64 e.1,.int .i64 e.2.1,.int .i64 e.2.2]
def e3 (e:EdV):Int×Int×Int:=((e.1:Int),(e.2.1:Int),e.2.2)
theorem zhU (E:List EdV):E.map EdV.fv=(E.map e3).map e3f:=by rw [List.map_map];rfl
def ziM:Int:=-1
theorem Uy (l:List Int) (s:Bool) (hl:∀ x∈l,I64 x) (hlen:l.length≤9223372036854775807):zY Try.prog 3 [.list 1 (l.map zj),.bool s] .fr (.bool true):=by
 have hH:=zex 12 true l zg hl hlen;have hin:=zhd (f:=true) (l:=l) (by decide:12≤12);have hHl:=zbH (f:=true) (l:=l) (by decide:12≤12);generalize xk 12 true l=H at hH hin hHl;have hsc:=YT H s hHl hin;have hrc:=zaF H s hHl hin;have hO:=zci H s hHl hin;have hes:=XH H s zb;have hvl:=zhv H s hHl;have hlX:(yb H s).length≤576:=by
  refine Nat.le_trans (Yr H s H.length) ?_;exact Nat.le_trans (Nat.mul_le_mul (Nat.mul_le_mul (Nat.le_refl 4) hHl) hHl) zg
 rw [zhU] at hes;obtain ⟨m,hm⟩:∃ m,((yb H s).map e3).length=m:=⟨_,rfl⟩
 have hm2:m≤576:=by rw [← hm,List.length_map];exact hlX
 generalize (yb H s).map e3=Y at hes hm;have hRE:xB H=true→zaJ H=0:=fun hd=>by unfold zaJ;rw [if_pos hd]
 have hRV:xB H=false→Wz H s=⟨0,0,0,[],[]⟩:=fun hd=>by unfold Wz;rw [if_neg (by rw [hd];decide)]
 generalize h32:Wz H s=V at hsc hrc hvl hRV;generalize hEE:zaJ H=E at hsc hrc hRE;have hS:=zdg V hvl.1 hvl.2;clear h32 hEE hlX hvl;refine zY.of_body (c:=(xa Try.prog zD zq 111)) ⟨Try.func3,rfl,Try.ntmps3,by kernel_rfl⟩ zC zp rfl ?_;change FW _ _ _ ⟨[(0,.list 1 (l.map zj)),(1,.bool s)],[]⟩;refine za ?_;refine xn hH (by repeat (first|exact zx.nil|refine zx.cons zt ?_)) (List.length_map _) rfl rfl rfl ?_;refine zi.le ?_ (FLe.share 19 rfl rfl (by rw [List.length_map]));refine za ?_;refine xn hes (by repeat (first|exact zx.nil|refine zx.cons zt ?_)) (List.length_map _) rfl rfl rfl ?_;refine za ?_;rw [hm];refine FW.loop (fun p:Nat×List (Int×Int×Int)=>⟨[(0,.list 1 (l.map zj)),(1,.bool s),(5,.list 8 (H.map OpV.fv)),(6,.own 100 0 0 m),(7,.int .i64 p.1)],[(100,⟨0,.own,28,3,p.2.map e3f⟩)]⟩) (fun p=>p.1≤m∧p.2.length=m) (fun p=>m - p.1) (0,Y) ⟨Nat.zero_le _,hm⟩ (FLe.cv [⟨100,some 22,0+1,⟨0,.own,28,3,Y.map e3f⟩⟩] zf zd) ?_;rintro ⟨i,ys⟩ ⟨hi,hy⟩;dsimp only at hi hy ⊢;refine za ?_;refine FW.cond rfl (fun hc=>?_) (fun hc=>?_)
 ·have hlt:i<m:=by simpa using hc
  clear hc;have hlt2:i<ys.length:=by omega
  refine za ?_;refine ⟨(i+1,ys.set i (ziM,(nth ys i).2)),⟨by dsimp only;omega,by dsimp only;rw [List.length_set];exact hy⟩,by dsimp only;omega,?_⟩;dsimp only;rw [List.map_set];exact (FLe.cv [⟨100,some 100,0,⟨0,.own,28,3,(ys.map e3f).set i (e3f (ziM,(nth ys i).2))⟩⟩] zf zd)
 ·clear hc;refine FW.le (s':=⟨[(0,.list 1 (l.map zj)),(1,.bool s),(5,.list 8 (H.map OpV.fv))],[]⟩) ?_ (FLe.cv [] zu zd);cases hd:xB H with
  | false=>
   have:=hRV hd;subst this;refine za ?_;refine yg hsc (by repeat (first|exact zx.nil|refine zx.cons zt ?_)) rfl rfl ?_;refine za ?_;refine FW.loop (fun _:Unit=>⟨[(0,.list 1 (l.map zj)),(1,.bool s),(5,.list 8 (H.map OpV.fv)),(8,.ptr 101 0 0 0),(9,.int .i64 E),(10,.int .i64 0)],[(101,⟨0,.own,32,5,[[.int .i64 0,.int .i64 0,.int .i64 0,.list 1 [],.list 3 []]]⟩)]⟩) (fun _=>True) (fun _=>0) () trivial (FLe.cv [⟨101,some 8,0+1,⟨0,.own,32,5,[[.int .i64 0,.int .i64 0,.int .i64 0,.list 1 [],.list 3 []]]⟩⟩] zf zd) ?_;intro _ _;refine za ?_;refine FW.loop (fun _:Unit=>⟨[(0,.list 1 (l.map zj)),(1,.bool s),(5,.list 8 (H.map OpV.fv)),(8,.ptr 101 0 0 0),(9,.int .i64 E),(11,.int .i64 0)],[(101,⟨0,.own,32,5,[[.int .i64 0,.int .i64 0,.int .i64 0,.list 1 [],.list 3 []]]⟩)]⟩) (fun _=>True) (fun _=>0) () trivial (FLe.cv [⟨101,some 101,0,⟨0,.own,32,5,[[.int .i64 0,.int .i64 0,.int .i64 0,.list 1 [],.list 3 []]]⟩⟩] zf zd) ?_;intro _ _;refine za ?_;refine xn hH (by repeat (first|exact zx.nil|refine zx.cons zt ?_)) (List.length_map _) rfl rfl rfl ?_;refine zi.le ?_ (FLe.share 67 rfl rfl (by rw [List.length_map]));refine za ?_;refine FW.loop (fun j:Nat=>⟨[(1,.bool s),(5,.list 8 (H.map OpV.fv)),(9,.int .i64 E),(12,.list 8 (H.map OpV.fv)),(13,.int .i64 j)],[]⟩) (fun j=>j≤H.length) (fun j=>H.length - j) 0 (Nat.zero_le _) (FLe.cv [] zu zd) ?_;intro j hj;refine za ?_;refine FW.cond rfl (fun hc=>?_) (fun hc=>?_)
   ·have hlt:j<H.length:=by simpa using hc
    clear hc;obtain ⟨o,ho⟩:∃ o,nth H j=o:=⟨_,rfl⟩
    refine yf ?_;rw [ho];refine zdT rfl rfl rfl rfl (zau o) rfl rfl ?_;refine zw ?_;refine ⟨by kernel_rfl,?_⟩;refine za ?_;exact ⟨j+1,by omega,by omega,(FLe.cv [] zu zd)⟩
   ·refine za ?_;refine yg hsc (by repeat (first|exact zx.nil|refine zx.cons zt ?_)) rfl rfl ?_;refine za ?_;refine yg hrc (by repeat (first|exact zx.nil|refine zx.cons zt ?_)) rfl rfl ?_;refine za ?_;refine zJ (fun _=>?_) (fun h=>absurd h zc);refine za ?_;refine zJ (fun _=>?_) (fun h=>absurd h zc);refine za ?_;refine zV hS (by repeat (first|exact zx.nil|refine zx.cons zt ?_)) rfl ⟨_,_,rfl,rfl,rfl⟩ ?_;refine za ?_;refine zV Ya (by repeat (first|exact zx.nil)) rfl ⟨_,_,rfl,rfl,rfl⟩ ?_;refine za ?_;exact FW.ret ⟨.inl rfl,zm rfl rfl rfl rfl⟩
  | true=>
   have:=hRE hd;subst this;have hO:=hO hd;refine za ?_;refine xe hO [(4000,150)] rfl zF.nil rfl rfl rfl rfl rfl rfl ?_;rintro _ ob' ⟨k,a,b,⟨n,xs,rfl,h4,hn1,hn2⟩|⟨zs,rfl,h4,hn⟩⟩
   ·refine yH.one [(150,⟨1,.own,3,1,xs.map zj⟩)] (.wrap (.agt 5) [.int .i64 k,.int .i64 a,.int .i64 b,.own 150 1 0 n,.nil,.int .i64 0]) rfl (by show [(150,zn.ren _ (look {} ob' 4000))]=_;rw [h4];rfl) ?_;clear h4 ob' hO;refine za ?_;refine VJ rfl rfl rfl rfl ?_;refine VK rfl rfl rfl rfl rfl ?_;refine Wo rfl rfl rfl rfl rfl rfl rfl rfl (XF (zN rfl zg)) ?_;refine za ?_;refine FW.loop (fun p:Nat×List Int=>⟨[(0,.list 1 (l.map zj)),(1,.bool s),(5,.list 8 (H.map OpV.fv)),(8,.ptr 101 0 0 0),(9,.int .i64 0),(10,.int .i64 p.1)],[(101,⟨0,.hrow,32,5,[[.int .i64 k,.int .i64 a,.int .i64 b,.own 150 1 0 n,.nil]]⟩),(150,⟨1,.own,3,1,p.2.map zj⟩)]⟩) (fun p=>p.1≤n∧p.2.length=xs.length) (fun p=>n - p.1) (0,xs) ⟨Nat.zero_le _,rfl⟩ (FLe.cv [⟨101,some 8,0+1,⟨0,.hrow,32,5,[[.int .i64 k,.int .i64 a,.int .i64 b,.own 150 1 0 n,.nil]]⟩⟩,⟨150,some 150,1,⟨1,.own,3,1,xs.map zj⟩⟩] zf zd) ?_;rintro ⟨i,us⟩ ⟨hi,hu⟩;dsimp only at hi hu ⊢;refine za ?_;refine Zr rfl rfl rfl rfl rfl rfl rfl ?_;refine za ?_;refine FW.cond rfl (fun hc=>?_) (fun hc=>?_)
    ·have hlt:i<n:=by simpa using hc
     clear hc;have hlt2:i<us.length:=by omega
     refine za ?_;refine Zr rfl rfl rfl rfl rfl rfl rfl ?_;refine za ?_;refine ⟨(i+1,us.set i ziM),⟨by dsimp only;omega,by dsimp only;rw [List.length_set];exact hu⟩,by dsimp only;omega,?_⟩;dsimp only;rw [List.map_set];exact (FLe.cv [⟨101,some 101,0,⟨0,.hrow,32,5,[[.int .i64 k,.int .i64 a,.int .i64 b,.own 150 1 0 n,.nil]]⟩⟩,⟨150,some 150,1,⟨1,.own,3,1,(us.map zj).set i (zj ziM)⟩⟩] zf zd)
    ·clear hc;refine za ?_;refine FW.loop (fun _:Unit=>⟨[(0,.list 1 (l.map zj)),(1,.bool s),(5,.list 8 (H.map OpV.fv)),(8,.ptr 101 0 0 0),(9,.int .i64 0),(11,.int .i64 0)],[(101,⟨0,.hrow,32,5,[[.int .i64 k,.int .i64 a,.int .i64 b,.own 150 1 0 n,.nil]]⟩),(150,⟨1,.own,3,1,us.map zj⟩)]⟩) (fun _=>True) (fun _=>0) () trivial (FLe.cv [⟨101,some 101,0,⟨0,.hrow,32,5,[[.int .i64 k,.int .i64 a,.int .i64 b,.own 150 1 0 n,.nil]]⟩⟩,⟨150,some 150,1,⟨1,.own,3,1,us.map zj⟩⟩] zf zd) ?_;intro _ _;refine za ?_;refine Zr rfl rfl rfl rfl rfl rfl rfl ?_;refine za ?_;refine xn hH (by repeat (first|exact zx.nil|refine zx.cons zt ?_)) (List.length_map _) rfl rfl rfl ?_;refine zi.le ?_ (FLe.share 67 rfl rfl (by rw [List.length_map]));refine za ?_;refine FW.loop (fun j:Nat=>⟨[(1,.bool s),(5,.list 8 (H.map OpV.fv)),(9,.int .i64 0),(12,.list 8 (H.map OpV.fv)),(13,.int .i64 j)],[]⟩) (fun j=>j≤H.length) (fun j=>H.length - j) 0 (Nat.zero_le _) (FLe.cv [] zu zd) ?_;intro j hj;refine za ?_;refine FW.cond rfl (fun hc=>?_) (fun hc=>?_)
     ·have hlt:j<H.length:=by simpa using hc
      clear hc;obtain ⟨o,ho⟩:∃ o,nth H j=o:=⟨_,rfl⟩
      refine yf ?_;rw [ho];refine zdT rfl rfl rfl rfl (zau o) rfl rfl ?_;refine zw ?_;refine ⟨by kernel_rfl,?_⟩;refine za ?_;exact ⟨j+1,by omega,by omega,(FLe.cv [] zu zd)⟩
     ·refine za ?_;refine yg hsc (by repeat (first|exact zx.nil|refine zx.cons zt ?_)) rfl rfl ?_;refine za ?_;refine yg hrc (by repeat (first|exact zx.nil|refine zx.cons zt ?_)) rfl rfl ?_;refine za ?_;refine zV hS (by repeat (first|exact zx.nil|refine zx.cons zt ?_)) rfl ⟨_,_,rfl,rfl,rfl⟩ ?_;refine za ?_;refine zV Ya (by repeat (first|exact zx.nil)) rfl ⟨_,_,rfl,rfl,rfl⟩ ?_;refine za ?_;exact FW.ret ⟨.inl rfl,zm rfl rfl rfl rfl⟩
   ·refine yH.one [(150,⟨1,.own,28,3,zs.map EdV.fv⟩)] (.wrap (.agt 5) [.int .i64 k,.int .i64 a,.int .i64 b,.nil,.own 150 1 0 zs.length,.int .i64 0]) rfl (by show [(150,zn.ren _ (look {} ob' 4000))]=_;rw [h4];rfl) ?_;clear h4 ob' hO;rw [zhU];obtain ⟨n,hzn⟩:∃ n,zs.length=n:=⟨_,rfl⟩
    have hXl:(zs.map e3).length=n:=by rw [List.length_map,hzn]
    rw [hzn] at hn ⊢;generalize zs.map e3=xs at hXl;refine za ?_;refine VJ rfl rfl rfl rfl ?_;refine VK rfl rfl rfl rfl rfl ?_;refine Wo rfl rfl rfl rfl rfl rfl rfl rfl (za9 (zN rfl zg)) ?_;refine za ?_;refine FW.loop (fun _:Unit=>⟨[(0,.list 1 (l.map zj)),(1,.bool s),(5,.list 8 (H.map OpV.fv)),(8,.ptr 101 0 0 0),(9,.int .i64 0),(10,.int .i64 0)],[(101,⟨0,.hrow,32,5,[[.int .i64 k,.int .i64 a,.int .i64 b,.nil,.own 150 1 0 n]]⟩),(150,⟨1,.own,28,3,xs.map e3f⟩)]⟩) (fun _=>True) (fun _=>0) () trivial (FLe.cv [⟨101,some 8,0+1,⟨0,.hrow,32,5,[[.int .i64 k,.int .i64 a,.int .i64 b,.nil,.own 150 1 0 n]]⟩⟩,⟨150,some 150,1,⟨1,.own,28,3,xs.map e3f⟩⟩] zf zd) ?_;intro _ _;refine za ?_;refine Zr rfl rfl rfl rfl rfl rfl rfl ?_;refine za ?_;refine FW.loop (fun p:Nat×List (Int×Int×Int)=>⟨[(0,.list 1 (l.map zj)),(1,.bool s),(5,.list 8 (H.map OpV.fv)),(8,.ptr 101 0 0 0),(9,.int .i64 0),(11,.int .i64 p.1)],[(101,⟨0,.hrow,32,5,[[.int .i64 k,.int .i64 a,.int .i64 b,.nil,.own 150 1 0 n]]⟩),(150,⟨1,.own,28,3,p.2.map e3f⟩)]⟩) (fun p=>p.1≤n∧p.2.length=n) (fun p=>n - p.1) (0,xs) ⟨Nat.zero_le _,hXl⟩ (FLe.cv [⟨101,some 101,0,⟨0,.hrow,32,5,[[.int .i64 k,.int .i64 a,.int .i64 b,.nil,.own 150 1 0 n]]⟩⟩,⟨150,some 150,1,⟨1,.own,28,3,xs.map e3f⟩⟩] zf zd) ?_;rintro ⟨i,us⟩ ⟨hi,hu⟩;dsimp only at hi hu ⊢;refine za ?_;refine Zr rfl rfl rfl rfl rfl rfl rfl ?_;refine za ?_;refine FW.cond rfl (fun hc=>?_) (fun hc=>?_)
    ·have hlt:i<n:=by simpa using hc
     clear hc;have hlt2:i<us.length:=by omega
     refine za ?_;refine Zr rfl rfl rfl rfl rfl rfl rfl ?_;refine za ?_;refine ⟨(i+1,us.set i ((nth us i).1,ziM,(nth us i).2.2)),⟨by dsimp only;omega,by dsimp only;rw [List.length_set];exact hu⟩,by dsimp only;omega,?_⟩;dsimp only;rw [List.map_set];exact (FLe.cv [⟨101,some 101,0,⟨0,.hrow,32,5,[[.int .i64 k,.int .i64 a,.int .i64 b,.nil,.own 150 1 0 n]]⟩⟩,⟨150,some 150,1,⟨1,.own,28,3,(us.map e3f).set i (e3f ((nth us i).1,ziM,(nth us i).2.2))⟩⟩] zf zd)
    ·clear hc;refine FW.le (s':=⟨[(0,.list 1 (l.map zj)),(1,.bool s),(5,.list 8 (H.map OpV.fv)),(9,.int .i64 0)],[]⟩) ?_ (FLe.cv [] zu zd);refine za ?_;refine xn hH (by repeat (first|exact zx.nil|refine zx.cons zt ?_)) (List.length_map _) rfl rfl rfl ?_;refine zi.le ?_ (FLe.share 67 rfl rfl (by rw [List.length_map]));refine za ?_;refine FW.loop (fun j:Nat=>⟨[(1,.bool s),(5,.list 8 (H.map OpV.fv)),(9,.int .i64 0),(12,.list 8 (H.map OpV.fv)),(13,.int .i64 j)],[]⟩) (fun j=>j≤H.length) (fun j=>H.length - j) 0 (Nat.zero_le _) (FLe.cv [] zu zd) ?_;intro j hj;refine za ?_;refine FW.cond rfl (fun hc=>?_) (fun hc=>?_)
     ·have hlt:j<H.length:=by simpa using hc
      clear hc;obtain ⟨o,ho⟩:∃ o,nth H j=o:=⟨_,rfl⟩
      refine yf ?_;rw [ho];refine zdT rfl rfl rfl rfl (zau o) rfl rfl ?_;refine zw ?_;refine ⟨by kernel_rfl,?_⟩;refine za ?_;exact ⟨j+1,by omega,by omega,(FLe.cv [] zu zd)⟩
     ·refine za ?_;refine yg hsc (by repeat (first|exact zx.nil|refine zx.cons zt ?_)) rfl rfl ?_;refine za ?_;refine yg hrc (by repeat (first|exact zx.nil|refine zx.cons zt ?_)) rfl rfl ?_;refine za ?_;refine zV hS (by repeat (first|exact zx.nil|refine zx.cons zt ?_)) rfl ⟨_,_,rfl,rfl,rfl⟩ ?_;refine za ?_;refine zV Ya (by repeat (first|exact zx.nil)) rfl ⟨_,_,rfl,rfl,rfl⟩ ?_;refine za ?_;exact FW.ret ⟨.inl rfl,zm rfl rfl rfl rfl⟩
end Go.Proofs.Ytlnehfplfoikaaa
