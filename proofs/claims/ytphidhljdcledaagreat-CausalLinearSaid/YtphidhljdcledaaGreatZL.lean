/-
  Lemmas, in parts.
-/
import Derived.Test.YtphidhljdcledaaGreatZC
import Derived.Test.YtphidhljdcledaaGreatZD
import Derived.Test.YtphidhljdcledaaGreatZJ
import Derived.Lib.SliceRun
namespace Go.Proofs.YtphidhljdcledaaGreat
set_option linter.unusedVariables false
set_option maxHeartbeats 16000000
variable {w w0:World} {J:JJ} {β:Nat→Option Nat} {s:ah} {args fs gs:List FV} {N T f i j k n:Nat} {x:Operand} {ob cp:List (Nat×zE)} {ex:List Nat} {Q:FV→(Nat→zE)→Prop} {xs:List Operand} {ts:Array TypeId} {P:Program} {name:String} {v:Value} {E:List (Nat×Nat)} {es du:List (List FV)} {α:Type} {t t' : List (Nat×FV)} {lf0:Zn} {l:List aq} {f0:FV} {gd:Option (Nat×Bool)}
section
open Go.RowKit
structure qp (w:World) (J:JJ) (β:Nat→Option Nat) (s:ah) (vs:List Value) (fs:List FV):Prop where
 len:vs.length=fs.length
 get:∀ (j:Nat) u f,vs[j]? = some u→fs[j]? = some f→VR w (aF J w β s) β s u f∧∀ id ae,(id,ae)∈f.hands→ae≤(s.ob id).ae
theorem qp.cons {w:World} {J:JJ} {β:Nat→Option Nat} {s:ah} {v:Value} {vs:List Value} {f:FV} {fs:List FV} (h:VR w (aF J w β s) β s v f) (hv:∀ id ae,(id,ae)∈f.hands→ae≤(s.ob id).ae) (hs:qp w J β s vs fs):qp w J β s (v::vs) (f::fs) where
 len:=by simp [hs.len]
 get j u g hu hg:=by
  cases j with
  | zero => simp at hu hg; subst hu; subst hg; exact ⟨h, hv⟩
  | succ j => exact hs.get j u g (by simpa using hu) (by simpa using hg)
theorem qp.append {vs us:List Value} (h:qp w J β s vs fs) (hs:qp w J β s us gs):qp w J β s (vs++us) (fs++gs) where
 len:=by simp [hs.len,h.len]
 get j u g hu hg:=by
  rcases yg j vs.length with hj|hj
  ·rw [xO hj] at hu;rw [xO (by rw [← h.len];exact hj)] at hg;exact h.get j u g hu hg
  ·rw [Zd hj] at hu;rw [Zd (by rw [← h.len];exact hj),← h.len] at hg;exact hs.get _ u g hu hg
theorem FR.MC {a:Act} (h:FR N w0 J s a w β) (xs:List Operand):qp w J β s (xs.map a.eval) (xs.map s.ev) where
 len:=by simp
 get j u f hu hf:=by
  rw [ye] at hu hf;cases hy:xs[j]? with
  | none => rw [hy] at hu; cases hu
  | some y =>
   rw [hy] at hu hf;injection hu with hu;injection hf with hf
   subst hu;subst hf;exact ⟨h.ev y,fun id ae hm=>h.cg y hm⟩
theorem FR.mR {a:Act} (h:FR N w0 J s a w β) {k:Wk} (hx:s.ev x=.wrap k fs):∃ us,a.eval x=k.mk us∧qp w J β s us fs:=by
 have hv:=h.ev x;rw [hx] at hv;obtain ⟨us,ev,im,iq⟩:=hv;refine ⟨us,ev,im,fun j u f hu hf=>?_⟩;have h1:=iq j u f hu hf;refine ⟨VR.wM h1,fun id ae hm=>?_⟩;have eK:∀ k fs,f≠.wrap k fs:=fun k fs e=>by rw [e] at h1;have h2:Rd w (aF J w β s) u (.wrap k fs):=h1;cases h2
 have cO:f∈fs:=zG hf;refine h.cg x (id:=id) (ae:=ae) ?_;rw [hx];refine yU.2 ⟨_,cO,?_⟩;generalize f=q at hm eK;cases q with
 | own|ptr|omap => rw [zq.1 hm]; rfl
 | wrap k fs => exact absurd rfl (eK k fs)
 | _ => exact (FV.aV rfl hm).elim
section
variable {c:Ctx} {ops:Array Oper} {rest:List Oper} {t:List (Nat×FV)} {ob:List (Nat×zE)} {dst:Option Nat} {ty:TypeId} {pos:String} {af:Array Edge} {gd:Option (Nat×Bool)} {QS:ah→Prop}
theorem Qn {op:Op} (hs:xN c.P f args cp ex Q) (π:List (Nat×Nat))
  (bg:∀ (w0:World) (J:JJ) (a:Act) (w:World) (β:Nat→Option Nat),FR c.N w0 J ⟨t,ob⟩ a w β→∃ vs:List Value,(execOp a.eval ⟨dst,op,ty,pos,af,gd⟩).run c.P w=.ok (.enter f vs.toArray) w∧qp w J β ⟨t,ob⟩ vs fs)
  (hx:fs=args.map (FV.ren (cM π)))
  (aR:zQ ob (cM π) cp) (dP:tB ((cp.map Prod.fst++ex).map (cM π))=true) (ch:cp.all (fun p=>(look {} cp p.1).cl (cp.map Prod.fst))=true) (lA:args.all (FV.cl (cp.map Prod.fst))=true) (hex:ex.all (fun k=>Nat.beq ((⟨t,ob⟩:ah).ob (cM π k)).ae 0)=true)
  (hd:Ct c.N dst=true) (hw:ZB ops ⟨t,ob⟩ (⟨dst,op,ty,pos,af,gd⟩:Oper) true)
  (k:∀ res aM,Q res (look {} aM)→ZQ c ops rest dst t ob π (cp.map Prod.fst++ex) QS res aM) :
  zt c ops ((⟨dst,op,ty,pos,af,gd⟩:Oper)::rest) ⟨t,ob⟩ QS:=fun QQ w0 J a w β hQ hF=>by
 unfold wpList;rw [if_pos (hw.model hF)];refine .inl ?_;obtain ⟨vs,hr,dR⟩:=bg w0 J a w β hF;subst hx;have hl:vs.length=args.length:=by rw [dR.len,zj]
 have hc:=Lm hF hs (cM π) aR (Hp dP) ch lA (fun k hk=>ZF (zL.1 hex k hk)) hl
  (fun j u y hu hy=>(dR.get j u _ hu (by rw [ye,hy];rfl)).1)
  (fun y hy id ae hm=>by
   obtain ⟨j,hj,rfl⟩:=zU hy;have gT:j<vs.length:=by rw [hl];exact hj
   exact (dR.get j vs[j] _ zc (by rw [ye];simp [hj])).2 id ae hm)
 unfold Oper.wp;rw [hr,Oper.upon_enter];refine hc.mono ?_;rintro e w' ⟨v,res,aM,aJ,rfl,hq,k1,k2,k3⟩;obtain ⟨r,l,e1,e2,hk⟩:=k res aM hq;subst e1;subst e2;exact hk QQ w0 J _ w' aJ hQ (k1.lg (Q6 hd) k2 k3)
theorem ztb {aH:List FV} (wJ:(⟨t,ob⟩:ah).ev x=.wrap (.bound f) aH) (hs:xN c.P f args cp ex Q) (π:List (Nat×Nat)) (hx:aH++xs.map (⟨t,ob⟩:ah).ev=args.map (FV.ren (cM π)))
  (aR:zQ ob (cM π) cp) (dP:tB ((cp.map Prod.fst++ex).map (cM π))=true) (ch:cp.all (fun p=>(look {} cp p.1).cl (cp.map Prod.fst))=true) (lA:args.all (FV.cl (cp.map Prod.fst))=true) (hex:ex.all (fun k=>Nat.beq ((⟨t,ob⟩:ah).ob (cM π k)).ae 0)=true)
  (hd:Ct c.N dst=true) (hw:ZB ops ⟨t,ob⟩ (⟨dst,.call { callee:=.value x,args:=xs.toArray,argTypes:=ts },ty,pos,af,gd⟩:Oper) true)
  (k:∀ res aM,Q res (look {} aM)→ZQ c ops rest dst t ob π (cp.map Prod.fst++ex) QS res aM) :
  zt c ops ((⟨dst,.call { callee:=.value x,args:=xs.toArray,argTypes:=ts },ty,pos,af,gd⟩:Oper)::rest) ⟨t,ob⟩ QS:=by
 refine Qn hs π (fun w0 J a w β hF=>?_) hx aR dP ch lA hex hd hw k;obtain ⟨us,ev,lG⟩:=hF.mR wJ;have uj : a.eval x=.func (.func f) us.toArray #[]:=ev;refine ⟨us++xs.map a.eval,?_,lG.append (hF.MC xs)⟩;have bh:(us++xs.map a.eval).toArray=us.toArray++xs.toArray.map a.eval:=by apply xU;simp
 rw [bh];have:=xh (P:=c.P) hs.go (us.toArray++xs.toArray.map a.eval) w;simp [execOp,resolve,uj,Deferred.ofValue,invoke] at this ⊢;exact this
def Ed (P:Program) (T:Nat) (name:String):Option (Nat×Bool):=
 match P.info? T with
 | some i => match i.methods.find? (·.name == name) with
  | some m => if m.path.toList.isEmpty then m.func else none
  | none => none
 | none => none
def Ef (P:Program) (T:Nat):Option Nat:=
 match P.underlying T with
 | some (.pointer e) => some e
 | _ => none
theorem X7 {i:TypeInfo} (h:P.info? T=some i) (w:World):(typeInfo T).run P w=.ok i w:=by
 have hp:(program:Sem Program).run P w=.ok P w:=rfl;simp [typeInfo,hp,h]
theorem zlM {q:Nat×Bool} (h:Ed P T name=some q):∃ i m,P.info? T=some i∧i.methods.find? (·.name == name)=some m∧m.path.toList=[]∧m.path.isEmpty=true∧m.func=some q:=by
 unfold Ed at h;cases hi:P.info? T with
 | none => rw [hi] at h; cases h
 | some i=>
  rw [hi] at h;dsimp only at h;cases hm:i.methods.find? (·.name == name) with
  | none => rw [hm] at h; cases h
  | some m=>
   rw [hm] at h;dsimp only at h;split at h
   ·rename_i he;have e:m.path.toList=[]:=by simpa using he
    exact ⟨i,m,rfl,hm,e,by simpa using e,h⟩
   ·cases h
theorem zlV {e:Nat} (h:Ef P T=some e):P.underlying T=some (.pointer e):=by
 unfold Ef at h;split at h
 ·rename_i hu;injection h with h;subst h;exact hu
 ·cases h
theorem znD {e:Nat} (hm:Ed P T name=some (f,true)) (hp:Ef P T=some e) (n:Nat) (v:Value) (w:World):(method (n+1) T v name).run P w=.ok (f,v) w:=by
 obtain ⟨i,m,h1,h2,h3,h4,h5⟩:=zlM hm;have hu:=run_underlying (P:=P) (w:=w) (zlV hp);simp [method,X7 h1,h2,h3,follow,h5,receiverAt,hu,Place.get]
theorem znE {e:Nat} (hm:Ed P T name=some (f,false)) (hp:Ef P T=some e) (n:Nat) (A:Addr) (v:Value) (w:World) (hl:(loadVar e A).run P w=.ok v w):(method (n+1) T (.pointer (some A)) name).run P w=.ok (f,v) w:=by
 obtain ⟨i,m,h1,h2,h3,h4,h5⟩:=zlM hm;have hu:=run_underlying (P:=P) (w:=w) (zlV hp);have hs:∀ s:String,(Builtin.ssaWrapNilChk_ #[T] T #[.pointer (some A),strVal "",strVal s]).run P w=.ok (.pointer (some A)) w:=fun s=>rfl;have h6:m.path=#[]:=by simpa using h4
 simp [method,X7 h1,h2,h6,follow,h5,receiverAt,hu,Place.get,hs,asAddr,hl]
theorem zi2 {r:Value} {args:List Value} (hm:∀ n,(method (n+1) T v name).run P w=.ok (f,r) w) (hg:tX P f=true) {ρ:Operand→Value} (hx:ρ x=.iface T v) (Dl:xs.map ρ=args) {ts:Array TypeId} {dst:Option Nat} {ty:TypeId} {pos:String} {af:Array Edge} {gd:Option (Nat×Bool)} :
  (execOp ρ ⟨dst,.call { callee:=.invoke x name,args:=xs.toArray,argTypes:=ts },ty,pos,af,gd⟩).run P w=.ok (.enter f (r::args).toArray) w:=by
 have hp:(program:Sem Program).run P w=.ok P w:=rfl;have hc:=xh (P:=P) hg (r::args).toArray w;have e1:(#[ρ x]++xs.toArray.map ρ).extract 1 (#[ρ x]++xs.toArray.map ρ).size=args.toArray:=by
  subst Dl;apply xU;simp [zS]
 have e2:(#[ρ x]++xs.toArray.map ρ)[0]? = some (.iface T v):=by simp [hx]
 have e3:#[r]++args.toArray=(r::args).toArray:=by apply xU;simp
 have cH:=hm (P.types.size+99);have e4:P.types.size+Made.depth=P.types.size+99+1:=rfl;simp only [execOp,resolve,xy,Xs,Vg,invoke,e1,e2,callMethod,hp,e4,cH,e3,hc]
theorem Kk {e:Nat} {q:FV} (wJ:(⟨t,ob⟩:ah).ev x=.wrap (.mI T) [q]) (hm:Ed c.P T name=some (f,true)) (hp:Ef c.P T=some e) (hs:xN c.P f args cp ex Q) (π:List (Nat×Nat)) (hx:q::xs.map (⟨t,ob⟩:ah).ev=args.map (FV.ren (cM π)))
  (aR:zQ ob (cM π) cp) (dP:tB ((cp.map Prod.fst++ex).map (cM π))=true) (ch:cp.all (fun p=>(look {} cp p.1).cl (cp.map Prod.fst))=true) (lA:args.all (FV.cl (cp.map Prod.fst))=true) (hex:ex.all (fun k=>Nat.beq ((⟨t,ob⟩:ah).ob (cM π k)).ae 0)=true)
  (hd:Ct c.N dst=true) (hw:ZB ops ⟨t,ob⟩ (⟨dst,.call { callee:=.invoke x name,args:=xs.toArray,argTypes:=ts },ty,pos,af,gd⟩:Oper) true)
  (k:∀ res aM,Q res (look {} aM)→ZQ c ops rest dst t ob π (cp.map Prod.fst++ex) QS res aM) :
  zt c ops ((⟨dst,.call { callee:=.invoke x name,args:=xs.toArray,argTypes:=ts },ty,pos,af,gd⟩:Oper)::rest) ⟨t,ob⟩ QS:=by
 refine Qn hs π (fun w0 J a w β hF=>?_) hx aR dP ch lA hex hd hw k;obtain ⟨us,ev,lG⟩:=hF.mR wJ;obtain ⟨u,rfl⟩:∃ u,us=[u]:=Wa.1 lG.len;have uj : a.eval x=.iface T u:=ev;have hu:=lG.get 0 u q rfl rfl;exact ⟨u::xs.map a.eval,zi2 (fun n=>znD hm hp n u w) hs.go uj rfl,qp.cons hu.1 hu.2 (hF.MC xs)⟩
theorem Yh {e:Nat} {q:FV} {v E:Nat} (wJ:(⟨t,ob⟩:ah).ev x=.wrap (.mI T) [.ptr i v j 0]) (hi:(⟨t,ob⟩:ah).ob i=⟨v,.aj,E,1,es⟩) (hj:es[j]? = some [q]) (hm:Ed c.P T name=some (f,false)) (hp:Ef c.P T=some e)
  (hk:(c.ty e).k.bD = some false) (hs:xN c.P f args cp ex Q) (π:List (Nat×Nat)) (hx:q::xs.map (⟨t,ob⟩:ah).ev=args.map (FV.ren (cM π)))
  (aR:zQ ob (cM π) cp) (dP:tB ((cp.map Prod.fst++ex).map (cM π))=true) (ch:cp.all (fun p=>(look {} cp p.1).cl (cp.map Prod.fst))=true) (lA:args.all (FV.cl (cp.map Prod.fst))=true) (hex:ex.all (fun k=>Nat.beq ((⟨t,ob⟩:ah).ob (cM π k)).ae 0)=true)
  (hd:Ct c.N dst=true) (hw:ZB ops ⟨t,ob⟩ (⟨dst,.call { callee:=.invoke x name,args:=xs.toArray,argTypes:=ts },ty,pos,af,gd⟩:Oper) true)
  (k:∀ res aM,Q res (look {} aM)→ZQ c ops rest dst t ob π (cp.map Prod.fst++ex) QS res aM) :
  zt c ops ((⟨dst,.call { callee:=.invoke x name,args:=xs.toArray,argTypes:=ts },ty,pos,af,gd⟩:Oper)::rest) ⟨t,ob⟩ QS:=by
 refine Qn hs π (fun w0 J a w β hF=>?_) hx aR dP ch lA hex hd hw k;obtain ⟨us,ev,lG⟩:=hF.mR wJ;obtain ⟨u,rfl⟩:∃ u,us=[u]:=Wa.1 lG.len;have uj : a.eval x=.iface T u:=ev;have hu:=(lG.get 0 u _ rfl rfl).1;have bN:((⟨t,ob⟩:ah).ob i).ao=.aj:=by rw [hi]
 have au:((⟨t,ob⟩:ah).ob i).ao≠.dead:=by rw [bN];decide
 obtain ⟨_,b,hb,hv⟩:=hu au (by rw [hi]);obtain ⟨cur,cap,bp,hn,cH,bk,hl,hr⟩:=hF.gO bN hb;have hH:=(hF.obj i au).eB (by rw [bN];rfl) (by rw [bN];rfl);have k6:=hH.wide;have aY:((⟨t,ob⟩:ah).ob i).sz=1:=by rw [hi]
 have lC:((⟨t,ob⟩:ah).ob i).es=es:=by rw [hi]
 rw [aY] at hv bk hl hr k6;rw [lC] at hn hl hr k6;have cN:=(yq.1 hj).1;have pC:=PZ _ k6 j q hj;have qz:j<cur.size:=by omega
 have hcu:(cur.toList.take (es.length * 1))[j]? = some cur[j]:=by
  rw [xG,if_pos za];simp [qz]
 have aI:w.cell? ⟨b,j,none⟩=some cur[j]:=by
  have:=cell_of_row w b j cur ((⟨t,ob⟩:ah).ob i).E (0,0) bp;rw [this];simp [qz]
 have hld:(loadVar e ⟨b,j,none⟩).run c.P w=.ok cur[j] w:=by simp [loadVar,HJ hk,load,Sem.run,aI]
 have nh : u=.pointer (some ⟨b,j,none⟩):=by rw [hv];simp
 subst nh;exact ⟨cur[j]::xs.map a.eval,zi2 (fun n=>znE hm hp n _ _ w hld) hs.go uj rfl,qp.cons (hr j _ q hcu pC) (fun aL br e'=>hH.bE q (by rw [lC];exact zG pC) aL br e') (hF.MC xs)⟩
end
theorem FW.post {c:Ctx} {code:Code} {Q:Exit→ah→Prop} (h:FW c code (fun e s'=>∃ oh,ar s' oh∧Q e oh) s):FW c code Q s:=fun w0 J a w β hF=>
 xS (c:=code) (h w0 J a w β hF) fun _ _ _ ⟨s',aJ,⟨oh,hl,q⟩,f⟩=>let ⟨jL,f'⟩:=hl _ _ _ _ _ _ f;⟨oh,jL,q,f'⟩
theorem zks {es:List (List α)} {sz m:Nat} (hw:∀ e∈es,e.length=sz):(es.take m).flatten=es.flatten.take (m * sz):=by
 induction es generalizing m with
 | nil => simp
 | cons e es ih=>
  cases m with
  | zero => simp
  | succ m =>
   have he:=hw e zc;rw [List.take_succ_cons,xF,xF,ih fun q hq=>hw q (by simp [hq]),We,he];rw [show (e.take ((m+1) * sz))=e from zS (by rw [he,Wi];omega),show (m+1) * sz - sz=m * sz by rw [Wi];omega]
theorem ar.cut (q i:Nat) {vq Eq v E sz m:Nat} (fU:q≠i) (hq:look {} ob q=⟨vq,.aj,Eq,1,[[.own i v 0 m]]⟩) (hi:look {} ob i=⟨v,.own,E,sz,es⟩) (hm:m≤es.length) :
  ar ⟨t,ob⟩ ⟨t,(q,⟨vq,.aj,Eq,1,[[.own i (v+1) 0 m]]⟩)::(i,⟨v+1,.own,E,sz,es.take m⟩)::ob⟩:=by
 intro N w0 J a w β hF;have bq:(⟨t,ob⟩:ah).ob q=⟨vq,.aj,Eq,1,[[.own i v 0 m]]⟩:=hq;have bi:(⟨t,ob⟩:ah).ob i=⟨v,.own,E,sz,es⟩:=hi;obtain ⟨s',fE⟩:∃ s' : ah,s'=⟨t,(q,⟨vq,.aj,Eq,1,[[.own i (v+1) 0 m]]⟩)::(i,⟨v+1,.own,E,sz,es.take m⟩)::ob⟩:=⟨_,rfl⟩
 have cq:s'.ob q=⟨vq,.aj,Eq,1,[[.own i (v+1) 0 m]]⟩:=by rw [fE];exact (zI _ _ _ _ _).trans (if_pos rfl)
 have ci:s'.ob i=⟨v+1,.own,E,sz,es.take m⟩:=by rw [fE];exact (zI _ _ _ _ _).trans ((if_neg fU).trans ((zI _ _ _ _ _).trans (if_pos rfl)))
 have co:∀ k,k≠q→k≠i→s'.ob k=(⟨t,ob⟩:ah).ob k:=fun k h1 h2=>by rw [fE];exact (zI _ _ _ _ _).trans ((if_neg fun e=>h1 e.symm).trans ((zI _ _ _ _ _).trans (if_neg fun e=>h2 e.symm)))
 have cl:∀ k,(s'.ob k).ao=((⟨t,ob⟩:ah).ob k).ao:=fun k=>by
  by_cases h1:k=q
  ·subst h1;rw [cq,bq]
  ·by_cases h2:k=i
   ·subst h2;rw [ci,bi]
   ·rw [co k h1 h2]
 have EW:∀ b,aF J w β ⟨t,ob⟩ b→aF J w β s' b:=fun b hb=>⟨hb.1,hb.2.1,fun id hid=>hb.2.2 id (by rw [← cl];exact hid)⟩
 have Fq:∀ u,fh w (β i) ⟨v,.own,E,sz,es⟩ u 0 m→fh w (β i) ⟨v+1,.own,E,sz,es.take m⟩ u 0 m:=fun u hu=>by
  obtain ⟨A,cc,k1,k2,k3,k4,k5⟩:=hu.ex;exact ⟨rfl,A,cc,k1,k2,by simp;omega,k4,k5⟩
 rw [← fE];refine ⟨β,hF.step (C:=fun k=>k=q∨k=i) hF.size hF.defers hF.bB (fun b hb=>⟨EW b hb,rfl⟩) (fun k=>.inl ⟨rfl,by rw [fE];rfl⟩) (fun k hk=>⟨co k (fun e=>hk (.inl e)) (fun e=>hk (.inr e)),rfl,fun _ _ _=>rfl⟩) ?_ ?_ ?_ (fun id aL b h1 h2=>hF.inj id aL b (by rw [← cl];exact h1) (by rw [← cl];exact h2)) (fun b _ hn=>⟨rfl,fun id hl=>hn id (by rw [← cl];exact hl)⟩)⟩
 ·rintro k (rfl|rfl)
  ·rw [cq,bq];exact zg _
  ·rw [ci,bi];exact Us _
 ·rintro k (rfl|rfl) hl hv
  ·refine ⟨by rw [bq];exact (by decide:Zn.aj≠.dead),rfl,by rw [cq,bq],by rw [cq,bq],fun u o n hu=>?_⟩;rw [bq] at hu;rw [cq];obtain ⟨A,cc,k1,k2,k3,k4,k5⟩:=hu.ex;exact ⟨rfl,A,cc,k1,k2,k3,k4,k5⟩
  ·rw [ci,bi] at hv;exact absurd hv (Qc v)
 ·rintro k (rfl|rfl) hl hT
  ·have hO:=(hF.obj k (by rw [← cl];exact hl)).eB (by rw [bq];rfl) (by rw [bq];rfl);rw [bq] at hO;rw [cq];obtain ⟨v1,us,r1,r2,r3,r4⟩:=hO.row;refine .ld ⟨by simp,fun f hf id ae hm=>?_,v1,us,r1,r2,r3,fun j u f hu hf=>?_⟩ rfl
   ·simp at hf;subst hf;obtain ⟨rfl,rfl⟩:id=i∧ae=v+1:=by simpa [FV.hands] using hm
    rw [ci];exact zg _
   ·have hj:j=0:=by
     have:=(yq.1 hf).1;simp at this;exact this
    subst hj;have bS : FV.own i (v+1) 0 m=f:=by simpa using hf
    subst bS;have h0:=r4 0 u (.own i v 0 m) hu rfl;intro _ _;rw [ci];have h1:=h0 (by rw [bi];exact (by decide:Zn.own≠.dead)) (by rw [bi]);rw [bi] at h1;exact Fq u h1
  ·have hO:=(hF.obj k (by rw [← cl];exact hl)).bM (by rw [bi];rfl);rw [bi] at hO;rw [ci];obtain ⟨v1,us,r1,r2,r3⟩:=hO.row;dsimp only at r1 r2 r3;have hw:=hO.wide;have cu:=zks (m:=m) hw;have we:(es.take m).length=m:=by rw [zW];omega
   refine .ofRow ⟨fun e he=>hw e (xn he),fun f hf=>hO.one f ?_,?_⟩ (.own rfl) rfl
   ·dsimp only at hf;rw [cu] at hf;exact xn hf
   ·have V4 : aS w (aF J w β s') (us.take (m * sz)) ((es.take m).flatten):=by
     rw [cu];exact (r3.take _).mono fun b hb=>⟨EW b hb,rfl⟩
    have im:(us.take (m * sz)).length=m * sz:=by
     rw [zW,r1.1];have:=ZG sz hm;omega
    rcases r1.2 with ⟨rfl,h0⟩|⟨b,cap,cur,rfl,h1,ec,hn,vN,bk,fz⟩
    ·obtain rfl:m=0:=by omega
     refine ⟨_,us.take (0 * sz),⟨by rw [we];exact im,.inl ⟨rfl,we⟩⟩,r2,V4⟩
    ·refine ⟨.slice (some ⟨b,0,none⟩) m cap,us.take (m * sz),⟨by rw [we];exact im,.inr ⟨b,cap,cur,by rw [we],h1,ec,by rw [we];omega,vN,bk,?_⟩⟩,r2,V4⟩;rw [we,← fz,Wf,Yx (ZG sz hm)]
section
variable {c:Ctx} {w0 w:World} {J:JJ} {s:ah} {a:Act} {β:Nat→Option Nat}
theorem FR.BL (h:FR c.N w0 J s a w β) (d E:Nat) {f:FV} (hv:VR w (aF J w β s) β s v f) (eu:∀ id ae,(id,ae)∈f.hands→ae≤(s.ob id).ae) :
  FR c.N w0 J (s.set d ⟨(s.ob d).ae+1,.aj,E,1,[[f]]⟩) a (w.alloc (.cells #[v] E)) (WX β d (some w.heap.size)):=by
 obtain ⟨s',fE⟩:∃ s' : ah,s'=s.set d ⟨(s.ob d).ae+1,.aj,E,1,[[f]]⟩:=⟨_,rfl⟩
 have cd:s'.ob d=⟨(s.ob d).ae+1,.aj,E,1,[[f]]⟩:=by rw [fE,ah.ay,if_pos rfl]
 have co:∀ k,k≠d→s'.ob k=s.ob k:=fun k hk=>by rw [fE,ah.ay,if_neg (fun e=>hk e.symm)]
 have bo:∀ k,k≠d→WX β d (some w.heap.size) k=β k:=fun k hk=>by unfold WX;rw [if_neg hk]
 have aO:∀ b,b<w.heap.size→(w.alloc (.cells #[v] E)).heap[b]? = w.heap[b]?:=fun b hb=>(Vj w (.cells #[v] E)).block b hb;have aK:∀ k,(s.ob k).ae≤(s'.ob k).ae:=fun k=>by
  by_cases hk:k=d
  ·subst hk;rw [cd];exact Us _
  ·rw [co k hk];exact zg _
 rw [← fE];refine h.step (C:=fun k=>k=d) h.size h.defers (h.bB.alloc h.bB.size _) (fun b hb=>⟨⟨?_,hb.2.1,fun id hid=>?_⟩,aO b hb.1⟩) (fun k=>.inl ⟨rfl,by rw [fE];rfl⟩) (fun k hk=>⟨co k hk,bo k hk,fun hl b hb=>aO b ((h.obj k hl).lt hb).2⟩) (fun k _=>aK k) ?_ ?_ ?_ ?_
 ·exact xx hb.1 (Vj w (.cells #[v] E)).size
 ·by_cases hk:id=d
  ·subst hk;rw [yM];intro e;injection e with e;have:=hb.1;omega
  ·rw [bo id hk];exact hb.2.2 id (by rw [← co id hk];exact hid)
 ·rintro k rfl hl hv;rw [cd] at hv;exact absurd hv (Qc _)
 ·rintro k rfl hl hT;rw [cd,yM];refine .ld ⟨by simp,fun g hg id ae hm=>?_,.slice (some ⟨w.heap.size,0,none⟩) 1 1,[v],⟨rfl,.inr ⟨w.heap.size,1,#[v],rfl,h.bB.size,heap_alloc_new w _,zg _,by simp [maxLen],rfl,rfl⟩⟩,rfl,rfl,fun j u g hu hg=>?_⟩ rfl
  ·simp at hg;subst hg;exact yc (eu id ae hm) (aK id)
  ·have hj:j=0:=by
    have:=(yq.1 hg).1;simp at this;exact this
   subst hj;have e1:f=g:=by simpa using hg
   have e2:v=u:=by simpa using hu
   subst e1;subst e2;exact hT v f hv eu
 ·intro id aL b h1 h2 e1 e2;by_cases hk:id=d
  ·by_cases ee : aL=d
   ·rw [hk,ee]
   ·subst hk;rw [yM] at e1;rw [bo aL ee] at e2;rw [co aL ee] at h2;injection e1 with e1
    have:=((h.obj aL h2).lt e2).2;omega
  ·by_cases ee : aL=d
   ·subst ee;rw [yM] at e2;rw [bo id hk] at e1;rw [co id hk] at h1;injection e2 with e2
    have:=((h.obj id h1).lt e1).2;omega
   ·rw [bo id hk] at e1;rw [bo aL ee] at e2;rw [co id hk] at h1;rw [co aL ee] at h2;exact h.inj id aL b h1 h2 e1 e2
 ·intro b hb hn;refine ⟨aO b hb,fun id hl=>?_⟩;by_cases hk:id=d
  ·subst hk;rw [yM];intro e;injection e with e;omega
  ·rw [bo id hk];exact hn id (by rw [← co id hk];exact hl)
end
section
variable {c:Ctx} {ops:Array Oper} {rest:List Oper} {t:List (Nat×FV)} {ob:List (Nat×zE)} {d:Nat} {ty:TypeId} {pos:String} {af:Array Edge} {gd:Option (Nat×Bool)} {QS:ah→Prop}
theorem zwm {f:FV} {v0 E0 gK:Nat} (hx:(⟨t,ob⟩:ah).ev x=f) (hf:Xh ⟨t,ob⟩ f) (hv:(⟨t,ob⟩:ah).ob d=⟨v0,lf0,E0,gK,du⟩) (hd:Nat.blt d c.N=true) (hw:ZB ops ⟨t,ob⟩ (⟨some d,.box T x,ty,pos,af,gd⟩:Oper) true)
  (k:zt c ops rest ⟨((d,(.ptr d (v0+1) 0 0))::t),((d,⟨v0+1,.aj,T,1,[[f]]⟩)::ob)⟩ QS):zt c ops ((⟨some d,.box T x,ty,pos,af,gd⟩:Oper)::rest) ⟨t,ob⟩ QS:=fun QQ w0 J a w β hQ hF=>by
 unfold wpList;rw [if_pos (hw.model hF)];refine .inl ?_;obtain ⟨kP,_⟩:=Xh.val hF hx hf;have eF:=hF.ev x;have eu:∀ aL br,(aL,br)∈f.hands→br≤((⟨t,ob⟩:ah).ob aL).ae:=fun aL br e=>hF.cg x (by rw [hx];exact e);rw [hx] at eF;have hN:=hF.BL d T eF eu;have bg:(execOp a.eval ⟨some d,.box T x,ty,pos,af,gd⟩).run c.P w=.ok (.value (.pointer (some ⟨w.heap.size,0,none⟩))) (w.alloc (.cells #[a.eval x] T)):=by
  simp [execOp,Instr.box,newVar,newRow,kP]
 rw [hv] at hN;refine ZO.wp (f:=.ptr d (v0+1) 0 0) (wr:=[(d,⟨v0+1,.aj,T,1,[[f]]⟩)]) ⟨_,_,_,bg,hN,fun _ _=>⟨?_,w.heap.size,yM _ _ _,by simp⟩,fun id ae e=>?_⟩ (fun d' e=>by injection e with e;subst e;exact zO hd) fun a' w' aJ eW=>k QQ w0 J a' w' aJ hQ eW
 ·show (ah.ob (ah.set _ d _) d).ao.bC=true;rw [ah.ay,if_pos rfl];rfl
 ·simp only [FV.hands,zq,xf] at e;obtain ⟨rfl,rfl⟩:=e;show _≤(ah.ob (ah.set _ _ _) _).ae;rw [ah.ay,if_pos rfl];exact zg _
theorem zl5 {v0 E0 gK:Nat} (hk:(c.ty T).k.known=true) (hz:(c.ty T).size=1) (hv:(⟨t,ob⟩:ah).ob d=⟨v0,lf0,E0,gK,du⟩) (hd:Nat.blt d c.N=true) (hw:ZB ops ⟨t,ob⟩ (⟨some d,.alloc T,ty,pos,af,gd⟩:Oper) true)
  (k:zt c ops rest ⟨((d,(.ptr d (v0+1) 0 0))::t),((d,⟨v0+1,.aj,T,1,[[.undef]]⟩)::ob)⟩ QS):zt c ops ((⟨some d,.alloc T,ty,pos,af,gd⟩:Oper)::rest) ⟨t,ob⟩ QS:=fun QQ w0 J a w β hQ hF=>by
 unfold wpList;rw [if_pos (hw.model hF)];refine .inl ?_;obtain ⟨z,h1,_,h3⟩:=ZX (c:=c) (T:=T) (fun e=>by rw [e] at hk;cases hk) w;obtain ⟨u,hu⟩:∃ u,z.cells=#[u]:=by
  have hl:z.cells.toList.length=1:=by rw [← hz,← h3];simp
  obtain ⟨u,hu⟩:=Wa.1 hl;exact ⟨u,by apply xU;rw [hu]⟩
 have hN:=hF.BL d T (f:=.undef) (v:=u) (VR.aX (.undef _) rfl) (fun _ _ e=>by cases e);have bg:(execOp a.eval ⟨some d,.alloc T,ty,pos,af,gd⟩).run c.P w=.ok (.value (.pointer (some ⟨w.heap.size,0,none⟩))) (w.alloc (.cells #[u] T)):=by
  simp [execOp,Instr.alloc,h1,newVar,newRow,hu]
 rw [hv] at hN;refine ZO.wp (f:=.ptr d (v0+1) 0 0) (wr:=[(d,⟨v0+1,.aj,T,1,[[.undef]]⟩)]) ⟨_,_,_,bg,hN,fun _ _=>⟨?_,w.heap.size,yM _ _ _,by simp⟩,fun id ae e=>?_⟩ (fun d' e=>by injection e with e;subst e;exact zO hd) fun a' w' aJ eW=>k QQ w0 J a' w' aJ hQ eW
 ·show (ah.ob (ah.set _ d _) d).ao.bC=true;rw [ah.ay,if_pos rfl];rfl
 ·simp only [FV.hands,zq,xf] at e;obtain ⟨rfl,rfl⟩:=e;show _≤(ah.ob (ah.set _ _ _) _).ae;rw [ah.ay,if_pos rfl];exact zg _
end
def Zs (q v n:Nat):zE:=⟨q,.aj,108,1,[[.own 5001 v 0 n]]⟩
def Xc (v:Nat) (l:List Int):zE:=⟨v,.own,3,1,l.map zJ⟩
theorem Vt {q v v' n' : Nat} {res:FV} {o:Nat→zE} {l l' : List Int} (hr:res.cl [5000,5001]=true) (h0:o 5000=Zs q v' n') (h1:o 5001=Xc v' l'):VK [(5000,Zs q v n),(5001,Xc v l)] [] res o where
 bL k hk hl:=by
  simp at hk;rcases hk with rfl|rfl
  ·rw [h0];exact ⟨rfl,rfl,rfl⟩
  ·rw [h1];exact ⟨rfl,rfl,rfl⟩
 new k hk:=by cases hk
 cl k hk:=by
  simp at hk;rcases hk with rfl|rfl
  ·rw [h0];rfl
  ·rw [h1];rfl
 res:=hr
theorem PO (q v:Nat) (l:List Int):xN Tryz.prog 48 [.ptr 5000 q 0 0] [(5000,Zs q v l.length),(5001,Xc v l)] [] (fun res o=>res=.int .i64 l.length∧o 5000=Zs q v l.length∧o 5001=Xc v l):=by
 refine xN.bH (c:=(fP Tryz.prog xp yF 7)) ⟨Tryz.func48,rfl,Tryz.ntmps48,by kernel_rfl⟩ xt ?_ ?_
 ·rintro res o ⟨rfl,h0,h1⟩;exact Vt rfl h0 h1
 change FW _ _ _ ⟨[(0,.ptr 5000 q 0 0)],[(5000,Zs q v l.length),(5001,Xc v l)]⟩;unfold Zs;refine zb ?_;exact FW.ret ⟨.inl rfl,_,.tmp (t:=2) rfl rfl,rfl,rfl,rfl⟩
theorem Vu (v:Nat) (l:List Int) (i j:Nat) (hi:i<l.length) (hj:j<l.length):xN Tryz.prog 117 [.own 5001 v 0 l.length,.int .i64 i,.int .i64 j] [(5001,Xc v l)] [] (fun res o=>res=.bool (decide (nth l i<nth l j))∧o 5001=Xc v l):=by
 refine xN.bH (c:=(fP Tryz.prog xp yF 16)) ⟨Tryz.func117,rfl,Tryz.ntmps117,by kernel_rfl⟩ xt ?_ ?_
 ·rintro res o ⟨rfl,h1⟩;exact Vs (v:=v) rfl (by rw [h1] <;> rfl) (by rw [h1] <;> rfl) rfl
 change FW _ _ _ ⟨[(0,.own 5001 v 0 l.length),(1,.int .i64 i),(2,.int .i64 j)],[(5001,Xc v l)]⟩;unfold Xc;refine Zf ?_;refine ⟨by kernel_rfl,?_⟩;skip;exact FW.ret ⟨.inl rfl,_,.tmp (t:=6) rfl rfl,rfl,rfl⟩
def swp (l:List Int) (i j:Nat):List Int:=(l.set i (nth l j)).set j (nth l i)
theorem YM (l:List Int) (i j:Nat):(swp l i j).length=l.length:=by simp [swp]
theorem Vv (v:Nat) (l:List Int) (i j:Nat) (hi:i<l.length) (hj:j<l.length):xN Tryz.prog 120 [.own 5001 v 0 l.length,.int .i64 i,.int .i64 j] [(5001,Xc v l)] [] (fun res o=>res=.bd []∧o 5001=Xc v (swp l i j)):=by
 refine xN.bH (c:=(fP Tryz.prog xp yF 20)) ⟨Tryz.func120,rfl,Tryz.ntmps120,by kernel_rfl⟩ xt ?_ ?_
 ·rintro res o ⟨rfl,h1⟩;exact Vs (v:=v) rfl (by rw [h1] <;> rfl) (by rw [h1] <;> rfl) rfl
 change FW _ _ _ ⟨[(0,.own 5001 v 0 l.length),(1,.int .i64 i),(2,.int .i64 j)],[(5001,Xc v l)]⟩;unfold Xc;refine Zf ?_;rw [show (zJ (nth l i)).set 0 (.int .i64 (nth l j))=zJ (nth l j) from rfl,← xc];obtain ⟨z,hz⟩:∃ z,l.set i (nth l j)=z:=⟨_,rfl⟩
 have lH:z.length=l.length:=by rw [← hz];simp
 have ng:swp l i j=z.set j (nth l i):=by rw [← hz];rfl
 rw [hz];refine zR.dN (Vn rfl rfl rfl rfl rfl rfl zM (by exact yY za) rfl rfl) rfl ?_;rw [show (zJ (nth z j)).set 0 (.int .i64 (nth l i))=zJ (nth l i) from rfl,← xc,← ng];refine zR.nil ⟨by kernel_rfl,?_⟩;skip;exact ⟨.inr rfl,_,.plain .nil rfl rfl,rfl,rfl⟩
theorem znv (q v:Nat) (l:List Int) (x:Int) (hl:l.length≤1000000):xN Tryz.prog 119 [.ptr 5000 q 0 0,.iface 3 (.int .i64 x)] [(5000,Zs q v l.length),(5001,Xc v l)] [] (fun res o=>res=.bd []∧o 5000=Zs q (v+1) (l++[x]).length∧o 5001=Xc (v+1) (l++[x])):=by
 refine xN.bH (c:=(fP Tryz.prog xp yF 13)) ⟨Tryz.func119,rfl,Tryz.ntmps119,by kernel_rfl⟩ xt ?_ ?_
 ·rintro res o ⟨rfl,h0,h1⟩;exact Vt rfl h0 h1
 change FW _ _ _ ⟨[(0,.ptr 5000 q 0 0),(1,.iface 3 (.int .i64 x))],[(5000,Zs q v l.length),(5001,Xc v l)]⟩;unfold Zs Xc;refine FW.post ?_;refine Zf ?_;refine ⟨by kernel_rfl,?_⟩;skip;obtain ⟨Z,hZ⟩:∃ Z,(l++[x]).map zJ=Z:=⟨_,rfl⟩
 obtain ⟨m,hm⟩:∃ m,(l++[x]).length=m:=⟨_,rfl⟩
 have hZ1:l.map zJ++[[.int .i64 x]]=Z:=by rw [← hZ,zF];rfl
 have Nc:Z.length=m:=by rw [← hZ,← hm,zj]
 rw [hZ1,Nc,hZ,hm];refine ⟨⟨[],[(5000,⟨q,.aj,108,1,[[.own 5001 (v+1) 0 m]]⟩),(5001,⟨v+1,.own,3,1,Z⟩)]⟩,?_,.inr rfl,_,.plain .nil rfl rfl,rfl,rfl,rfl⟩;exact (ar.cv [⟨5000,some 5000,q,⟨q,.aj,108,1,[[.own 5001 (v+1) 0 m]]⟩⟩,⟨5001,some 11,0+1,⟨v+1,.own,3,1,Z⟩⟩] zh xu)
theorem zqp (q v:Nat) (l:List Int) (x:Int) (hl:l.length≤1000000):xN Tryz.prog 118 [.ptr 5000 q 0 0] [(5000,Zs q v (l++[x]).length),(5001,Xc v (l++[x]))] [] (fun res o=>res=.iface 3 (.int .i64 x)∧o 5000=Zs q (v+1) l.length∧o 5001=Xc (v+1) l):=by
 refine xN.bH (c:=(fP Tryz.prog xp yF 27)) ⟨Tryz.func118,rfl,Tryz.ntmps118,by kernel_rfl⟩ xt ?_ ?_
 ·rintro res o ⟨rfl,h0,h1⟩;exact Vt rfl h0 h1
 change FW _ _ _ ⟨[(0,.ptr 5000 q 0 0)],[(5000,Zs q v (l++[x]).length),(5001,Xc v (l++[x]))]⟩;unfold Zs Xc;obtain ⟨z,hz⟩:∃ z,l++[x]=z:=⟨_,rfl⟩
 have lH:z.length=l.length+1:=by rw [← hz];simp
 have hzx:nth z l.length=x:=by rw [← hz];exact ZA
 have hzt:z.take l.length=l:=by rw [← hz];simp
 rw [hz];have nZ:(((z.length:Nat):Int) - 1).toNat=l.length:=by omega
 refine Zf ?_;rw [nZ,hzx];refine ⟨by kernel_rfl,?_⟩;refine Zf ?_;rw [nZ,Nat.sub_zero];refine ⟨by kernel_rfl,?_⟩;refine FW.le ?_ (ar.cut (m:=l.length) 5000 5001 zd rfl rfl zM);rw [← List.map_take,hzt];refine zb ?_;exact FW.ret ⟨.inl rfl,_,.tmp (t:=2) rfl rfl,rfl,rfl,rfl⟩
def p9:Nat→List Int→Nat→List Int
 | 0, l, _ => l
 | k+1, l, j => if j=0 ∨ ¬ nth l j<nth l ((j - 1) / 2) then l else p9 k (swp l ((j - 1) / 2) j) ((j - 1) / 2)
theorem ztC:∀ (k:Nat) (l:List Int) (j:Nat),(p9 k l j).length=l.length
 | 0, _, _ => rfl
 | k+1, l, j => by
  unfold p9;split
  ·rfl
  ·rw [ztC,YM]
def JG (q:Nat):FV:=.wrap (.mI 107) [.ptr 5000 q 0 0]
theorem zve (q v:Nat) (l:List Int) (j:Nat) (hj:j<l.length) (hl:l.length≤1000000):xN Tryz.prog 67 [JG q,.int .i64 j] [(5000,Zs q v l.length),(5001,Xc v l)] [] (fun res o=>res=.bd []∧o 5000=Zs q v l.length∧o 5001=Xc v (p9 (j+1) l j)):=by
 refine xN.bH (c:=(fP Tryz.prog xp yF 23)) ⟨Tryz.func67,rfl,Tryz.ntmps67,by kernel_rfl⟩ xt ?_ ?_
 ·rintro res o ⟨rfl,h0,h1⟩;exact Vt rfl h0 h1
 obtain ⟨n,hn⟩:∃ n,l.length=n:=⟨_,rfl⟩
 obtain ⟨R,hR⟩:∃ R,p9 (j+1) l j=R:=⟨_,rfl⟩
 rw [hR,hn];rw [hn] at hj hl;change FW _ _ _ ⟨[(0,.wrap (.mI 107) [.ptr 5000 q 0 0]),(1,.int .i64 j)],[(5000,Zs q v n),(5001,Xc v l)]⟩;refine yW ?_;refine FW.loop (fun x:List Int×Nat=>⟨[(0,.wrap (.mI 107) [.ptr 5000 q 0 0]),(1,.int .i64 x.2)],[(5000,Zs q v n),(5001,Xc v x.1)]⟩) (fun x=>x.1.length=n∧x.2<n∧∃ k,x.2<k+1∧p9 (k+1) x.1 x.2=R) (fun x=>x.2) (l,j) ⟨hn,hj,j,Wh _,hR⟩ (ar.refl _) ?_;clear hR hn hj l j;rintro ⟨l,j⟩ ⟨hn,hj,k,hk,hR⟩;dsimp only at hn hj hk hR ⊢;unfold p9 at hR;obtain ⟨p,hp⟩:∃ p,(j - 1) / 2=p:=⟨_,rfl⟩
 have wy:p≤j:=by omega
 have hq:IntKind.i64.wrap (((j:Int) - 1).tdiv 2)=(p:Nat):=by
  rw [zqN _ (by
   rcases Yv j with rfl|h
   ·decide
   ·have:=Int.tdiv_nonneg (a:=(j:Int) - 1) (b:=2) za za;omega) (by
   rcases Yv j with rfl|h
   ·decide
   ·rw [Rp za];omega)]
  rcases Yv j with rfl|h
  ·subst hp;decide
  ·rw [Rp za];omega
 rw [hp] at hR;refine zb ?_;refine zt.ai (zvW rfl rfl zd) rfl rfl ?_;rw [hq];refine zb ?_;refine yR (fun h1=>?_) (fun h1=>?_)
 ·have oK:j=0:=by simp at h1;omega
  rw [if_pos (.inl oK)] at hR;subst hR;refine zb ?_;exact ⟨.inr rfl,_,.plain .nil rfl rfl,rfl,rfl,rfl⟩
 ·have oK:j≠0:=by rintro rfl;simp at h1;omega
  refine zb ?_;have hL:=Vu v l j p za za;have hS:=Vv v l p j za za;rw [hn] at hL hS;refine Yh (e:=108) (f:=117) rfl rfl rfl zw zw rfl hL [(5001,5001)] rfl (zQ.cons rfl rfl rfl zQ.nil) rfl rfl rfl rfl rfl ⟨_,_,rfl,rfl,rfl⟩ ?_;rintro _ _ ⟨rfl,h2⟩;refine ZQ.one [(5001,Xc v l)] (.bool (decide (nth l j<nth l p))) rfl (congrArg (fun b=>[(5001,zE.ren (cM [(5001,5001)]) b)]) h2) ?_;clear h2;refine zb ?_;refine FW.cond rfl (fun h2=>?_) (fun h2=>?_)
  ·rw [if_pos (.inr (by simpa using h2))] at hR;subst hR;refine zb ?_;exact ⟨.inr rfl,_,.plain .nil rfl rfl,rfl,rfl,rfl⟩
  ·rw [if_neg (by simp at h2;simp [oK,h2])] at hR;refine zb ?_;refine Yh (e:=108) (f:=120) rfl rfl rfl zw zw rfl hS [(5001,5001)] rfl (zQ.cons rfl rfl rfl zQ.nil) rfl rfl rfl rfl rfl rfl ?_;rintro _ _ ⟨rfl,h3⟩;refine ZQ.one [(5001,Xc v (swp l p j))] (.bd []) rfl (congrArg (fun b=>[(5001,zE.ren (cM [(5001,5001)]) b)]) h3) ?_;clear h3;refine zb ?_;refine ⟨(swp l p j,p),⟨by rw [YM];exact hn,by show p<n;omega,k - 1,by show p<k - 1+1;omega,by rw [show k - 1+1=k by omega];exact hR⟩,by show p<j;omega,?_⟩
   ·generalize swp l p j=Z;unfold Zs Xc;exact (ar.cv [⟨5000,some 5000,q,⟨q,.aj,108,1,[[.own 5001 v 0 n]]⟩⟩,⟨5001,some 5001,v,⟨v,.own,3,1,Z.map zJ⟩⟩] zh zf)
def sC (l:List Int) (i m:Nat):Nat:=if 2 * i+1+1<m∧nth l (2 * i+1+1)<nth l (2 * i+1) then 2 * i+1+1 else 2 * i+1
def oq:Nat→List Int→Nat→Nat→List Int
 | 0, l, _, _ => l
 | k+1, l, i, m => if m ≤ 2 * i+1 ∨ ¬ nth l (sC l i m)<nth l i then l else oq k (swp l i (sC l i m)) (sC l i m) m
theorem zkY:∀ (k:Nat) (l:List Int) (i m:Nat),(oq k l i m).length=l.length
 | 0, _, _, _ => rfl
 | k+1, l, i, m => by
  unfold oq;split
  ·rfl
  ·rw [zkY,YM]
theorem zpw (q v:Nat) (l:List Int) (i m:Nat) (hi:i<l.length) (hm:m≤l.length) (hl:l.length≤1000000):xN Tryz.prog 68 [JG q,.int .i64 i,.int .i64 m] [(5000,Zs q v l.length),(5001,Xc v l)] [] (fun res o=>(∃ b,res=.bool b)∧o 5000=Zs q v l.length∧o 5001=Xc v (oq (m+1) l i m)):=by
 refine xN.bH (c:=(fP Tryz.prog xp yF 48)) ⟨Tryz.func68,rfl,Tryz.ntmps68,by kernel_rfl⟩ xt ?_ ?_
 ·rintro res o ⟨⟨b,rfl⟩,h0,h1⟩;exact Vt rfl h0 h1
 obtain ⟨n,hn⟩:∃ n,l.length=n:=⟨_,rfl⟩
 obtain ⟨R,hR⟩:∃ R,oq (m+1) l i m=R:=⟨_,rfl⟩
 rw [hR,hn];rw [hn] at hi hl hm;change FW _ _ _ ⟨[(0,.wrap (.mI 107) [.ptr 5000 q 0 0]),(1,.int .i64 i),(2,.int .i64 m)],[(5000,Zs q v n),(5001,Xc v l)]⟩;refine zb ?_;refine FW.loop (fun x:List Int×Nat=>⟨[(0,.wrap (.mI 107) [.ptr 5000 q 0 0]),(1,.int .i64 i),(2,.int .i64 m),(7,.int .i64 x.2)],[(5000,Zs q v n),(5001,Xc v x.1)]⟩) (fun x=>x.1.length=n∧x.2<n∧∃ k,m<x.2+k+1∧oq (k+1) x.1 x.2 m=R) (fun x=>n - x.2) (l,i) ⟨hn,hi,m,by dsimp only;omega,hR⟩ ?_ ?_
 ·unfold Zs Xc;exact (ar.cv [⟨5000,some 5000,q,⟨q,.aj,108,1,[[.own 5001 v 0 n]]⟩⟩,⟨5001,some 5001,v,⟨v,.own,3,1,l.map zJ⟩⟩] zh zf)
 clear hR hn l;obtain ⟨i0,iD⟩:∃ i0,i=i0:=⟨_,rfl⟩
 rw [iD] at hi ⊢;clear iD hi i;rintro ⟨l,i⟩ ⟨hn,hi,k,hk,hR⟩;dsimp only at hn hi hk hR ⊢;have h2:((2 * (i:Nat)+1:Nat):Int)=2 * (i:Int)+1:=by omega
 have h3:((2 * (i:Nat)+1+1:Nat):Int)=2 * (i:Int)+1+1:=by omega
 obtain ⟨a,ha⟩:∃ a,2 * i+1=a:=⟨_,rfl⟩
 have EX:sC l i m=if a+1<m∧nth l (a+1)<nth l a then a+1 else a:=by rw [← ha];rfl
 obtain ⟨j,hj⟩:∃ j,sC l i m=j:=⟨_,rfl⟩
 rw [hj] at EX;unfold oq at hR;rw [hj,ha] at hR;refine zb ?_;rw [← h2,ha];skip;refine yR (fun h1=>?_) (fun h1=>?_)
 ·rw [if_pos (.inl (by simpa using h1))] at hR;subst hR;refine zb ?_;exact FW.ret ⟨.inl rfl,_,.tmp (t:=6) rfl rfl,⟨_,rfl⟩,rfl,rfl⟩
 ·have ham:a<m:=by simp at h1;omega
  refine zb ?_;have hjb:i<j∧j<m:=by rw [EX];split <;> omega
  refine yR (fun h4=>?_) (fun h4=>?_)
  ·refine zb ?_;have m8:a+1<m:=by simp at h4;omega
   have S9:=Vu v l (a+1) a za za;rw [hn] at S9;refine Yh (e:=108) (f:=117) rfl rfl rfl zw zw rfl S9 [(5001,5001)] rfl (zQ.cons rfl rfl rfl zQ.nil) rfl rfl rfl rfl rfl ⟨_,_,rfl,rfl,rfl⟩ ?_;rintro _ _ ⟨rfl,h5⟩;refine ZQ.one [(5001,Xc v l)] (.bool (decide (nth l (a+1)<nth l a))) rfl (congrArg (fun b=>[(5001,zE.ren (cM [(5001,5001)]) b)]) h5) ?_;clear h5;refine zb ?_;refine FW.cond rfl (fun h6=>?_) (fun h6=>?_)
   ·rw [if_pos ⟨m8,by simpa using h6⟩] at EX;refine FW.region ?_;refine zt.ai (zD rfl) rfl rfl ?_;refine zt.ai (yj rfl) rfl rfl ?_;refine zt.nil ?_;refine FW.le (s':=⟨[(0,.wrap (.mI 107) [.ptr 5000 q 0 0]),(1,.int .i64 i0),(2,.int .i64 m),(7,.int .i64 i),(9,.int .i64 j)],[(5000,⟨q,.aj,108,1,[[.own 5001 v 0 n]]⟩),(5001,⟨v,.own,3,1,l.map zJ⟩)]⟩) ?_ ?_
    ·have hL:=Vu v l j i za za;have hS:=Vv v l i j za za;rw [hn] at hL hS;refine zb ?_;refine Yh (e:=108) (f:=117) rfl rfl rfl zw zw rfl hL [(5001,5001)] rfl (zQ.cons rfl rfl rfl zQ.nil) rfl rfl rfl rfl rfl rfl ?_;rintro _ _ ⟨rfl,h5⟩;refine ZQ.one [(5001,Xc v l)] (.bool (decide (nth l j<nth l i))) rfl (congrArg (fun b=>[(5001,zE.ren (cM [(5001,5001)]) b)]) h5) ?_;clear h5;refine zb ?_;refine FW.cond rfl (fun h2=>?_) (fun h2=>?_)
     ·rw [if_pos (.inr (by simpa using h2))] at hR;subst hR;refine zb ?_;exact FW.ret ⟨.inl rfl,_,.tmp (t:=6) rfl rfl,⟨_,rfl⟩,rfl,rfl⟩
     ·rw [if_neg (by simp at h2;simp [h2];omega)] at hR;refine zb ?_;refine Yh (e:=108) (f:=120) rfl rfl rfl zw zw rfl hS [(5001,5001)] rfl (zQ.cons rfl rfl rfl zQ.nil) rfl rfl rfl rfl rfl rfl ?_;rintro _ _ ⟨rfl,h5⟩;refine ZQ.one [(5001,Xc v (swp l i j))] (.bd []) rfl (congrArg (fun b=>[(5001,zE.ren (cM [(5001,5001)]) b)]) h5) ?_;clear h5;refine zb ?_;refine ⟨(swp l i j,j),⟨by rw [YM];exact hn,by show j<n;omega,k - 1,by show m<j+(k - 1)+1;omega,by rw [show k - 1+1=k by omega];exact hR⟩,by show n - j<n - i;omega,?_⟩;generalize swp l i j=Z;unfold Xc;exact (ar.cv [⟨5000,some 5000,q,⟨q,.aj,108,1,[[.own 5001 v 0 n]]⟩⟩,⟨5001,some 5001,v,⟨v,.own,3,1,Z.map zJ⟩⟩] zh zf)
    ·unfold Zs Xc;exact (ar.cv [⟨5000,some 5000,q,⟨q,.aj,108,1,[[.own 5001 v 0 n]]⟩⟩,⟨5001,some 5001,v,⟨v,.own,3,1,l.map zJ⟩⟩] zh zf)
   ·rw [if_neg (fun q=>by simp at h6;have:=q.2;omega)] at EX;refine FW.skip ?_;refine FW.le (s':=⟨[(0,.wrap (.mI 107) [.ptr 5000 q 0 0]),(1,.int .i64 i0),(2,.int .i64 m),(7,.int .i64 i),(9,.int .i64 j)],[(5000,⟨q,.aj,108,1,[[.own 5001 v 0 n]]⟩),(5001,⟨v,.own,3,1,l.map zJ⟩)]⟩) ?_ ?_
    ·have hL:=Vu v l j i za za;have hS:=Vv v l i j za za;rw [hn] at hL hS;refine zb ?_;refine Yh (e:=108) (f:=117) rfl rfl rfl zw zw rfl hL [(5001,5001)] rfl (zQ.cons rfl rfl rfl zQ.nil) rfl rfl rfl rfl rfl rfl ?_;rintro _ _ ⟨rfl,h5⟩;refine ZQ.one [(5001,Xc v l)] (.bool (decide (nth l j<nth l i))) rfl (congrArg (fun b=>[(5001,zE.ren (cM [(5001,5001)]) b)]) h5) ?_;clear h5;refine zb ?_;refine FW.cond rfl (fun h2=>?_) (fun h2=>?_)
     ·rw [if_pos (.inr (by simpa using h2))] at hR;subst hR;refine zb ?_;exact FW.ret ⟨.inl rfl,_,.tmp (t:=6) rfl rfl,⟨_,rfl⟩,rfl,rfl⟩
     ·rw [if_neg (by simp at h2;simp [h2];omega)] at hR;refine zb ?_;refine Yh (e:=108) (f:=120) rfl rfl rfl zw zw rfl hS [(5001,5001)] rfl (zQ.cons rfl rfl rfl zQ.nil) rfl rfl rfl rfl rfl rfl ?_;rintro _ _ ⟨rfl,h5⟩;refine ZQ.one [(5001,Xc v (swp l i j))] (.bd []) rfl (congrArg (fun b=>[(5001,zE.ren (cM [(5001,5001)]) b)]) h5) ?_;clear h5;refine zb ?_;refine ⟨(swp l i j,j),⟨by rw [YM];exact hn,by show j<n;omega,k - 1,by show m<j+(k - 1)+1;omega,by rw [show k - 1+1=k by omega];exact hR⟩,by show n - j<n - i;omega,?_⟩;generalize swp l i j=Z;unfold Xc;exact (ar.cv [⟨5000,some 5000,q,⟨q,.aj,108,1,[[.own 5001 v 0 n]]⟩⟩,⟨5001,some 5001,v,⟨v,.own,3,1,Z.map zJ⟩⟩] zh zf)
    ·unfold Zs Xc;exact (ar.cv [⟨5000,some 5000,q,⟨q,.aj,108,1,[[.own 5001 v 0 n]]⟩⟩,⟨5001,some 5001,v,⟨v,.own,3,1,l.map zJ⟩⟩] zh zf)
  ·have m8:¬ a+1<m:=by simp at h4;omega
   rw [if_neg (fun q=>m8 q.1)] at EX
   (repeat (first|refine FW.seq ?_|refine FW.region ?_|refine FW.skip ?_|refine FW.oE rfl ?_|refine zt.nil ?_|refine zt.ai (H4 rfl rfl) rfl rfl ?_|refine ztf rfl rfl ⟨_,_,rfl,rfl,rfl⟩ ?_))
   refine zt.le (s':=⟨[(0,.wrap (.mI 107) [.ptr 5000 q 0 0]),(1,.int .i64 i0),(2,.int .i64 m),(7,.int .i64 i),(9,.int .i64 j)],[(5000,⟨q,.aj,108,1,[[.own 5001 v 0 n]]⟩),(5001,⟨v,.own,3,1,l.map zJ⟩)]⟩) ?_ ?_
   ·have hL:=Vu v l j i za za;have hS:=Vv v l i j za za;rw [hn] at hL hS;refine zb ?_;refine Yh (e:=108) (f:=117) rfl rfl rfl zw zw rfl hL [(5001,5001)] rfl (zQ.cons rfl rfl rfl zQ.nil) rfl rfl rfl rfl rfl rfl ?_;rintro _ _ ⟨rfl,h5⟩;refine ZQ.one [(5001,Xc v l)] (.bool (decide (nth l j<nth l i))) rfl (congrArg (fun b=>[(5001,zE.ren (cM [(5001,5001)]) b)]) h5) ?_;clear h5;refine zb ?_;refine FW.cond rfl (fun h2=>?_) (fun h2=>?_)
    ·rw [if_pos (.inr (by simpa using h2))] at hR;subst hR;refine zb ?_;exact FW.ret ⟨.inl rfl,_,.tmp (t:=6) rfl rfl,⟨_,rfl⟩,rfl,rfl⟩
    ·rw [if_neg (by simp at h2;simp [h2];omega)] at hR;refine zb ?_;refine Yh (e:=108) (f:=120) rfl rfl rfl zw zw rfl hS [(5001,5001)] rfl (zQ.cons rfl rfl rfl zQ.nil) rfl rfl rfl rfl rfl rfl ?_;rintro _ _ ⟨rfl,h5⟩;refine ZQ.one [(5001,Xc v (swp l i j))] (.bd []) rfl (congrArg (fun b=>[(5001,zE.ren (cM [(5001,5001)]) b)]) h5) ?_;clear h5;refine zb ?_;refine ⟨(swp l i j,j),⟨by rw [YM];exact hn,by show j<n;omega,k - 1,by show m<j+(k - 1)+1;omega,by rw [show k - 1+1=k by omega];exact hR⟩,by show n - j<n - i;omega,?_⟩;generalize swp l i j=Z;unfold Xc;exact (ar.cv [⟨5000,some 5000,q,⟨q,.aj,108,1,[[.own 5001 v 0 n]]⟩⟩,⟨5001,some 5001,v,⟨v,.own,3,1,Z.map zJ⟩⟩] zh zf)
   ·unfold Zs Xc;exact (ar.cv [⟨5000,some 5000,q,⟨q,.aj,108,1,[[.own 5001 v 0 n]]⟩⟩,⟨5001,some 5001,v,⟨v,.own,3,1,l.map zJ⟩⟩] zh zf)
def mT (l:List Int) (x:Int):List Int:=p9 (l.length+1) (l++[x]) l.length
theorem QN (l:List Int) (x:Int):(mT l x).length=l.length+1:=by unfold mT;rw [ztC];simp
def ZJ (l:List Int) (n:Nat):List Int:=oq (n+1) (swp l 0 n) 0 n
theorem QM (l:List Int) (n:Nat):(ZJ l n).length=l.length:=by unfold ZJ;rw [zkY,YM]
theorem zne (q v:Nat) (l:List Int) (x:Int) (hl:l.length≤100000):xN Tryz.prog 47 [JG q,.iface 3 (.int .i64 x)] [(5000,Zs q v l.length),(5001,Xc v l)] [] (fun res o=>res=.bd []∧o 5000=Zs q (v+1) (l.length+1)∧o 5001=Xc (v+1) (mT l x)):=by
 refine xN.bH (c:=(fP Tryz.prog xp yF 12)) ⟨Tryz.func47,rfl,Tryz.ntmps47,by kernel_rfl⟩ xt ?_ ?_
 ·rintro res o ⟨rfl,h0,h1⟩;exact Vt rfl h0 h1
 change FW _ _ _ ⟨[(0,.wrap (.mI 107) [.ptr 5000 q 0 0]),(1,.iface 3 (.int .i64 x))],[(5000,Zs q v l.length),(5001,Xc v l)]⟩;refine zb ?_;refine Kk (e:=108) (f:=119) rfl zw zw (znv q v l x za) [(5000,5000),(5001,5001)] rfl (zQ.cons rfl rfl rfl (zQ.cons rfl rfl rfl zQ.nil)) rfl rfl rfl rfl rfl rfl ?_;rintro _ aM ⟨rfl,h1,h2⟩;refine ZQ.one [(5000,Zs q (v+1) (l++[x]).length),(5001,Xc (v+1) (l++[x]))] (.bd []) rfl (by show [(5000,zE.ren _ (look {} aM 5000)),(5001,zE.ren _ (look {} aM 5001))]=_;rw [h1,h2];rfl) ?_;clear h1 h2 aM;have lH:(l++[x]).length=l.length+1:=by simp
 have hp:mT l x=p9 (l.length+1) (l++[x]) l.length:=rfl;obtain ⟨z,hz⟩:∃ z,l++[x]=z:=⟨_,rfl⟩
 rw [hz] at lH hp;rw [hz,lH,hp];have nY:((z.length:Nat):Int) - 1=l.length:=by omega
 refine zb ?_;have hL:=PO q (v+1) z;rw [lH] at hL;refine Kk (e:=108) (f:=48) rfl zw zw hL [(5000,5000),(5001,5001)] rfl (zQ.cons rfl rfl rfl (zQ.cons rfl rfl rfl zQ.nil)) rfl rfl rfl rfl rfl rfl ?_;rintro _ aM ⟨rfl,h1,h2⟩;refine ZQ.one [(5000,Zs q (v+1) (l.length+1)),(5001,Xc (v+1) z)] (.int .i64 (l.length+1:Nat)) rfl (by show [(5000,zE.ren _ (look {} aM 5000)),(5001,zE.ren _ (look {} aM 5001))]=_;rw [h1,h2];rfl) ?_;clear h1 h2 aM;refine zb ?_;rw [show ((l.length+1:Nat):Int) - 1=l.length by omega];have hU:=zve q (v+1) z l.length za za;rw [lH] at hU;refine Yq hU [(5000,5000),(5001,5001)] rfl (zQ.cons rfl rfl rfl (zQ.cons rfl rfl rfl zQ.nil)) rfl rfl rfl rfl rfl rfl ?_;rintro _ aM ⟨rfl,h1,h2⟩;refine ZQ.one [(5000,Zs q (v+1) (l.length+1)),(5001,Xc (v+1) (p9 (l.length+1) z l.length))] (.bd []) rfl (by show [(5000,zE.ren _ (look {} aM 5000)),(5001,zE.ren _ (look {} aM 5001))]=_;rw [h1,h2];rfl) ?_;clear h1 h2 aM;refine zb ?_;exact ⟨.inr rfl,_,.plain .nil rfl rfl,rfl,rfl,rfl⟩
theorem zpY (q v:Nat) (l:List Int) (n:Nat) (hn:l.length=n+1) (hl:n≤100000):xN Tryz.prog 49 [JG q] [(5000,Zs q v l.length),(5001,Xc v l)] [] (fun res o=>res=.iface 3 (.int .i64 (nth (ZJ l n) n))∧o 5000=Zs q (v+1) n∧o 5001=Xc (v+1) ((ZJ l n).take n)):=by
 refine xN.bH (c:=(fP Tryz.prog xp yF 15)) ⟨Tryz.func49,rfl,Tryz.ntmps49,by kernel_rfl⟩ xt ?_ ?_
 ·rintro res o ⟨rfl,h0,h1⟩;exact Vt rfl h0 h1
 rw [hn];change FW _ _ _ ⟨[(0,.wrap (.mI 107) [.ptr 5000 q 0 0])],[(5000,Zs q v (n+1)),(5001,Xc v l)]⟩;have hL:=PO q v l;have hS:=Vv v l 0 n za za;have hD:=zpw q v (swp l 0 n) 0 n (by rw [YM];omega) (by rw [YM];omega) (by rw [YM];omega);have nc:(swp l 0 n).length=n+1:=by rw [YM];exact hn
 have td:(ZJ l n).length=n+1:=by rw [QM];exact hn
 have Bw:ZJ l n=(ZJ l n).take n++[nth (ZJ l n) n]:=by
  conv=>lhs;rw [← YR n (ZJ l n)]
  congr 1;rw [BW za,ak za,VN za]
 have nW:((ZJ l n).take n).length=n:=by rw [zW];omega
 have hP:=zqp q v ((ZJ l n).take n) (nth (ZJ l n) n) (by rw [nW];omega);rw [← Bw,nW,td] at hP;rw [nc] at hD;rw [show oq (n+1) (swp l 0 n) 0 n=ZJ l n from rfl] at hD;rw [hn] at hL hS;refine zb ?_;refine Kk (e:=108) (f:=48) rfl zw zw hL [(5000,5000),(5001,5001)] rfl (zQ.cons rfl rfl rfl (zQ.cons rfl rfl rfl zQ.nil)) rfl rfl rfl rfl rfl rfl ?_;rintro _ aM ⟨rfl,h1,h2⟩;refine ZQ.one [(5000,Zs q v (n+1)),(5001,Xc v l)] (.int .i64 (n+1:Nat)) rfl (by show [(5000,zE.ren _ (look {} aM 5000)),(5001,zE.ren _ (look {} aM 5001))]=_;rw [h1,h2];rfl) ?_;clear h1 h2 aM;have Dd:((n+1:Nat):Int) - 1=n:=by omega
 refine zb ?_;rw [Dd];refine Yh (e:=108) (f:=120) rfl rfl rfl zw zw rfl hS [(5001,5001)] rfl (zQ.cons rfl rfl rfl zQ.nil) rfl rfl rfl rfl rfl rfl ?_;rintro _ _ ⟨rfl,h5⟩;refine ZQ.one [(5001,Xc v (swp l 0 n))] (.bd []) rfl (congrArg (fun b=>[(5001,zE.ren (cM [(5001,5001)]) b)]) h5) ?_;clear h5;refine zb ?_;refine Yq hD [(5000,5000),(5001,5001)] rfl (zQ.cons rfl rfl rfl (zQ.cons rfl rfl rfl zQ.nil)) rfl rfl rfl rfl rfl rfl ?_;rintro _ aM ⟨⟨b,rfl⟩,h1,h2⟩;refine ZQ.one [(5000,Zs q v (n+1)),(5001,Xc v (ZJ l n))] (.bool b) rfl (by show [(5000,zE.ren _ (look {} aM 5000)),(5001,zE.ren _ (look {} aM 5001))]=_;rw [h1,h2];rfl) ?_;clear h1 h2 aM;refine zb ?_;refine Kk (e:=108) (f:=118) rfl zw zw hP [(5000,5000),(5001,5001)] rfl (zQ.cons rfl rfl rfl (zQ.cons rfl rfl rfl zQ.nil)) rfl rfl rfl rfl rfl rfl ?_;rintro _ aM ⟨rfl,h1,h2⟩;refine ZQ.one [(5000,Zs q (v+1) n),(5001,Xc (v+1) ((ZJ l n).take n))] (.iface 3 (.int .i64 (nth (ZJ l n) n))) rfl (by show [(5000,zE.ren _ (look {} aM 5000)),(5001,zE.ren _ (look {} aM 5001))]=_;rw [h1,h2];rfl) ?_;clear h1 h2 aM;refine zb ?_;exact FW.ret ⟨.inl rfl,_,.tmp (t:=2) rfl rfl,rfl,rfl,rfl⟩
end
theorem RF {l:List Int} (hi:i<l.length) (hj:j<l.length):(swp l i j).Perm l:=by
 unfold swp;rw [ak hi,ak hj];exact List.set_set_perm hi hj
theorem R3 {l:List Int} (hi:i<l.length) (hj:j<l.length) (q:Nat):nth (swp l i j) q=if q=j then nth l i else if q=i then nth l j else nth l q:=by
 unfold swp;by_cases h1:q=j
 ·subst h1;rw [if_pos rfl,yf (by simpa using hj)]
 ·rw [if_neg h1,yn (fun e=>h1 e.symm)];by_cases h2:q=i
  ·subst h2;rw [if_pos rfl,yf hi]
  ·rw [if_neg h2,yn (fun e=>h2 e.symm)]
def Iw (l:List Int) (m:Nat):Prop:=∀ c,0<c→c<m→nth l ((c - 1) / 2)≤nth l c
structure UpI (l:List Int) (m j:Nat):Prop where
 a:∀ c,0<c→c<m→c≠j→nth l ((c - 1) / 2)≤nth l c
 b:∀ c,0<c→c<m→(c - 1) / 2=j→0<j→nth l ((j - 1) / 2)≤nth l c
theorem zo3:∀ (k:Nat) (l:List Int) (j m:Nat),j<k→j<m→m≤l.length→UpI l m j→Iw (p9 k l j) m∧(p9 k l j).Perm l
 | 0, _, _, _, hk, _, _, _ => by omega
 | k + 1,l,j,m,hk,hj,hm,h=>by
  unfold p9;split
  ·rename_i hc;refine ⟨fun c h0 vN=>?_,.refl _⟩;by_cases e:c=j
   ·subst e;rcases hc with hc|hc
    ·omega
    ·omega
   ·exact h.a c h0 vN e
  ·rename_i hc;have h0:0<j:=by omega
   have aA:nth l j<nth l ((j - 1) / 2):=by
    by_cases q:nth l j<nth l ((j - 1) / 2)
    ·exact q
    ·exact absurd (.inr q) hc
   obtain ⟨p,hp⟩:∃ p,(j - 1) / 2=p:=⟨_,rfl⟩
   rw [hp] at aA ⊢;have wy:p<j:=by omega
   have hs:=R3 (l:=l) (i:=p) (j:=j) za za;have hr:=zo3 k (swp l p j) p m za za (by rw [YM];exact hm) ⟨fun c c0 cm ce=>?_,fun c c0 cm ce p0=>?_⟩
   ·exact ⟨hr.1,hr.2.trans (RF za za)⟩
   ·rw [hs,hs];by_cases e1:c=j
    ·subst e1;rw [if_neg za,if_pos za,if_pos rfl];omega
    ·rw [if_neg e1,if_neg ce];have ha:=h.a c c0 cm e1;by_cases e2:(c - 1) / 2=j
     ·rw [if_pos e2];have:=h.b c c0 cm e2 h0;rw [hp] at this;exact this
     ·rw [if_neg e2];by_cases e3:(c - 1) / 2=p
      ·rw [if_pos e3];rw [e3] at ha;omega
      ·rw [if_neg e3];exact ha
   ·rw [hs,hs,if_neg za,if_neg za];have h1:=h.a p p0 za za;by_cases e1:c=j
    ·rw [if_pos e1];exact h1
    ·rw [if_neg e1,if_neg za];have h2:=h.a c c0 cm e1;rw [ce] at h2;omega
structure DnI (l:List Int) (m i:Nat):Prop where
 a:∀ c,0<c→c<m→(c - 1) / 2≠i→nth l ((c - 1) / 2)≤nth l c
 b:∀ c,0<c→c<m→(c - 1) / 2=i→0<i→nth l ((i - 1) / 2)≤nth l c
theorem zpv {l:List Int} {m:Nat} (h:2 * i+1<m):(sC l i m - 1) / 2=i∧i<sC l i m∧sC l i m<m∧∀ c,0<c→c<m→(c - 1) / 2=i→nth l (sC l i m)≤nth l c:=by
 unfold sC;split
 ·rename_i hc;refine ⟨by omega,by omega,by omega,fun c c0 cm ce=>?_⟩;rcases (by omega:c=2 * i+1∨c=2 * i+1+1) with rfl|rfl
  ·exact Int.le_of_lt hc.2
  ·exact XR _
 ·rename_i hc;refine ⟨by omega,by omega,by omega,fun c c0 cm ce=>?_⟩;rcases (by omega:c=2 * i+1∨c=2 * i+1+1) with rfl|rfl
  ·exact XR _
  ·have:=fun q=>hc ⟨cm,q⟩;omega
theorem zig:∀ (k:Nat) (l:List Int) (i m:Nat),m<i+k→m≤l.length→i<l.length→DnI l m i→Iw (oq k l i m) m∧(oq k l i m).Perm l∧∀ q,m≤q→q≠i→nth (oq k l i m) q=nth l q
 | 0, l, i, m, hk, hm, hi, h => ⟨fun c c0 cm => h.a c c0 cm za, .refl _, fun _ _ _ => rfl⟩
 | k + 1,l,i,m,hk,hm,hi,h=>by
  unfold oq;by_cases JK:m≤2 * i+1
  ·rw [if_pos (.inl JK)];exact ⟨fun c c0 cm=>h.a c c0 cm za,.refl _,fun _ _ _=>rfl⟩
  ·obtain ⟨j1,j2,j3,j4⟩:=zpv (l:=l) (i:=i) (m:=m) za;generalize sC l i m=j at j1 j2 j3 j4;by_cases aA:nth l j<nth l i
   ·rw [if_neg (by rintro (q|q);omega;exact q aA)];have hs:=R3 (l:=l) (i:=i) (j:=j) za za;have hr:=zig k (swp l i j) j m za (by rw [YM];exact hm) (by rw [YM];omega) ⟨fun c c0 cm ce=>?_,fun c c0 cm ce _=>?_⟩
    ·refine ⟨hr.1,hr.2.1.trans (RF za za),fun q q1 q2=>?_⟩;rw [hr.2.2 q q1 za,hs,if_neg za,if_neg q2]
    ·rw [hs,hs];rw [if_neg ce];by_cases e1:(c - 1) / 2=i
     ·rw [if_pos e1];have h4:=j4 c c0 cm e1;by_cases e2:c=j
      ·rw [if_pos e2];omega
      ·rw [if_neg e2,if_neg za];exact h4
     ·rw [if_neg e1];have ha:=h.a c c0 cm e1;by_cases e2:c=j
      ·subst e2;exact absurd j1 e1
      ·rw [if_neg e2];by_cases e3:c=i
       ·subst e3;rw [if_pos rfl];exact h.b j za j3 j1 c0
       ·rw [if_neg e3];exact ha
    ·rw [hs,hs,j1,if_neg za,if_pos rfl,if_neg za,if_neg za];have ha:=h.a c c0 cm za;rw [ce] at ha;exact ha
   ·rw [if_pos (.inr aA)];refine ⟨fun c c0 cm=>?_,.refl _,fun _ _ _=>rfl⟩;by_cases e:(c - 1) / 2=i
    ·have:=j4 c c0 cm e;rw [e];omega
    ·exact h.a c c0 cm e
theorem Iw.least {l:List Int} {m:Nat} (h:Iw l m):∀ c,c<m→nth l 0≤nth l c:=by
 intro c
 induction c using Nat.strongRecOn with
 | ind c ih=>
  intro hc;rcases Yv c with rfl|h0
  ·exact XR _
  ·have h1:=h c h0 hc;have h2:=ih ((c - 1) / 2) za za;omega
def qf (l:List Int):Prop:=Iw l l.length
theorem qf.nil:qf []:=fun c _ h=>by simp at h
theorem qf.push {l:List Int} (h:qf l) (x:Int):qf (mT l x)∧(mT l x).Perm (x::l):=by
 have hr:=zo3 (l.length+1) (l++[x]) l.length (l.length+1) (Wh _) (Wh _) zc ⟨fun c c0 cm ce=>?_,fun c c0 cm ce _=>by omega⟩
 ·refine ⟨?_,hr.2.trans (List.perm_append_comm (l₁:=l) (l₂:=[x]))⟩;unfold qf;rw [QN];exact hr.1
 ·rw [xQ za,xQ za];exact h c c0 za
theorem qf.pop {l:List Int} (h:qf l) (hn:l.length=n+1):nth (ZJ l n) n=nth l 0∧(∀ x∈l,nth l 0≤x)∧qf ((ZJ l n).take n)∧l.Perm (nth l 0::(ZJ l n).take n):=by
 have hs:=R3 (l:=l) (i:=0) (j:=n) za za;have hr:=zig (n+1) (swp l 0 n) 0 n za (by rw [YM];omega) (by rw [YM];omega) ⟨fun c c0 cm ce=>?_,fun c c0 cm ce q=>by omega⟩
 ·have td:=QM l n;have e1:nth (ZJ l n) n=nth l 0:=by
   rcases Yv n with rfl|h0
   ·have:ZJ l 0=swp l 0 0:=by
     unfold ZJ oq;rw [if_pos (.inl za)]
    rw [this,hs,if_pos rfl]
   ·have:=hr.2.2 n (zg _) za;show nth (oq (n+1) (swp l 0 n) 0 n) n=_;rw [this,hs,if_pos rfl]
  have Bw:ZJ l n=(ZJ l n).take n++[nth (ZJ l n) n]:=by
   conv=>lhs;rw [← YR n (ZJ l n)]
   congr 1;rw [BW za,ak za,VN za]
  have nW:((ZJ l n).take n).length=n:=by rw [zW];omega
  refine ⟨e1,fun x hx=>?_,?_,?_⟩
  ·obtain ⟨i,hi,rfl⟩:=zU hx;rw [← ak hi];exact h.least i hi
  ·intro c c0 cm;rw [nW] at cm;have h1:=hr.1 c c0 cm;have h2:∀ q,q<n→nth ((ZJ l n).take n) q=nth (ZJ l n) q:=fun q hq=>by
    rw [ak za,ak za,Uj]
   rw [h2 c cm,h2 _ za];exact h1
  ·have h3:l.Perm (ZJ l n):=(hr.2.1.trans (RF za za)).symm;rw [Bw,e1] at h3;exact h3.trans (List.perm_append_comm (l₁:=(ZJ l n).take n) (l₂:=[nth l 0]))
 ·rw [hs,hs,if_neg za,if_neg ce,if_neg za,if_neg za];exact h c c0 za
def kG (m:List Int) (w:Int):List Int:=m.set w.toNat (nth m w.toNat+1)
def tP (n:Nat) (E:List (Nat×Nat)):List Int:=(yG n E).foldl (fun m r=>r.foldl kG m) (List.replicate n 0)
def eL (s:List Int×List Int) (w:Int):List Int×List Int:=
 (s.1.set w.toNat (nth s.1 w.toNat - 1),if nth s.1 w.toNat - 1=0 then mT s.2 w else s.2)
def XB (m:List Int) (k:Nat):List Int:=(List.range k).foldl (fun h v=>if nth m v=0 then mT h v else h) []
structure lQ where
 m:List Int
 h:List Int
 out:List Int
def Zb (n:Nat) (E:List (Nat×Nat)):lQ:=⟨tP n E,XB (tP n E) n,[]⟩
def ZY (E:List (Nat×Nat)) (s:lQ):lQ:=
 let v:=nth (ZJ s.h (s.h.length - 1)) (s.h.length - 1)
 let q:=(zP E v.toNat).foldl eL (s.m,(ZJ s.h (s.h.length - 1)).take (s.h.length - 1))
 ⟨q.1,q.2,s.out++[v]⟩
def xw (E:List (Nat×Nat)):Nat→lQ→lQ
 | 0, s => s
 | k+1, s => if s.h=[] then s else xw E k (ZY E s)
def Yj (n:Nat) (E:List (Nat×Nat)):List Int:=(xw E (n+1) (Zb n E)).out
theorem zot (m:List Int) (w:Int):(kG m w).length=m.length:=by simp [kG]
theorem QO:∀ (r m:List Int),(r.foldl kG m).length=m.length
 | [], _ => rfl
 | w :: r, m => by rw [XT, QO, zot]
theorem QP {n:Nat}:∀ {r m:List Int},r.Nodup→(∀ w∈r,0≤w∧w<n)→m.length=n→∀ w:Nat,w<n→nth (r.foldl kG m) w=nth m w+if (w:Int)∈r then 1 else 0
 | [], m, _, _, _, w, _ => by simp
 | x::r,m,hd,hr,hm,w,hw=>by
  rw [XT,QP (yp.1 hd).2 (fun q hq=>hr q (by simp [hq])) (by rw [zot];exact hm) w hw];have hx:=hr x zc;unfold kG;by_cases e:x.toNat=w
  ·subst e;have GS:((x.toNat:Nat):Int)=x:=by omega
   rw [yf za,GS,if_neg (yp.1 hd).1,if_pos zc];omega
  ·rw [yn e];have:¬ (w:Int)=x:=by omega
   simp [this]
theorem Qq {n:Nat}:∀ {rows:List (List Int)} {m:List Int},(∀ r∈rows,r.Nodup∧∀ w∈r,0≤w∧w<n)→m.length=n→(rows.foldl (fun m r=>r.foldl kG m) m).length=n∧∀ w:Nat,w<n→nth (rows.foldl (fun m r=>r.foldl kG m) m) w=nth m w+(rows.countP fun r=>decide ((w:Int)∈r):Nat)
 | [], m, _, hm => ⟨hm, fun w _ => by simp⟩
 | r :: rows, m, hr, hm => by
  obtain ⟨h1,h2⟩:=hr r zc;obtain ⟨k1,k2⟩:=Qq (rows:=rows) (m:=r.foldl kG m) (fun q hq=>hr q (by simp [hq])) (by rw [QO];exact hm);refine ⟨k1,fun w hw=>?_⟩;rw [XT,k2 w hw,QP h1 h2 hm w hw,Xd];by_cases e:(w:Int)∈r
  ·simp [e];omega
  ·simp [e]
theorem VB (E:List (Nat×Nat)) (v:Nat):(zP E v).Nodup:=(zmj E v).imp fun h=>by omega
def nz (n:Nat) (E:List (Nat×Nat)) (out:List Int) (w:Nat):Nat:=(List.range n).countP fun u:Nat=>decide ((u:Int)∉out) && decide ((w:Int)∈zP E u)
theorem ziH (h:dV n E):(tP n E).length=n∧∀ w:Nat,w<n→nth (tP n E) w=nz n E [] w:=by
 have hz:(List.replicate n (0:Int)).length=n:=by simp
 obtain ⟨k1,k2⟩:=Qq (n:=n) (rows:=yG n E) (m:=List.replicate n 0) (fun r hr=>by
  obtain ⟨u,_,rfl⟩:=zi.1 hr;exact ⟨VB E u,fun w hw=>Zh h hw⟩) hz
 refine ⟨k1,fun w hw=>?_⟩;unfold tP;rw [k2 w hw,ak (by simpa using hw)];unfold nz yG;rw [List.countP_map];simp [Function.comp_def]
structure TI (n:Nat) (E:List (Nat×Nat)) (s:lQ):Prop where
 len:s.m.length=n
 si:s.out.Nodup
 uQ:∀ v∈s.out,0≤v∧v<n
 cnt:∀ w:Nat,w<n→nth s.m w=nz n E s.out w
 hp:qf s.h
 hN:s.h.Nodup
 hM:∀ x,x∈s.h↔(0≤x∧x<n)∧x∉s.out∧nth s.m x.toNat=0
 oz:∀ v∈s.out,nth s.m v.toNat=0
theorem Ka (m:List Int):∀ k,qf (XB m k)∧(XB m k).Nodup∧(∀ x,x∈XB m k↔(0≤x∧x<k)∧nth m x.toNat=0)
 | 0 => ⟨qf.nil, Ul, fun x => by
  constructor
  ·intro h;cases h
  ·rintro ⟨⟨h1,h2⟩,_⟩;omega⟩
 | k + 1=>by
  obtain ⟨h1,h2,h3⟩:=Ka m k;have e:XB m (k+1)=if nth m k=0 then mT (XB m k) k else XB m k:=by
   unfold XB;rw [yQ,ZU];rfl
  rw [e];by_cases hz:nth m k=0
  ·rw [if_pos hz];obtain ⟨p1,p2⟩:=h1.push (k:Int);refine ⟨p1,p2.nodup_iff.2 (yp.2 ⟨fun hm=>?_,h2⟩),fun x=>?_⟩
   ·have:=(h3 _).1 hm;omega
   ·rw [p2.mem_iff,zA,h3];constructor
    ·rintro (rfl|⟨q1,q2⟩)
     ·exact ⟨by omega,by simpa using hz⟩
     ·exact ⟨by omega,q2⟩
    ·rintro ⟨q1,q2⟩;by_cases hx:x=k
     ·exact .inl hx
     ·exact .inr ⟨by omega,q2⟩
  ·rw [if_neg hz];refine ⟨h1,h2,fun x=>?_⟩;rw [h3];constructor
   ·rintro ⟨q1,q2⟩;exact ⟨by omega,q2⟩
   ·rintro ⟨q1,q2⟩;refine ⟨⟨q1.1,?_⟩,q2⟩;by_cases hx:x=k
    ·subst hx;rw [zK] at q2;exact absurd q2 hz
    ·omega
theorem TI.start (h:dV n E):TI n E (Zb n E):=by
 obtain ⟨k1,k2⟩:=ziH h;obtain ⟨r1,r2,r3⟩:=Ka (tP n E) n;refine ⟨k1,Ul,(fun v hv=>by cases hv),k2,r1,r2,(fun x=>?_),(fun v hv=>by cases hv)⟩;show x∈XB (tP n E) n↔_;rw [r3];constructor
 ·rintro ⟨q1,q2⟩;exact ⟨q1,Ky,q2⟩
 ·rintro ⟨q1,_,q2⟩;exact ⟨q1,q2⟩
structure DI (n:Nat) (E:List (Nat×Nat)) (out rest:List Int) (s:List Int×List Int):Prop where
 len:s.1.length=n
 cnt:∀ w:Nat,w<n→nth s.1 w=nz n E out w+if (w:Int)∈rest then 1 else 0
 hp:qf s.2
 hN:s.2.Nodup
 hM:∀ x,x∈s.2↔(0≤x∧x<n)∧x∉out∧nth s.1 x.toNat=0
 oz:∀ v∈out,nth s.1 v.toNat=0
theorem DI.eL {out rest:List Int} {w:Int} {s:List Int×List Int} (h:DI n E out (w::rest) s) (hd:(w::rest).Nodup) (hw:0≤w∧w<n) (wo:∀ v∈out,(0:Int)≤v∧v<n):DI n E out rest (eL s w):=by
 obtain ⟨w,rfl⟩:∃ w' : Nat,w=w':=⟨w.toNat,by omega⟩
 have pP:w<n:=by omega
 have hc:=h.cnt w pP;rw [if_pos zc] at hc;have fa:(w:Int)∉out:=fun hm=>by have:=h.oz _ hm;rw [zK] at this;omega
 have wm:(w:Int)∉s.2:=fun hm=>by have:=((h.hM _).1 hm).2.2;rw [zK] at this;omega
 have bI:nth (s.1.set w (nth s.1 w - 1)) w=nth s.1 w - 1:=yf (by rw [h.len];exact pP);have tv:=(yp.1 hd).1;unfold Proofs.YtphidhljdcledaaGreat.eL;rw [zK];have aN:∀ x:Int,0≤x→x≠w→nth (s.1.set w (nth s.1 w - 1)) x.toNat=nth s.1 x.toNat:=fun x U5 hx=>yn za;have nI:∀ q:Nat,q<n→nth (s.1.set w (nth s.1 w - 1)) q=nz n E out q+if (q:Int)∈rest then 1 else 0:=fun q hq=>by
  by_cases e:q=w
  ·subst e;rw [bI,if_neg tv];omega
  ·rw [yn (fun e2=>e e2.symm),h.cnt q hq];have:¬ (q:Int)=w:=by omega
   simp [this]
 have TV:∀ v∈out,nth (s.1.set w (nth s.1 w - 1)) v.toNat=0:=fun v hv=>by
  rw [aN v (wo v hv).1 (fun e=>fa (e▸hv))];exact h.oz v hv
 by_cases hz:nth s.1 w - 1=0
 ·rw [if_pos hz];obtain ⟨p1,p2⟩:=h.hp.push (w:Int);refine ⟨by simpa using h.len,nI,p1,p2.nodup_iff.2 (yp.2 ⟨wm,h.hN⟩),fun x=>?_,TV⟩;dsimp only;rw [p2.mem_iff,zA,h.hM];constructor
  ·rintro (rfl|⟨q1,q2,q3⟩)
   ·exact ⟨hw,fa,by rw [zK,bI];exact hz⟩
   ·refine ⟨q1,q2,?_⟩;by_cases e:x=w
    ·subst e;rw [zK,bI];exact hz
    ·rw [aN x q1.1 e];exact q3
  ·rintro ⟨q1,q2,q3⟩;by_cases e:x=w
   ·exact .inl e
   ·rw [aN x q1.1 e] at q3;exact .inr ⟨q1,q2,q3⟩
 ·rw [if_neg hz];refine ⟨by simpa using h.len,nI,h.hp,h.hN,fun x=>?_,TV⟩;dsimp only;rw [h.hM];constructor
  ·rintro ⟨q1,q2,q3⟩;refine ⟨q1,q2,?_⟩;by_cases e:x=w
   ·subst e;rw [zK] at q3;omega
   ·rw [aN x q1.1 e];exact q3
  ·rintro ⟨q1,q2,q3⟩;refine ⟨q1,q2,?_⟩;by_cases e:x=w
   ·subst e;rw [zK,bI] at q3;omega
   ·rw [aN x q1.1 e] at q3;exact q3
theorem DI.fold {n:Nat} {E:List (Nat×Nat)} {out:List Int} (wo:∀ v∈out,(0:Int)≤v∧v<n):∀ {r2 r1:List Int} {s:List Int×List Int},DI n E out (r1++r2) s→(r1++r2).Nodup→(∀ w∈r1++r2,0≤w∧w<n)→DI n E out r2 (r1.foldl Proofs.YtphidhljdcledaaGreat.eL s)
 | r2, [], s, h, _, _ => h
 | r2, w :: r1, s, h, hd, hr => DI.fold wo (r1 := r1) (h.eL hd (hr w zc) wo) (yp.1 hd).2 (fun q hq => hr q (by simp at hq ⊢; exact .inr hq))
theorem zrh {out:List Int} {v w:Nat} (hv:v<n) (ho:(v:Int)∉out):nz n E out w=nz n E (out++[(v:Int)]) w+if (w:Int)∈zP E v then 1 else 0:=by
 unfold nz;have key:∀ l:List Nat,l.Nodup→(l.countP fun u:Nat=>decide ((u:Int)∉out) && decide ((w:Int)∈zP E u))=(l.countP fun u:Nat=>decide ((u:Int)∉out++[(v:Int)]) && decide ((w:Int)∈zP E u))+if v∈l∧(w:Int)∈zP E v then 1 else 0:=by
  intro l
  induction l with
  | nil => intro _; simp
  | cons u l ih=>
   intro hd;obtain ⟨h1,h2⟩:=yp.1 hd;rw [Xd,Xd,ih h2];by_cases e:u=v
   ·subst e;by_cases hm:(w:Int)∈zP E u
    ·simp [hm,ho,h1]
    ·simp [hm]
   ·have e1:¬ (u:Int)=v:=by omega
    have e2:¬ v=u:=fun q=>e q.symm;simp [e1,e2];omega
 have:=key (List.range n) Wd;simpa [hv] using this
theorem TI.first {s:lQ} (h:TI n E s) (hk:s.h.length=k+1):∃ v:Nat,nth (ZJ s.h k) k=(v:Int)∧v<n∧(v:Int)∉s.out∧nth s.m v=0∧(∀ x∈s.h,(v:Int)≤x)∧DI n E (s.out++[(v:Int)]) (zP E v) (s.m,(ZJ s.h k).take k)∧(s.out++[(v:Int)]).Nodup∧∀ x∈s.out++[(v:Int)],(0:Int)≤x∧x<n:=by
 obtain ⟨p1,p2,p3,p4⟩:=h.hp.pop hk;have kV:nth s.h 0∈s.h:=zu za;obtain ⟨q1,q2,q3⟩:=(h.hM _).1 kV;obtain ⟨v,hv⟩:∃ v:Nat,nth s.h 0=v:=⟨(nth s.h 0).toNat,by omega⟩
 rw [hv] at p1 p2 p4 q1 q2 q3;rw [zK] at q3;have iu:v<n:=by omega
 have dP:=p4.nodup_iff.1 h.hN;obtain ⟨d1,d2⟩:=yp.1 dP;have wo:∀ x∈s.out++[(v:Int)],(0:Int)≤x∧x<n:=fun x hx=>by
  rcases zC.1 hx with hx|hx
  ·exact h.uQ x hx
  ·rw [zq.1 hx];omega
 refine ⟨v,p1,iu,q2,q3,p2,⟨h.len,fun w hw=>?_,p3,d2,fun x=>?_,fun x hx=>?_⟩,xX.2 ⟨h.si,by simp,fun a ha b hb=>?_⟩,wo⟩
 ·rw [h.cnt w hw,zrh iu q2];split <;> simp
 ·dsimp only;constructor
  ·intro hx;obtain ⟨a,b,c⟩:=(h.hM x).1 (p4.mem_iff.2 (xW _ hx));refine ⟨a,fun hm=>?_,c⟩;rcases zC.1 hm with hm|hm
   ·exact b hm
   ·rw [zq.1 hm] at hx;exact d1 hx
  ·rintro ⟨a,b,c⟩;have:=p4.mem_iff.1 ((h.hM x).2 ⟨a,fun hm=>b (xm _ hm),c⟩);rcases zA.1 this with e|e
   ·exact absurd (by rw [e];simp) b
   ·exact e
 ·dsimp only;rcases zC.1 hx with hx|hx
  ·exact h.oz x hx
  ·rw [zq.1 hx,zK];exact q3
 ·rw [zq.1 hb];intro e;subst e;exact q2 ha
theorem TI.last {out:List Int} {q:List Int×List Int} (h:DI n E out [] q) (hN:out.Nodup) (hR:∀ x∈out,(0:Int)≤x∧x<n):TI n E ⟨q.1,q.2,out⟩ where
 len:=h.len
 si:=hN
 uQ:=hR
 cnt w hw:=by have:=h.cnt w hw;simpa using this
 hp:=h.hp
 hN:=h.hN
 hM:=h.hM
 oz:=h.oz
theorem TI.step {n:Nat} {E:List (Nat×Nat)} {s:lQ} (hE:dV n E) (h:TI n E s) (h0:s.h≠[]):TI n E (ZY E s):=by
 obtain ⟨k,hk⟩:∃ k,s.h.length=k+1:=⟨s.h.length - 1,by have:=Uk.2 h0;omega⟩
 obtain ⟨v,e,hv,_,_,_,hD,hN,hR⟩:=h.first hk;unfold ZY;rw [show s.h.length - 1=k by omega,e];dsimp only;rw [zK];have hD':=DI.fold (r1:=zP E v) (r2:=[]) hR (by rw [zT];exact hD) (by rw [zT];exact VB E v) (by rw [zT];exact fun w hw=>Zh hE hw);exact TI.last hD' hN hR
theorem UJ:∀ {n:Nat} {l:List Int},l.Nodup→(∀ x∈l,(0:Int)≤x∧x<n)→l.length≤n
 | 0, l, _, hR => by
  cases l with
  | nil => exact zg _
  | cons x l => have := hR x zc; omega
 | n+1,l,hN,hR=>by
  have h1:=UJ (n:=n) (hN.erase (n:Int)) fun x hx=>by
   obtain ⟨q1,q2⟩:=hN.mem_erase_iff.1 hx;have:=hR x q2;omega
  by_cases hm:(n:Int)∈l
  ·rw [Yt hm] at h1;omega
  ·rw [List.erase_of_not_mem hm] at h1;omega
theorem TI.le {s:lQ} (h:TI n E s):s.out.length≤n:=UJ h.si h.uQ
theorem TI.hle {s:lQ} (h:TI n E s):s.h.length≤n:=UJ h.hN fun x hx=>((h.hM x).1 hx).1
theorem Pp (E:List (Nat×Nat)) (s:lQ):(ZY E s).out.length=s.out.length+1:=by simp [ZY]
theorem W5 (E:List (Nat×Nat)):∀ (k:Nat) (s:lQ),s.h=[]→xw E k s=s
 | 0, _, _ => rfl
 | k+1, s, h => by unfold xw; rw [if_pos h]
theorem Po {n:Nat} {E:List (Nat×Nat)} (hE:dV n E):∀ (k:Nat) (s:lQ),TI n E s→n<s.out.length+k→(xw E k s).h=[]∧TI n E (xw E k s)
 | 0, s, h, hk => by have := h.le; omega
 | k+1,s,h,hk=>by
  unfold xw;split
  ·rename_i e;exact ⟨e,h⟩
  ·rename_i e;refine Po hE k _ (h.step hE e) ?_;rw [Pp];omega
section
open Go.RowKit
section
variable {c:Ctx} {ops:Array Oper} {rest:List Oper} {t:List (Nat×FV)} {ob:List (Nat×zE)} {d:Nat} {ty lJ:TypeId} {pos pos2:String} {af lW:Array Edge} {QS:ah→Prop}
theorem zpQ {a:Act} {g:Option (Nat×Bool)} {dst:Option Nat} (h:FR c.N w0 J s a w β) {e:Nat} (hT:(c.ty T).k=.slice e) (he:(c.ty e).k≠.other) (hz:(c.ty e).size=1) (O0:(c.ty e).zero=[f0]) (h1:f0.one=true) (x:Operand) {id ae o m:Nat} (ex:s.ev x=.own id ae o m) (hl:(s.ob id).ao=.own) (hv:(s.ob id).ae=ae) (aY:(s.ob id).sz=1) (kV:0<m) :
  ∃ W,(execOp a.eval ⟨dst,.call { callee:=.builtin .clear,args:=#[x],argTypes:=#[T] },ty,pos,af,g⟩).run c.P w=.ok (.value (.tuple #[])) W∧FR c.N w0 J (s.wr [(id,{ s.ob id with es:=av (s.ob id).es o (List.replicate m [f0]) })]) a W β:=by
 have au:(s.ob id).ao≠.dead:=by rw [hl];decide
 have bK:(s.ob id).ao.row=true:=by rw [hl];rfl
 obtain ⟨dd,ii,z,ht⟩:=c.get hT zc;have hd:=ht.k;rw [hT] at hd;obtain rfl:=xJ hd;obtain ⟨zv,z1,z2,z3⟩:=ZX he w;rw [hz] at z3;rw [O0] at z2;obtain ⟨u,hu⟩:∃ u,zv.cells=#[u]:=by
  have hl:zv.cells.toList.length=1:=by simpa using z3
  obtain ⟨u,hu⟩:=Wa.1 hl;exact ⟨u,by apply xU;rw [hu]⟩
 have hrz:aS w (aF J w β s) [u] [f0]:=by have:=aS.zeros (w:=w) (I:=aF J w β s) z2;rwa [hu] at this
 have T3:=hrz.2 0 u f0 rfl rfl;have hou:=T3.gH h1;obtain ⟨A,cc,e1,e2,e3,e4,e5⟩:=(h.cj ex au hv).ex;obtain ⟨b,hb⟩:∃ b,β id=some b:=by
  cases aU:β id with
  | none => obtain ⟨q1, q2⟩ := e4 aU; omega
  | some b => exact ⟨b, rfl⟩
 obtain ⟨o',rfl,k2,k3⟩:=e5 b hb;have:=k2 (.inl za);subst this;obtain ⟨cur,cap,bp,hn,hm,bk,hr,aj⟩:=h.block au bK hb;have hw:=((h.obj id au).bM bK).wide;have bQ:=((h.obj id au).bM bK).one;rw [aY] at hw bk hr aj e1;simp only [xY] at bk hr aj e1;generalize lC:(s.ob id).es=es at hn hr aj hw bQ e3;obtain ⟨us,lG⟩:∃ us,List.replicate m u=us:=⟨_,rfl⟩
 have OR:us.length=m:=by rw [← lG];simp
 obtain ⟨q2,mB⟩:∃ q2,List.replicate m [f0]=q2:=⟨_,rfl⟩
 have hq2l:q2.length=m:=by rw [← mB];simp
 have uw:∀ q∈q2,q.length=1:=fun q hq=>by rw [← mB] at hq;rw [Xt hq];rfl
 have TZ:q2.flatten=List.replicate m f0:=by rw [← mB,List.flatten_replicate_singleton]
 have Gr:aS w (aF J w β s) us q2.flatten:=by
  rw [TZ,← lG];refine ⟨by simp,fun j v f hv hf=>?_⟩;have a1:=Xt (zG hv);have a2:=Xt (zG hf);rw [a1,a2];exact T3
 have Ar:∀ v∈us,v.oneCell'=true:=fun v hv=>by rw [← lG] at hv;rw [Xt hv];exact hou
 have jT:o+us.length≤cur.size:=by rw [OR,bk];omega
 have aO:=run_storeCells_at c.P b o (s.ob id).E us 0 cur w bp za Ar;simp only [ZZ] at aO;obtain ⟨W,hW⟩:∃ W,W=w.setRow b (av cur.toList o us).toArray:=⟨_,rfl⟩
 have nV : (storeCells ⟨b,o,none⟩ us).run c.P w=.ok () W:=by rw [hW];exact aO
 have l7:W.heap[b]? = some (.cells (av cur.toList o us).toArray (s.ob id).E (0,0)):=by rw [hW];exact Zt w b _ cur _ bp
 have jv:w.grownBy W (β id):=by
  subst hW;refine ⟨rfl,rfl,rfl,by simp [World.setRow],fun k hk aN=>Yg w b k _ (fun e=>aN (by rw [e,hb]))⟩
 have ch:cur.toList.length=cap:=by simpa using bk
 have nW:(cur.toList.take es.length).length=es.length:=by rw [zW,ch];omega
 have mG:(av es o q2).length=es.length:=Zk za;have c7 : W.ownsRow w0.heap.size (s.ob id).E 1 (.slice (some ⟨b,0,none⟩) es.length cap) (av es o q2).length (av (cur.toList.take es.length) o us):=by
  rw [mG];refine ⟨?_,.inr ⟨b,cap,_,rfl,((h.obj id au).lt hb).1,l7,hn,hm,?_,?_⟩⟩
  ·rw [Zk za,nW,xY]
  ·simp only [Ve];rw [Zk za,ch,xY]
  ·rw [xY];have key:∀ (L p:Nat) (cs ds:List Value),p+ds.length≤L→L≤cs.length→(av cs p ds).take L=av (cs.take L) p ds:=by
    intro L p cs ds h1 h2;unfold av;rw [yV,yV,We,zW,Yx za,We,Wf,Wf,KL za,Yx za,zS (by omega:ds.length≤L - p),Rr];congr 3;omega
   exact key _ _ _ _ za za
 refine ⟨W,?_,?_⟩
 ·have Dn:(Builtin.zeroCells zv.cells m).toList=us:=by
   rw [hu,← lG];simp [Builtin.zeroCells];apply BZ
   ·simp
   ·intro i h1 h2;simp [Nat.mod_one]
  obtain ⟨m',rfl⟩:∃ m',m=m'+1:=⟨m - 1,by omega⟩
  have GD:(Builtin.clear_ #[T] ty #[.slice (some ⟨b,o,none⟩) (m'+1) cc]).run c.P w=.ok (.tuple #[]) W:=by
   simp [Builtin.clear_,run_underlying ht.u,z1,Dn,nV]
  simp [execOp,resolve,invoke,builtin,e1,GD]
 ·refine h.write id (es:=av es o q2) (v:=.slice (some ⟨b,0,none⟩) es.length cap) (xs:=av (cur.toList.take es.length) o us) hl jv ?_ ?_ ?_ hb.symm ?_ ?_ ?_ (fun k=>?_) (fun k=>ah.eO _ _ _)
  ·rw [aY];intro q hq;rcases UH hq with hq|hq
   ·exact hw q hq
   ·exact uw q hq
  ·intro f hf;obtain ⟨q,hq,vS⟩:=yJ.1 hf;rcases UH hq with hq|hq
   ·exact bQ f (yJ.2 ⟨q,hq,vS⟩)
   ·have eh:f∈q2.flatten:=yJ.2 ⟨q,hq,vS⟩;rw [TZ] at eh;rw [Xt eh];exact h1
  ·rw [aY];exact c7
  ·rw [Y4 hw uw];exact hr.av Gr _
  ·rw [lC,mG]
  ·intro b' EG ui cb h1 h2;rw [hb] at cb;injection cb with cb
   subst cb;rw [bp] at h1;injection h1 with h1
   injection h1 with h1 _ _
   subst h1;rw [l7] at h2;injection h2 with h2
   injection h2 with h2 _ _
   rw [← h2];simp only [Ve];rw [Zk za,ch,bk]
  ·rw [← lC,← mB];exact ah.ay s id _ k
theorem zuZ {e c8:Nat} {kk:TK} {id ae o m E:Nat} (hT:(c.ty T).k=.slice e) (he:c.ty e=⟨kk,1,c8,[f0]⟩) (hk:kk.known=true) (h1:f0.one=true) (hx:(⟨t,ob⟩:ah).ev x=.own id ae o m) (hb:(⟨t,ob⟩:ah).ob id=⟨ae,.own,E,1,es⟩) (kV:0<m) (hw:ZB ops ⟨t,ob⟩ (⟨none,.call { callee:=.builtin .clear,args:=#[x],argTypes:=#[T] },ty,pos,af,gd⟩:Oper) true)
  (k:zt c ops rest ⟨t,((id,⟨ae,.own,E,1,av es o (List.replicate m [f0])⟩)::ob)⟩ QS):zt c ops ((⟨none,.call { callee:=.builtin .clear,args:=#[x],argTypes:=#[T] },ty,pos,af,gd⟩:Oper)::rest) ⟨t,ob⟩ QS:=fun QQ w0 J a w β hQ hF=>by
 unfold wpList;rw [if_pos (hw.model hF)];refine .inl ?_;obtain ⟨W,h2,h3⟩:=zpQ (ty:=ty) (pos:=pos) (af:=af) (g:=gd) (dst:=none) hF hT (fun e=>by rw [he] at e;dsimp only at e;rw [e] at hk;cases hk) (by rw [he]) (by rw [he]) h1 x hx (by rw [hb]) (by rw [hb]) (by rw [hb]) kV;unfold Oper.wp;rw [h2,Oper.upon_value];rw [hb] at h3;exact k QQ w0 J _ W β hQ h3
theorem Z5 {f:FV} (hx:(⟨t,ob⟩:ah).ev x=.wrap .bd fs) (hf:fs[i]? = some f) (tv:f.bG=true) (hd:Nat.blt d c.N=true) (hw:ZB ops ⟨t,ob⟩ (⟨some d,.extract x i,ty,pos,af,gd⟩:Oper) true)
  (k:zt c ops rest ⟨((d,f)::t),ob⟩ QS):zt c ops ((⟨some d,.extract x i,ty,pos,af,gd⟩:Oper)::rest) ⟨t,ob⟩ QS:=fun QQ w0 J a w β hQ hF=>by
 unfold wpList;rw [if_pos (hw.model hF)];refine .inl ?_;have hv:=hF.ev x;rw [hx] at hv;obtain ⟨us,ev,im,iq⟩:=hv;have uj : a.eval x=.tuple us.toArray:=ev;have hi:i<fs.length:=(yq.1 hf).1;have TE:i<us.length:=by rw [im];exact hi
 have h1:=iq i us[i] f (by simp [TE]) hf;have bg:(execOp a.eval ⟨some d,.extract x i,ty,pos,af,gd⟩).run c.P w=.ok (.value us[i]) w:=by
  simp [execOp,Instr.extract,uj,TE]
 have aK:∀ id ae,(id,ae)∈f.hands→ae≤((⟨t,ob⟩:ah).ob id).ae:=fun id ae hm=>by
  refine hF.cg x (id:=id) (ae:=ae) ?_;rw [hx];refine yU.2 ⟨f,zG hf,?_⟩;cases f with
  | own|ptr|omap => rw [zq.1 hm]; rfl
  | wrap k fs => cases tv
  | _ => exact (FV.aV rfl hm).elim
 exact ZO.wp (f:=f) (wr:=[]) (ZO.pure hF bg (VR.wM h1) aK) (fun d' e=>by injection e with e;subst e;exact zO hd) fun a' w' aJ eW=>k QQ w0 J a' w' aJ hQ eW
end
section
variable {c:Ctx} {w0 w:World} {J:JJ} {s:ah} {a:Act} {β:Nat→Option Nat} {dst:Option Nat} {ty:TypeId} {pos:String} {after:Array Edge} {g:Option (Nat×Bool)}
end
section
variable {c:Ctx} {ops:Array Oper} {rest:List Oper} {t:List (Nat×FV)} {ob:List (Nat×zE)} {d:Nat} {ty:TypeId} {pos:String} {af:Array Edge} {g:Option (Nat×Bool)} {Q:ah→Prop}
end
def iJ (o:aq):Int:=if o.k=1 then o.arg else o.res
def VQ (o:aq):FV:=UV o.key (iJ o)
def gm (key v:Int) (o:aq):Bool:=decide (o.k=1) && (decide (o.key=key) && decide (o.arg=v))
theorem ZM {key v:Int} {o:aq}:gm key v o=true↔o.k=1∧o.key=key∧o.arg=v:=by simp [gm]
def okW (l:List aq) (i:Nat):Prop:=(nth l i).k=0∨((nth l i).k=1∧(nth l i).arg≠0∧∀ j,j<i→gm (nth l i).key (nth l i).arg (nth l j)=false)
instance (l:List aq) (i:Nat):Decidable (okW l i):=by unfold okW;infer_instance
def yE (l:List aq):Prop:=∀ i,i<l.length→okW l i
instance (l:List aq):Decidable (yE l):=by unfold yE;infer_instance
def mY (l:List aq) (i:Nat):List (List FV):=((List.range i).filter fun j=>decide ((nth l j).k=1)).map fun j=>[UV (nth l j).key (nth l j).arg,.int .i64 (j:Int)]
theorem zqJ (l:List aq) (i:Nat):mY l (i+1)=mY l i++if (nth l i).k=1 then [[UV (nth l i).key (nth l i).arg,.int .i64 (i:Int)]] else []:=by
 unfold mY;rw [yQ,ZT,zF];congr 1;by_cases h:(nth l i).k=1 <;> simp [h]
theorem u9:Maps.Keyed Tryz.prog 82:=Maps.Keyed.of_law (deep_law_laid zsn (m:=2) za (of_decide_eq_true zw) zw zw)
theorem tO {a b:Int} (ha:bU a) (hb:bU b):XH Tryz.prog 82 (UV a b):=
 ⟨rfl,zly (i:=3) (fs:=zoZ Tryz.prog 82) zw zw zw zw zw zw zw (Tryz.prog.types.size - 1) zw (Cn ha) (Cn hb)⟩
theorem UR (hi:i≤l.length) (aP:∀ o∈l,Ue o):∀ row∈mY l i,∀ kf,row.head? = some kf→XH Tryz.prog 82 kf:=fun row hr kf hk=>by
 obtain ⟨j,hj,rfl⟩:=zi.1 hr;have dT : j<i:=by simpa using (zY.1 hj).1
 have ho:=aP _ (zu (show j<l.length by omega));injection hk with hk
 subst hk;exact tO ho.2.2.1 ho.2.2.2.1
theorem QW {a b:Int} (hj:j<i) (h:gm a b (nth l j)=true):[UV a b,.int .i64 (j:Int)]∈mY l i:=by
 rw [ZM] at h;exact zi.2 ⟨j,zY.2 ⟨by simpa using hj,by simpa using h.1⟩,by rw [h.2.1,h.2.2]⟩
theorem UD {a b c d:Int} (h:UV a b=UV c d):a=c∧b=d:=by
 unfold UV at h;injection h with h
 injection h with h1 h
 injection h with h2 h
 injection h1 with _ h1
 injection h2 with _ h2
 exact ⟨h1,h2⟩
theorem Kl {a b:Int} (h:∀ j,j<i→gm a b (nth l j)=false):∀ row∈mY l i,row.head?≠some (UV a b):=fun row hr he=>by
 obtain ⟨j,hj,rfl⟩:=zi.1 hr;obtain ⟨h1,h2⟩:=zY.1 hj;injection he with he
 obtain ⟨e1,e2⟩:=UD he;have:=h j (by simpa using h1);rw [show gm a b (nth l j)=true from ZM.2 ⟨by simpa using h2,e1,e2⟩] at this;cases this
def jH (l:List aq) (key v:Int):Option Nat:=l.findIdx? (gm key v)
theorem WM {key v:Int} {w:Nat} (h:jH l key v=some w):w<l.length∧gm key v (nth l w)=true∧∀ j,j<w→gm key v (nth l j)=false:=by
 unfold jH at h;rw [List.findIdx?_eq_some_iff_getElem] at h;obtain ⟨h1,h2,h3⟩:=h;refine ⟨h1,by rw [ak h1];exact h2,fun j hj=>?_⟩;rw [ak za];simpa using h3 j hj
theorem LH {key v:Int} (h:jH l key v=none):∀ j,j<l.length→gm key v (nth l j)=false:=fun j hj=>by
 unfold jH at h;rw [List.findIdx?_eq_none_iff] at h;exact h _ (zu hj)
def Sn (l:List aq) (a b:Int):Int:=((jH l a b).getD 0:Nat)
theorem zxl (l:List aq) (a b:Int):lK (mY l l.length) (UV a b) (.int .i64 0) (.int .i64 (Sn l a b)) (jH l a b).isSome:=by
 unfold Sn;cases h:jH l a b with
 | none => exact .inr ⟨rfl, rfl, Kl (LH h)⟩
 | some w => exact .inl ⟨rfl, QW (WM h).1 (WM h).2.1⟩
theorem WY (o:aq):xA Tryz.prog 32 [.agg o.fv] .fr (VQ o):=by
 obtain ⟨kk,eH⟩:∃ kk,VQ o=kk:=⟨_,rfl⟩
 have dI:o.k=1→kk=UV o.key o.arg:=fun h=>by rw [← eH];unfold VQ iJ;rw [if_pos h]
 have tu:o.k≠1→kk=UV o.key o.res:=fun h=>by rw [← eH];unfold VQ iJ;rw [if_neg h]
 have JI:kk.hand=none:=by rw [← eH];rfl
 rw [eH];refine ym 16 Tryz.func32 Tryz.ntmps32 JI ?_;change FW _ _ _ ⟨[(0,.agg o.fv)],[]⟩;refine zb ?_;refine FW.cond rfl (fun h=>?_) (fun h=>?_)
 ·obtain rfl:=dI (by simpa using h);refine zb ?_;exact FW.ret ⟨.inl rfl,.flat (.cons (.cell 2 _ rfl rfl (yI rfl zd) rfl xt xt xt) .nil) rfl rfl⟩
 ·obtain rfl:=tu (by simpa using h);refine zb ?_;exact FW.ret ⟨.inl rfl,.flat (.cons (.cell 2 _ rfl rfl (yI rfl zd) rfl xt xt xt) .nil) rfl rfl⟩
theorem zmp (l:List aq) (hl:l.length≤1000000000) (aP:∀ o∈l,Ue o):xA Tryz.prog 13 [.list 8 (l.map aq.fv)] .sh (.bd [if yE l then .smap (mY l l.length) else .bR,.bool (decide (yE l))]):=by
 refine ym 42 Tryz.func13 Tryz.ntmps13 rfl ?_;change FW _ _ _ ⟨[(0,.list 8 (l.map aq.fv))],[]⟩;refine zb ?_;refine FW.loop (fun i:Nat=>⟨[(4,.omap 100 0),(10,.list 8 (l.map aq.fv)),(11,.int .i64 l.length),(12,.int .i64 i)],[(100,⟨0,.aC,46,0,mY l i⟩)]⟩) (fun i=>i≤l.length∧∀ j,j<i→okW l j) (fun i=>l.length - i) 0 zc
  (ar.cv [⟨100,some 9,1,⟨0,.aC,46,0,[]⟩⟩] zh zf) ?_
 rintro i ⟨hi,e9⟩;refine zb ?_;refine FW.cond rfl (fun h=>?_) (fun h=>?_)
 ·have aA:i<l.length:=by simpa using h
  clear h;have step:okW l i→∀ j,j<i+1→okW l j:=fun h0 j hj=>by
   rcases yg j i with h1|h1
   ·exact e9 j h1
   ·have:j=i:=by omega
    subst this;exact h0
  have bad:¬ okW l i→¬ yE l:=fun h0 hd=>h0 (hd i aA);have ho:=aP _ (zu aA);obtain ⟨o,er⟩:∃ o,nth l i=o:=⟨_,rfl⟩
  have dR:=WY o;unfold okW at step bad;have iv:=zqJ l i;rw [er] at step bad ho iv;refine zb ?_;rw [er];skip;refine FW.cond rfl (fun h3=>?_) (fun h3=>?_)
  ·have h3:o.k=1:=by simpa using h3
   have aI:VQ o=UV o.key o.arg:=by unfold VQ iJ;rw [if_pos h3]
   rw [aI] at dR;rw [if_pos h3] at iv;refine zb ?_;refine yP dR (by repeat (first|exact zH.nil|refine zH.cons zB ?_)) rfl rfl ?_;by_cases gU:∀ j,j<i→gm o.key o.arg (nth l j)=false
   ·refine Vz u9 (UR hi aP) (tO ho.2.2.1 ho.2.2.2.1) (.inr ⟨rfl,rfl,Kl gU⟩) rfl rfl zd rfl rfl rfl rfl rfl rfl ?_;refine zb ?_;refine FW.cond rfl (fun h4=>?_) (fun h4=>?_)
    ·refine zb ?_;have hd:¬ yE l:=bad (by simp at h4;simp [h3,h4]);rw [if_neg hd,decide_eq_false hd];exact FW.ret ⟨.inl rfl,.sh (.cons (.tmp 2 rfl rfl) (.cons (.tmp 3 rfl rfl) .nil)) rfl rfl⟩
    ·refine zb ?_;refine yP dR (by repeat (first|exact zH.nil|refine zH.cons zB ?_)) rfl rfl ?_;refine zb ?_;refine YD u9 (UR hi aP) (tO ho.2.2.1 ho.2.2.2.1) (.inr ⟨Kl gU,rfl⟩) rfl rfl rfl rfl rfl rfl rfl ?_;refine zb ?_;refine ⟨i+1,⟨by omega,step (.inr ⟨h3,by simpa using h4,gU⟩)⟩,by omega,?_⟩;rw [iv];exact (ar.cv [⟨100,some 100,0,⟨0,.aC,46,0,mY l i++[[UV o.key o.arg,.int .i64 (i:Int)]]⟩⟩] zh zf)
   ·have:∃ j,j<i∧gm o.key o.arg (nth l j)=true:=by
     simpa using gU
    obtain ⟨j,hj,hp⟩:=this;refine Vz u9 (UR hi aP) (tO ho.2.2.1 ho.2.2.2.1) (.inl ⟨rfl,QW hj hp⟩) rfl rfl zd rfl rfl rfl rfl rfl rfl ?_;refine zb ?_;have hd:¬ yE l:=bad (fun h0=>by
     rcases h0 with h0|⟨_,_,h0⟩
     ·omega
     ·exact gU h0)
    rw [if_neg hd,decide_eq_false hd];exact FW.ret ⟨.inl rfl,.sh (.cons (.tmp 2 rfl rfl) (.cons (.tmp 3 rfl rfl) .nil)) rfl rfl⟩
  ·have h3:o.k≠1:=by simpa using h3
   rw [if_neg h3,zT] at iv;refine zb ?_;refine FW.cond rfl (fun h4=>?_) (fun h4=>?_)
   ·refine zb ?_;refine ⟨i+1,⟨by omega,step (.inl (by simpa using h4))⟩,by omega,?_⟩;rw [iv];exact (ar.cv [⟨100,some 100,0,⟨0,.aC,46,0,mY l i⟩⟩] zh zf)
   ·refine zb ?_;have hd:¬ yE l:=bad (by simp at h4;simp [h3,h4]);rw [if_neg hd,decide_eq_false hd];exact FW.ret ⟨.inl rfl,.sh (.cons (.tmp 2 rfl rfl) (.cons (.tmp 3 rfl rfl) .nil)) rfl rfl⟩
 ·have:i=l.length:=by simp at h;omega
  subst this;refine zb ?_;refine FW.le ?_ (ar.mP 2 rfl rfl);have hd:yE l:=e9;rw [if_pos hd,decide_eq_true hd];exact FW.ret ⟨.inl rfl,.sh (.cons (.tmp 2 rfl rfl) (.cons (.tmp 3 rfl rfl) .nil)) rfl rfl⟩
def o8 (l:List aq) (k:Nat):List Bool:=(List.range l.length).map fun i=>(decide (i<k) && (nth l i).done) || (List.range k).any fun j=>(nth l j).done && decide (jH l (nth l j).key (iJ (nth l j))=some i)
def Cx (l:List aq):List Bool:=o8 l l.length
def dz (b:Bool):List FV:=[.bool b]
theorem Yo (l:List aq) (k:Nat):(o8 l k).length=l.length:=by simp [o8]
theorem wU (hi:i<l.length):nth (o8 l k) i=((decide (i<k) && (nth l i).done) || (List.range k).any fun j=>(nth l j).done && decide (jH l (nth l j).key (iJ (nth l j))=some i)):=by
 unfold o8;rw [ak (by simpa using hi)];simp
theorem ya [Inhabited α] {a b:List α} (hl:a.length=b.length) (h:∀ i,i<a.length→nth a i=nth b i):a=b:=by
 apply BZ hl;intro i h1 h2;have:=h i h1;rwa [ak h1,ak h2] at this
theorem YH [Inhabited α] {a:List α} {x:α} (hj:j<a.length):nth (a.set i x) j=if i=j then x else nth a j:=by
 rw [ak (by simpa using hj),Hx,ak hj]
theorem zsc (l:List aq):o8 l 0=List.replicate l.length false:=by
 refine ya (by simp [Yo]) fun i hi=>?_;rw [Yo] at hi;rw [wU hi,ak (show i<(List.replicate l.length false).length by simpa using hi)];simp
theorem zsb (hd:(nth l k).done=false):o8 l (k+1)=o8 l k:=by
 refine ya (by simp [Yo]) fun i hi=>?_;rw [Yo] at hi;rw [wU hi,wU hi,yQ,Dy];by_cases dS:i=k
 ·subst dS;simp [hd]
 ·have:decide (i<k+1)=decide (i<k):=by congr 1;exact propext ⟨by omega,by omega⟩
  simp [hd,this]
theorem zuv (hk:k<l.length) (hd:(nth l k).done=true) (hw:jH l (nth l k).key (iJ (nth l k))=none):o8 l (k+1)=(o8 l k).set k true:=by
 refine ya (by simp [Yo]) fun i hi=>?_;rw [Yo] at hi;rw [wU hi,YH (by rw [Yo];exact hi),wU hi,yQ,Dy];by_cases dS:k=i
 ·subst dS;simp [hd]
 ·have:decide (i<k+1)=decide (i<k):=by congr 1;exact propext ⟨by omega,by omega⟩
  simp [hw,this,dS]
theorem zuw {w:Nat} (hk:k<l.length) (hd:(nth l k).done=true) (hw:jH l (nth l k).key (iJ (nth l k))=some w):o8 l (k+1)=((o8 l k).set k true).set w true:=by
 refine ya (by simp [Yo]) fun i hi=>?_;rw [Yo] at hi;rw [wU hi,YH (by rw [yA,Yo];exact hi),YH (by rw [Yo];exact hi),wU hi,yQ,Dy];by_cases jd:w=i
 ·subst jd;simp [hd,hw]
 ·by_cases dS:k=i
  ·subst dS;simp [hd]
  ·have:decide (i<k+1)=decide (i<k):=by congr 1;exact propext ⟨by omega,by omega⟩
   simp [hw,this,dS,jd]
theorem zjR (l:List aq) (hl:l.length≤1000000000) (aP:∀ o∈l,Ue o):xA Tryz.prog 14 [.list 8 (l.map aq.fv),.smap (mY l l.length)] (.ow 4 1) (.list 1 ((Cx l).map dz)):=by
 refine ym 39 Tryz.func14 Tryz.ntmps14 rfl ?_;change FW _ _ _ ⟨[(0,.list 8 (l.map aq.fv)),(1,.smap (mY l l.length))],[]⟩;refine zb ?_;refine FW.loop (fun i:Nat=>⟨[(1,.smap (mY l l.length)),(5,.own 100 0 0 l.length),(13,.list 8 (l.map aq.fv)),(14,.int .i64 l.length),(15,.int .i64 i)],[(100,⟨0,.own,4,1,(o8 l i).map dz⟩)]⟩) (fun i=>i≤l.length) (fun i=>l.length - i) 0 (zp _) ?_ ?_
 ·rw [zsc,Wc];exact (ar.cv [⟨100,some 12,1,⟨0,.own,4,1,List.replicate l.length (dz false)⟩⟩] zh zf)
 intro i hi;refine zb ?_;refine FW.cond rfl (fun h=>?_) (fun h=>?_)
 ·have aA:i<l.length:=by simpa using h
  clear h;have ho:=aP _ (zu aA);have h1:=zsb (l:=l) (k:=i);have h2:=zuv aA;have h3:=fun w=>zuw (w:=w) aA;have eZ:=Yo l i;obtain ⟨o,er⟩:∃ o,nth l i=o:=⟨_,rfl⟩
  rw [er] at h1 h2 ho;simp only [er] at h3;have dR:=WY o;obtain ⟨R,hR⟩:∃ R,o8 l i=R:=⟨_,rfl⟩
  rw [hR] at h1 h2 eZ ⊢;simp only [hR] at h3;refine zb ?_;rw [er];skip;refine FW.cond rfl (fun h4=>?_) (fun h4=>?_)
  ·have h4:o.done=false:=by simpa using h4
   refine zb ?_;refine ⟨i+1,by omega,by omega,?_⟩;rw [h1 h4];exact (ar.cv [⟨100,some 100,0,⟨0,.own,4,1,R.map dz⟩⟩] zh zf)
  ·have h4:o.done=true:=by simpa using h4
   have cG:XH Tryz.prog 82 (UV o.key (iJ o)):=tO ho.2.2.1 (by unfold iJ;split;exact ho.2.2.2.1;exact ho.2.2.2.2.1);have dR:xA Tryz.prog 32 [.agg o.fv] .fr (UV o.key (iJ o)):=dR;obtain ⟨vv,eu⟩:∃ vv,iJ o=vv:=⟨_,rfl⟩
   rw [eu] at cG dR h2;simp only [eu] at h3
/- Spec Tryz.prog 14 -/
   refine zb ?_;refine yP dR (by repeat (first|exact zH.nil|refine zH.cons zB ?_)) rfl rfl ?_;cases rY:jH l o.key vv with
   | none =>
    have h2:=h2 h4 rY;refine Wt u9 (UR (zg _) aP) cG (.inr ⟨rfl,rfl,Kl (LH rY)⟩) rfl rfl rfl rfl rfl rfl rfl ?_;refine zb ?_;refine ⟨i+1,by omega,by omega,?_⟩;rw [h2];have hm:(R.map dz).set i ((dz (nth R i)).set 0 (.bool true))=(R.set i true).map dz:=by rw [xc];rfl
    rw [hm];exact (ar.cv [⟨100,some 100,0,⟨0,.own,4,1,(R.set i true).map dz⟩⟩] zh zf)
   | some w =>
    have h3:=h3 w h4 rY;have qD:=(WM rY).1;refine Wt u9 (UR (zg _) aP) cG (.inl ⟨rfl,QW qD (WM rY).2.1⟩) rfl rfl rfl rfl rfl rfl rfl ?_;have hm:(R.map dz).set i ((dz (nth R i)).set 0 (.bool true))=(R.set i true).map dz:=by rw [xc];rfl
    obtain ⟨R2,ly⟩:∃ R2,R.set i true=R2:=⟨_,rfl⟩
    have hR2l:R2.length=l.length:=by rw [← ly,yA];exact eZ
    rw [hm,ly];rw [ly] at h3;refine zb ?_;refine ⟨i+1,by omega,by omega,?_⟩;rw [h3];have oM:(R2.map dz).set w ((dz (nth R2 w)).set 0 (.bool true))=(R2.set w true).map dz:=by rw [xc];rfl
    rw [oM];exact (ar.cv [⟨100,some 100,0,⟨0,.own,4,1,(R2.set w true).map dz⟩⟩] zh zf)
 ·obtain rfl:i=l.length:=by simp at h;omega
  refine zb ?_;exact FW.ret ⟨.inl rfl,tF rfl rfl rfl (by simp [Yo]) zd rfl (fun e he=>by obtain ⟨b,_,rfl⟩:=zi.1 he;rfl)⟩
inductive Ui (s:ah):FV→FV→Prop where
 | undef (f:FV):Ui s f .undef
 | plain {f:FV} (h:f.hand=none):Ui s f f
 | own {id ae o n sz:Nat} {ba : List (List FV)} (hl:s.live id ae) (hs:(s.ob id).ao.bC=true) (hz:(s.ob id).sz=sz) (hn:ba.length=n) (hw:∀ e∈ba,e.length=sz) (ho:∀ g∈ba.flatten,g.one=true)
   (hv:∀ (j:Nat) f g,(((s.ob id).es.drop o).take n).flatten[j]? = some f→ba.flatten[j]? = some g→Ui s f g):Ui s (.own id ae o n) (.list sz ba)
 | ptr {id ae j o sz:Nat} {ba : List (List FV)} (hl:s.live id ae) (hs:(s.ob id).ao.bC=true) (hz:(s.ob id).sz=sz) (hn:ba.length=(s.ob id).es.length) (hw:∀ e∈ba,e.length=sz) (ho:∀ g∈ba.flatten,g.one=true)
   (hv:∀ (j:Nat) f g,(s.ob id).es.flatten[j]? = some f→ba.flatten[j]? = some g→Ui s f g):Ui s (.ptr id ae j o) (.ax sz ba j o)
 | omap {id ae:Nat} {es:List (List FV)} (hl:s.live id ae) (hs:(s.ob id).ao.bC=false) (hm:(s.ob id).ao ≠ .bh) (he:(s.ob id).es=es):Ui s (.omap id ae) (.smap es)
 | bh {id ae:Nat} {ba : List (List FV)} (hl:s.live id ae) (hm:(s.ob id).ao=.bh) (hn:ba.length=(s.ob id).es.length) (hk:∀ (j:Nat) row cz,(s.ob id).es[j]? = some row→ba[j]? = some cz→cz.head? = row.head?∧cz.length=2)
   (hv:∀ (j:Nat) row cz f g,(s.ob id).es[j]? = some row→ba[j]? = some cz→row[1]? = some f→cz[1]? = some g→Ui s f g):Ui s (.omap id ae) (.smap ba)
section
variable {N:Nat} {w0 w:World} {J:JJ} {s:ah} {a:Act} {β:Nat→Option Nat}
def Mg (J:JJ) (w:World) (b:Nat):Prop:=b<w.heap.size∧J b
theorem FR.still (h:FR N w0 J s a w β) {id b:Nat} (hl:(s.ob id).ao≠.dead) (hb:β id=some b):Mg J w b:=by
 have aA:=(h.obj id hl).lt hb;exact ⟨aA.2,h.fresh b aA.1 (.inr ⟨id,hl,hb⟩)⟩
theorem FR.q9 (h:FR N w0 J s a w β) {id:Nat} (hl:(s.ob id).ao≠.dead) (hs:(s.ob id).ao.bC=true):(∀ e∈(s.ob id).es,e.length=(s.ob id).sz)∧
  ∃ v us,w.ownsRow w0.heap.size (s.ob id).E (s.ob id).sz v (s.ob id).es.length us∧v.ownBlock=β id∧us.length=(s.ob id).es.flatten.length∧∀ (j:Nat) u f,us[j]? = some u→(s.ob id).es.flatten[j]? = some f→VR w (aF J w β s) β s u f:=by
 cases hr:(s.ob id).ao.row with
 | true =>
  have hR:=(h.obj id hl).bM hr;obtain ⟨v,us,r1,r2,r3⟩:=hR.row;exact ⟨hR.wide,v,us,r1,r2,r3.1,fun j u f hu hf=>VR.aX (r3.2 j u f hu hf) (by have:=hR.one f (zG hf);cases f <;> first|rfl|(simp [FV.one] at this))⟩
 | false =>
  have hR:=(h.obj id hl).eB hr hs;obtain ⟨v,us,r1,r2,r3,r4⟩:=hR.row;exact ⟨hR.wide,v,us,r1,r2,r3,r4⟩
theorem Ui.sound (h:FR N w0 J s a w β) {f g:FV} (hv:Ui s f g):∀ v,VR w (aF J w β s) β s v f→Rd w (Mg J w) v g:=by
 induction hv with
 | undef f => exact fun v _ => .undef v
 | plain hn => exact fun v hv => (VR.rd hv hn).mono fun b hb => ⟨⟨hb.1, hb.2.1⟩, rfl⟩
 | @own id ae o n sz ba hl hs hz hn hw ho hv ih=>
  intro v eF;have hO:fh w (β id) (s.ob id) v o n:=eF hl.1 hl.2;obtain ⟨A,cc,rfl,e2,e3,e4,e5⟩:=hO.ex;obtain ⟨c1,v',us,r1,r2,r3,r4⟩:=h.q9 hl.1 hs;subst hz;have k6:∀ e∈(s.ob id).es.drop o,e.length=(s.ob id).sz:=fun e he=>c1 e (Zv he);have cu:(((s.ob id).es.drop o).take n).flatten=((s.ob id).es.flatten.drop (o * (s.ob id).sz)).take (n * (s.ob id).sz):=by rw [Wq _ k6,Xl _ c1]
  have AW:=xD c1;have rr : ba.flatten.length=n * (s.ob id).sz:=by rw [xD hw,hn]
  have hmul:o * (s.ob id).sz+n * (s.ob id).sz≤(s.ob id).es.length * (s.ob id).sz:=by rw [← yu];exact ZG _ e3
  cases ff:β id with
  | none =>
   obtain ⟨rfl,rfl⟩:=e4 ff;obtain rfl:n=0:=by omega
   obtain rfl:ba=[]:=List.length_eq_zero_iff.1 hn;exact .list none 0 0 _ _ [] zc (zg _) zc zc zc zc zc
  | some b=>
   obtain ⟨o',rfl,k2,k3⟩:=e5 b ff;have lG:∀ (j:Nat) u,((us.drop (o * (s.ob id).sz)).take (n * (s.ob id).sz))[j]? = some u→us[o * (s.ob id).sz+j]? = some u:=fun j u hu=>by
    rw [xG] at hu;split at hu
    ·rwa [YE] at hu
    ·cases hu
   refine .list _ n cc (s.ob id).sz _ ((us.drop (o * (s.ob id).sz)).take (n * (s.ob id).sz)) hn e2 hw ho (fun h0=>⟨b,o',rfl,h.still hl.1 ff,fun j u hu=>?_⟩) ?_ fun j u g hu hg=>?_
   ·have:=k2 (.inl za);subst this;have aI:=r1.cells (g:=b) (by rw [r2];exact ff) _ u (lG j u hu);rwa [ZD,yh] at aI
   ·rw [zW,XZ,rr,r3,AW];omega
   ·have hj:j<n * (s.ob id).sz:=by rw [← rr];exact (yq.1 hg).1
    have hf:(((s.ob id).es.drop o).take n).flatten[j]? = some ((s.ob id).es.flatten[o * (s.ob id).sz+j]'(by rw [AW];omega)):=by
     rw [cu,xG,if_pos hj,YE,xz]
    exact ih j _ g hf hg u (r4 _ u _ (lG j u hu) (by rw [xz]))
 | @ptr id ae i o sz ba hl hs hz hn hw ho hv ih=>
  intro v eF;obtain ⟨_,b,hb,rfl⟩:(s.ob id).ao.bC=true∧∃ b,β id=some b∧v=.pointer (some ⟨b,i * (s.ob id).sz+o,none⟩):=eF hl.1 hl.2;obtain ⟨c1,v',us,r1,r2,r3,r4⟩:=h.q9 hl.1 hs;subst hz;have AW:=xD c1;have rr : ba.flatten.length=(s.ob id).es.flatten.length:=by rw [xD hw,hn,AW]
  have:=Rd.ax (w:=w) (I:=Mg J w) b 0 (s.ob id).sz ba i o us (h.still hl.1 hb) hw ho (fun j u hu=>by
   have aI:=r1.cells (g:=b) (by rw [r2];exact hb) _ u hu;rwa [ZD] at aI) (by rw [r3,rr]) fun j u g hu hg=>by
   have hj:j<(s.ob id).es.flatten.length:=by rw [← rr];exact (yq.1 hg).1
   exact ih j _ g (xz hj) hg u (r4 _ u _ hu (xz hj))
  rwa [yh] at this
 | @omap id ae es hl hs hm he =>
  intro v eF;subst he;obtain ⟨_,b,hb,rfl⟩:(s.ob id).ao.bC=false∧∃ b,β id=some b∧v=.map (some b):=eF hl.1 hl.2;obtain ⟨b',clock,aw,q1,q2,q3,q4,q5,q6,q7⟩:=((h.obj id hl.1).jZ hs hm).ex;rw [hb] at q1;injection q1 with q1
  subst q1;exact .smap b clock aw _ (h.still hl.1 hb) q3 q4 q5 q6 fun j e row f h1 h2 h3=>(q7 j e row f h1 h2 h3).mono fun b hb=>⟨⟨hb.1,hb.2.1⟩,rfl⟩
 | @bh id ae ba hl hm hn hk hv ih=>
  intro v eF;obtain ⟨_,b,hb,rfl⟩:(s.ob id).ao.bC=false∧∃ b,β id=some b∧v=.map (some b):=eF hl.1 hl.2;obtain ⟨b',clock,aw,q1,q2,q3,q4,q5,q6,q7⟩:=((h.obj id hl.1).sb hm).ex;rw [hb] at q1;injection q1 with q1
  subst q1;have aj:∀ (j:Nat) cz,ba[j]? = some cz→∃ row,(s.ob id).es[j]? = some row:=fun j cz hr=>by
   have hj:j<(s.ob id).es.length:=by rw [← hn];exact (yq.1 hr).1
   exact ⟨_,xz hj⟩
  refine .smap b clock aw _ (h.still hl.1 hb) q3 q4 (by rw [q5,hn]) (fun j e cz h1 h2=>?_) fun j e cz g h1 h2 h3=>?_
  ·obtain ⟨row,hr⟩:=aj j cz h2;obtain ⟨kf,vf,rfl,k1,k2⟩:=q6 j e row h1 hr;obtain ⟨p1,p2⟩:=hk j _ cz hr h2
   match cz,p1,p2 with
   | [x, y], p1, _ =>
    simp at p1;subst p1;exact ⟨x,y,rfl,k1,k2⟩
  ·obtain ⟨row,hr⟩:=aj j cz h2;obtain ⟨kf,vf,rfl,k1,k2⟩:=q6 j e row h1 hr;exact ih j _ cz vf g hr h2 rfl h3 _ (q7 j e _ vf h1 hr rfl)
end
inductive Eh (s:ah):List (Nat×FV)→Prop where
 | nil:Eh s []
 | cons {d:Nat} {f g:FV} {t' : List (Nat × FV)} (h:look .undef s.t d=f) (hv:Ui s f g) (hn:g.hand=none) (hs:Eh s t'):Eh s ((d, g) :: t')
theorem Eh.get (h:Eh s t') (d:Nat):Ui s (look .undef s.t d) (look .undef t' d)∧(look .undef t' d).hand=none:=by
 induction h with
 | nil => exact ⟨.undef _, rfl⟩
 | @cons d0 f g t' h hv hn hs ih =>
  rw [zI];by_cases e:d0=d
  ·subst e;rw [if_pos rfl,h];exact ⟨hv,hn⟩
  ·rw [if_neg e];exact ih
theorem ar.freeze (cE:Mm ob=true) (hc:Eh ⟨t,ob⟩ t'):ar ⟨t,ob⟩ ⟨t',[]⟩:=by
 intro N w0 J a w β hF;have hI:∀ b,Mg J w b→aF J w (fun _=>none) ⟨t',[]⟩ b:=fun b hb=>⟨hb.1,hb.2,fun id hl=>by cases hl⟩
 have hv0:∀ id,zm≤id→((⟨t,ob⟩:ah).ob id).ae=0:=fun id hid=>by
  show (look ({}:zE) ob id).ae=0;rw [Ld (fun p hp e=>?_)];have:=zL.1 cE p hp;rw [e,Uq hid] at this;cases this
 refine ⟨fun _=>none,hF.size,hF.defers,hF.bB,hF.bP,fun d=>?_,fun d id ae hm=>?_,fun id hl=>absurd rfl hl,fun id aL b hl=>absurd rfl hl,fun b hb=>?_,fun v f hg=>?_⟩
 ·obtain ⟨h1,h2⟩:=hc.get d;exact VR.aX ((h1.sound hF _ (hF.slot d)).mono fun b hb=>⟨hI b hb,rfl⟩) h2
 ·exact (FV.aV (hc.get d).2 hm).elim
 ·obtain ⟨k1,k2,k3⟩:=hF.kept b hb;exact ⟨k1,fun id hl=>absurd rfl hl,k3⟩
 ·obtain ⟨g1,g2⟩:=hF.gh v f hg;refine ⟨g1.mono (fun b hb=>⟨hI b ⟨hb.1,hb.2.1⟩,rfl⟩) fun id ae hh hl=>absurd rfl hl,fun id ae hh=>?_⟩;obtain ⟨q1,q2⟩:=g2 id ae hh;rw [hv0 id q1] at q2;exact ⟨q1,q2⟩
inductive DS (s:ah):List Operand→List FV→Prop where
 | nil:DS s [] []
 | cons {x:Operand} {xs:List Operand} {f g:FV} {gs:List FV} (h:s.ev x=f) (hv:Ui s f g) (hs:DS s xs gs):DS s (x :: xs) (g :: gs)
theorem DS.rd {a:Act} (hF:FR N w0 J s a w β) (h:DS s xs gs):aS w (fun b=>b<w.heap.size) (xs.map a.eval) gs:=by
 induction h with
 | nil => exact aS.nil
 | @cons x xs f g gs h hv hs ih =>
  have:=hF.ev x;rw [h] at this;exact aS.cons ((hv.sound hF _ this).mono fun b hb=>⟨hb.1,rfl⟩) ih
section
variable {c:Ctx} {ops:Array Oper} {rest:List Oper} {t:List (Nat×FV)} {ob:List (Nat×zE)} {d:Nat} {ty:TypeId} {pos:String} {af:Array Edge} {gd:Option (Nat×Bool)} {QS:ah→Prop}
theorem ztc {res:FV} (hs:xA c.P f args .fr res) (hx:DS ⟨t,ob⟩ xs args) (hd:Nat.blt d c.N=true)
  (hw:ZB ops ⟨t,ob⟩ ⟨some d,.call { callee:=.value (.func f),args:=xs.toArray,argTypes:=ts },ty,pos,af,gd⟩ true) (k:zt c ops rest ⟨(d,res)::t,ob⟩ QS) :
  zt c ops (⟨some d,.call { callee:=.value (.func f),args:=xs.toArray,argTypes:=ts },ty,pos,af,gd⟩::rest) ⟨t,ob⟩ QS:=fun QQ w0 J a w β hQ hF=>by
 unfold wpList;rw [if_pos (hw.model hF)];refine .inl ?_;have hr:=hx.rd hF;have hc:=hs.calls w (fun b=>b<w.heap.size) _ (fun b hb=>hb) hr;have bh:(xs.map a.eval).toArray=xs.toArray.map a.eval:=by apply xU;simp
 rw [bh] at hc;unfold Oper.wp;have bg:(execOp a.eval ⟨some d,.call { callee:=.value (.func f),args:=xs.toArray,argTypes:=ts },ty,pos,af,gd⟩).run c.P w=.ok (.enter f (xs.toArray.map a.eval)) w:=by
  have:=xh (P:=c.P) hs.go (xs.toArray.map a.eval) w;simp [execOp,resolve,Act.eval,Deferred.ofValue,invoke] at this ⊢;exact this
 rw [bg,Oper.upon_enter];refine hc.mono ?_;rintro e w' ⟨v,rfl,hb,fb⟩;have hG:=hF.grow hb;have gC:Rd w' (aF J w' β ⟨t,ob⟩) v res:=Rd.mono (fun b cb=>⟨⟨cb.2,hF.fresh b (yc hF.bB.size cb.1) (.inl cb.1),fun id hl e=>by
  have:=((hF.obj id (Zn.bc hl)).lt e).2;omega⟩,rfl⟩) fb
 exact k QQ w0 J _ w' β hQ (hG.put (zO hd) (VR.aX gC hs.hand) (fun id ae e=>(FV.aV hs.hand e).elim))
end
theorem u7:Maps.Keyed Tryz.prog 100:=Maps.Keyed.of_law (deep_law_laid zsn (m:=2) za (of_decide_eq_true zw) zw zw)
theorem qJ {a b:Int} (ha:bU a) (hb:bU b):XH Tryz.prog 100 (UV a b):=
 ⟨rfl,zly (i:=3) (fs:=zoZ Tryz.prog 100) zw zw zw zw zw zw zw (Tryz.prog.types.size - 1) zw (Cn ha) (Cn hb)⟩
def tJ (l:List aq) (i:Nat):List (List FV):=((List.range i).filter fun j=>decide ((nth l j).k=1)).map fun j=>[UV (nth l j).key (nth l j).arg,.agg []]
theorem zqC (l:List aq) (i:Nat):tJ l (i+1)=tJ l i++if (nth l i).k=1 then [[UV (nth l i).key (nth l i).arg,.agg []]] else []:=by
 unfold tJ;rw [yQ,ZT,zF];congr 1;by_cases h:(nth l i).k=1 <;> simp [h]
theorem QU (hi:i≤l.length) (aP:∀ o∈l,Ue o):∀ row∈tJ l i,∀ kf,row.head? = some kf→XH Tryz.prog 100 kf:=fun row hr kf hk=>by
 obtain ⟨j,hj,rfl⟩:=zi.1 hr;have dT : j<i:=by simpa using (zY.1 hj).1
 have ho:=aP _ (zu (show j<l.length by omega));injection hk with hk
 subst hk;exact qJ ho.2.2.1 ho.2.2.2.1
theorem ztp {a b:Int} (hj:j<i) (h:gm a b (nth l j)=true):[UV a b,.agg []]∈tJ l i:=by
 rw [ZM] at h;exact zi.2 ⟨j,zY.2 ⟨by simpa using hj,by simpa using h.1⟩,by rw [h.2.1,h.2.2]⟩
theorem zi3 {a b:Int} (h:∀ j,j<i→gm a b (nth l j)=false):∀ row∈tJ l i,row.head?≠some (UV a b):=fun row hr he=>by
 obtain ⟨j,hj,rfl⟩:=zi.1 hr;obtain ⟨h1,h2⟩:=zY.1 hj;injection he with he
 obtain ⟨e1,e2⟩:=UD he;have:=h j (by simpa using h1);rw [show gm a b (nth l j)=true from ZM.2 ⟨by simpa using h2,e1,e2⟩] at this;cases this
def Ub (l:List aq):Int:=if Zj l≠0 then Zj l else if yE l then 0 else 22
theorem X8 (l:List aq) (hl:l.length≤1000000000) (aP:∀ o∈l,Ue o):xA Tryz.prog 18 [.list 8 (l.map aq.fv)] .fr (.int .i64 (Ub l)):=by
 have oI:=zgu l aP hl;obtain ⟨E,hE⟩:∃ E,Ub l=E:=⟨_,rfl⟩
 rw [hE];have ER:Zj l≠0→E=Zj l:=fun h=>by rw [← hE];unfold Ub;rw [if_pos h]
 have ET:Zj l=0→yE l→E=0:=fun h hd=>by rw [← hE];unfold Ub;rw [if_neg (by simpa using h),if_pos hd]
 have CP:Zj l=0→¬ yE l→E=22:=fun h hd=>by rw [← hE];unfold Ub;rw [if_neg (by simpa using h),if_neg hd]
 generalize Zj l=C at oI ER ET CP;refine ym 53 Tryz.func18 Tryz.ntmps18 rfl ?_;change FW _ _ _ ⟨[(0,.list 8 (l.map aq.fv))],[]⟩;refine zb ?_;refine yP oI (by repeat (first|exact zH.nil|refine zH.cons zB ?_)) rfl rfl ?_;refine zb ?_;refine FW.cond rfl (fun h=>?_) (fun h=>?_)
 ·obtain rfl:=ER (by simpa using h);refine zb ?_;exact FW.ret ⟨.inl rfl,yt rfl rfl rfl rfl⟩
 have h0:C=0:=by simpa using h
 refine zb ?_;refine FW.loop (fun i:Nat=>⟨[(4,.omap 100 0),(16,.list 8 (l.map aq.fv)),(17,.int .i64 l.length),(18,.int .i64 i)],[(100,⟨0,.aC,98,0,tJ l i⟩)]⟩) (fun i=>i≤l.length∧∀ j,j<i→okW l j) (fun i=>l.length - i) 0 ⟨zp _,fun j hj=>absurd hj (ZH _)⟩
  (ar.cv [⟨100,some 15,1,⟨0,.aC,98,0,[]⟩⟩] zh zf) ?_
 rintro i ⟨hi,e9⟩;refine zb ?_;refine FW.cond rfl (fun h=>?_) (fun h=>?_)
 ·have aA:i<l.length:=by simpa using h
  clear h;have step:okW l i→∀ j,j<i+1→okW l j:=fun h0 j hj=>by
   rcases yg j i with h1|h1
   ·exact e9 j h1
   ·have:j=i:=by omega
    subst this;exact h0
  have bad:¬ okW l i→¬ yE l:=fun h0 hd=>h0 (hd i aA);have ho:=aP _ (zu aA);obtain ⟨o,er⟩:∃ o,nth l i=o:=⟨_,rfl⟩
  unfold okW at step bad;have iv:=zqC l i;rw [er] at step bad ho iv;refine zb ?_;rw [er];skip;by_cases gU:∀ j,j<i→gm o.key o.arg (nth l j)=false
  ·refine Vz u7 (QU hi aP) (qJ ho.2.2.1 ho.2.2.2.1) (.inr ⟨rfl,rfl,zi3 gU⟩) rfl rfl zd rfl rfl rfl rfl rfl rfl ?_;refine zb ?_;refine FW.cond rfl (fun h3=>?_) (fun h3=>?_)
   ·have h3:o.k=0:=by simpa using h3
    rw [if_neg za,zT] at iv;refine zb ?_;refine ⟨i+1,⟨by omega,step (.inl h3)⟩,by omega,?_⟩;rw [iv];exact (ar.cv [⟨100,some 100,0,⟨0,.aC,98,0,tJ l i⟩⟩] zh zf)
   have h3:o.k≠0:=by simpa using h3
   refine zb ?_;refine yR (fun h4=>?_) (fun h4=>?_)
   ·have h4:o.k≠1:=by simpa using h4
    obtain rfl:=CP h0 (bad (fun q=>by rcases q with q|q;exact h3 q;exact h4 q.1));refine zb ?_;exact FW.ret ⟨.inl rfl,yt rfl rfl rfl rfl⟩
   have h4:o.k=1:=by simpa using h4
   refine zb ?_;refine yR (fun h5=>?_) (fun h5=>?_)
   ·have h5:o.arg=0:=by simpa using h5
    obtain rfl:=CP h0 (bad (fun q=>by rcases q with q|q;exact h3 q;exact q.2.1 h5));refine zb ?_;exact FW.ret ⟨.inl rfl,yt rfl rfl rfl rfl⟩
   have h5:o.arg≠0:=by simpa using h5
   refine zb ?_;refine YD u7 (QU hi aP) (qJ ho.2.2.1 ho.2.2.2.1) (.inr ⟨zi3 gU,rfl⟩) rfl rfl rfl rfl rfl rfl rfl ?_;refine zb ?_;rw [if_pos h4] at iv;refine ⟨i+1,⟨by omega,step (.inr ⟨h4,h5,gU⟩)⟩,by omega,?_⟩;rw [iv];exact (ar.cv [⟨100,some 100,0,⟨0,.aC,98,0,tJ l i++[[UV o.key o.arg,.agg []]]⟩⟩] zh zf)
  ·have:∃ j,j<i∧gm o.key o.arg (nth l j)=true:=by simpa using gU
   obtain ⟨j,hj,hp⟩:=this;refine Vz u7 (QU hi aP) (qJ ho.2.2.1 ho.2.2.2.1) (.inl ⟨rfl,ztp hj hp⟩) rfl rfl zd rfl rfl rfl rfl rfl rfl ?_;refine zb ?_;refine FW.cond rfl (fun h3=>?_) (fun h3=>?_)
   ·have h3:o.k=0:=by simpa using h3
    rw [if_neg za,zT] at iv;refine zb ?_;refine ⟨i+1,⟨by omega,step (.inl h3)⟩,by omega,?_⟩;rw [iv];exact (ar.cv [⟨100,some 100,0,⟨0,.aC,98,0,tJ l i⟩⟩] zh zf)
   have h3:o.k≠0:=by simpa using h3
   refine zb ?_;refine yR (fun h4=>?_) (fun h4=>?_)
   ·have h4:o.k≠1:=by simpa using h4
    obtain rfl:=CP h0 (bad (fun q=>by rcases q with q|q;exact h3 q;exact h4 q.1));refine zb ?_;exact FW.ret ⟨.inl rfl,yt rfl rfl rfl rfl⟩
   have h4:o.k=1:=by simpa using h4
   refine zb ?_;refine yR (fun h5=>?_) (fun h5=>?_)
   ·have h5:o.arg=0:=by simpa using h5
    obtain rfl:=CP h0 (bad (fun q=>by rcases q with q|q;exact h3 q;exact q.2.1 h5));refine zb ?_;exact FW.ret ⟨.inl rfl,yt rfl rfl rfl rfl⟩
   have h5:o.arg≠0:=by simpa using h5
   refine zb ?_;obtain rfl:=CP h0 (bad (fun q=>by rcases q with q|q;exact h3 q;exact gU q.2.2));exact FW.ret ⟨.inl rfl,yt rfl rfl rfl rfl⟩
 ·have:i=l.length:=by simp at h;omega
  subst this;have hd:yE l:=e9;obtain rfl:=ET h0 hd;refine zb ?_;exact FW.ret ⟨.inl rfl,yt rfl rfl rfl rfl⟩
end
end Go.Proofs.YtphidhljdcledaaGreat
