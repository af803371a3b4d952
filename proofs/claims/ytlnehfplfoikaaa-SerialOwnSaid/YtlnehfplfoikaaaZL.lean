/-
  Some texts as one: FmV, FmHeap, FmHeap2, FmHeap3, HeapPlain, TopoPlain.
-/
import Derived.Test.YtlnehfplfoikaaaZC
import Derived.Test.YtlnehfplfoikaaaZD
import Derived.Test.YtlnehfplfoikaaaZK
namespace Go.Proofs.Ytlnehfplfoikaaa
set_option linter.unusedVariables false
set_option maxHeartbeats 16000000
section
open Go.RowKit
structure VRs (w:World) (J:JJ) (β:Nat→Option Nat) (s:FSt) (vs:List Value) (fs:List FV):Prop where
 len:vs.length=fs.length
 get:∀ (j:Nat) u f,vs[j]? = some u→fs[j]? = some f→VR w (Imm J w β s) β s u f∧∀ id ver,(id,ver)∈f.hands→ver≤(s.ob id).ver
theorem VRs.cons {w:World} {J:JJ} {β:Nat→Option Nat} {s:FSt} {v:Value} {vs:List Value} {f:FV} {fs:List FV} (h:VR w (Imm J w β s) β s v f) (hv:∀ id ver,(id,ver)∈f.hands→ver≤(s.ob id).ver) (hs:VRs w J β s vs fs):VRs w J β s (v::vs) (f::fs) where
 len:=by simp [hs.len]
 get j u g hu hg:=by
  cases j with
  | zero => simp at hu hg; subst hu; subst hg; exact ⟨h, hv⟩
  | succ j => exact hs.get j u g (by simpa using hu) (by simpa using hg)
theorem VRs.append {w:World} {J:JJ} {β:Nat→Option Nat} {s:FSt} {vs us:List Value} {fs gs:List FV} (h:VRs w J β s vs fs) (hs:VRs w J β s us gs):VRs w J β s (vs++us) (fs++gs) where
 len:=by simp [hs.len,h.len]
 get j u g hu hg:=by
  rcases Nat.lt_or_ge j vs.length with hj|hj
  ·rw [List.getElem?_append_left hj] at hu;rw [List.getElem?_append_left (by rw [← h.len];exact hj)] at hg;exact h.get j u g hu hg
  ·rw [List.getElem?_append_right hj] at hu;rw [List.getElem?_append_right (by rw [← h.len];exact hj),← h.len] at hg;exact hs.get _ u g hu hg
theorem FR.evs {N:Nat} {w0 w:World} {J:JJ} {s:FSt} {a:Act} {β:Nat→Option Nat} (h:FR N w0 J s a w β) (xs:List Operand):VRs w J β s (xs.map a.eval) (xs.map s.ev) where
 len:=by simp
 get j u f hu hf:=by
  rw [List.getElem?_map] at hu hf;cases hy:xs[j]? with
  | none => rw [hy] at hu; cases hu
  | some y =>
   rw [hy] at hu hf;injection hu with hu;injection hf with hf
   subst hu;subst hf;exact ⟨h.ev y,fun id ver hm=>h.evers y hm⟩
theorem FR.wraps {N:Nat} {w0 w:World} {J:JJ} {s:FSt} {a:Act} {β:Nat→Option Nat} (h:FR N w0 J s a w β) {x:Operand} {k:Wk} {fs:List FV} (hx:s.ev x=.wrap k fs):∃ us,a.eval x=k.mk us∧VRs w J β s us fs:=by
 have hv:=h.ev x;rw [hx] at hv;obtain ⟨us,ev,hul,hur⟩:=hv;refine ⟨us,ev,hul,fun j u f hu hf=>?_⟩;have h1:=hur j u f hu hf;refine ⟨VR.of1 h1,fun id ver hm=>?_⟩;have hw1:∀ k fs,f≠.wrap k fs:=fun k fs e=>by rw [e] at h1;have h2:Rd w (Imm J w β s) u (.wrap k fs):=h1;cases h2
 have hmem:f∈fs:=List.mem_of_getElem? hf;refine h.evers x (id:=id) (ver:=ver) ?_;rw [hx];refine List.mem_filterMap.2 ⟨_,hmem,?_⟩;generalize f=q at hm hw1;cases q with
 | own|ptr|omap => rw [List.mem_singleton.1 hm]; rfl
 | wrap k fs => exact absurd rfl (hw1 k fs)
 | _ => exact (FV.no_hands rfl hm).elim
section
variable {c:Ctx} {ops:Array Oper} {rest:List Oper} {t:List (Nat×FV)} {ob:List (Nat×zn)} {dst:Option Nat} {ty:TypeId} {pos:String} {af:Array Edge} {gd:Option (Nat×Bool)} {QS:FSt→Prop}
theorem VI {op:Op} {f:Nat} {fs:List FV} {args:List FV} {obl:List (Nat×zn)} {ex:List Nat} {Q:FV→(Nat→zn)→Prop} (hs:yI c.P f args obl ex Q) (π:List (Nat×Nat))
  (hrun:∀ (w0:World) (J:JJ) (a:Act) (w:World) (β:Nat→Option Nat),FR c.N w0 J ⟨t,ob⟩ a w β→∃ vs:List Value,(execOp a.eval ⟨dst,op,ty,pos,af,gd⟩).run c.P w=.ok (.enter f vs.toArray) w∧VRs w J β ⟨t,ob⟩ vs fs)
  (hx:fs=args.map (FV.ren (gOf π)))
  (hob:zF ob (gOf π) obl) (hnd:ndB ((obl.map Prod.fst++ex).map (gOf π))=true) (hcl:obl.all (fun p=>(look {} obl p.1).cl (obl.map Prod.fst))=true) (hca:args.all (FV.cl (obl.map Prod.fst))=true) (hex:ex.all (fun k=>Nat.beq ((⟨t,ob⟩:FSt).ob (gOf π k)).ver 0)=true)
  (hd:zcK c.N dst=true) (hw:zM ops ⟨t,ob⟩ (⟨dst,op,ty,pos,af,gd⟩:Oper) true)
  (k:∀ res ob',Q res (look {} ob')→yH c ops rest dst t ob π (obl.map Prod.fst++ex) QS res ob') :
  zi c ops ((⟨dst,op,ty,pos,af,gd⟩:Oper)::rest) ⟨t,ob⟩ QS:=fun QQ w0 J a w β hQ hF=>by
 unfold wpList;rw [if_pos (hw.model hF)];refine .inl ?_;obtain ⟨vs,hr,hvs⟩:=hrun w0 J a w β hF;subst hx;have hl:vs.length=args.length:=by rw [hvs.len,List.length_map]
 have hc:=zap hF hs (gOf π) hob (Xl hnd) hcl hca (fun k hk=>Nat.eq_of_beq_eq_true (List.all_eq_true.1 hex k hk)) hl
  (fun j u y hu hy=>(hvs.get j u _ hu (by rw [List.getElem?_map,hy];rfl)).1)
  (fun y hy id ver hm=>by
   obtain ⟨j,hj,rfl⟩:=List.getElem_of_mem hy;have hj2:j<vs.length:=by rw [hl];exact hj
   exact (hvs.get j vs[j] _ zc (by rw [List.getElem?_map];simp [hj])).2 id ver hm)
 unfold Oper.wp;rw [hr,Oper.upon_enter];refine hc.mono ?_;rintro e w' ⟨v,res,ob',β',rfl,hq,k1,k2,k3⟩;obtain ⟨r,l,e1,e2,hk⟩:=k res ob' hq;subst e1;subst e2;exact hk QQ w0 J _ w' β' hQ (k1.putD (zat hd) k2 k3)
theorem zgv {f:Nat} {x:Operand} {xs:List Operand} {ts:Array TypeId} {args caps:List FV} {obl:List (Nat×zn)} {ex:List Nat} {Q:FV→(Nat→zn)→Prop} (hxv:(⟨t,ob⟩:FSt).ev x=.wrap (.bound f) caps) (hs:yI c.P f args obl ex Q) (π:List (Nat×Nat)) (hx:caps++xs.map (⟨t,ob⟩:FSt).ev=args.map (FV.ren (gOf π)))
  (hob:zF ob (gOf π) obl) (hnd:ndB ((obl.map Prod.fst++ex).map (gOf π))=true) (hcl:obl.all (fun p=>(look {} obl p.1).cl (obl.map Prod.fst))=true) (hca:args.all (FV.cl (obl.map Prod.fst))=true) (hex:ex.all (fun k=>Nat.beq ((⟨t,ob⟩:FSt).ob (gOf π k)).ver 0)=true)
  (hd:zcK c.N dst=true) (hw:zM ops ⟨t,ob⟩ (⟨dst,.call { callee:=.value x,args:=xs.toArray,argTypes:=ts },ty,pos,af,gd⟩:Oper) true)
  (k:∀ res ob',Q res (look {} ob')→yH c ops rest dst t ob π (obl.map Prod.fst++ex) QS res ob') :
  zi c ops ((⟨dst,.call { callee:=.value x,args:=xs.toArray,argTypes:=ts },ty,pos,af,gd⟩:Oper)::rest) ⟨t,ob⟩ QS:=by
 refine VI hs π (fun w0 J a w β hF=>?_) hx hob hnd hcl hca hex hd hw k;obtain ⟨us,ev,hus⟩:=hF.wraps hxv;have ev' : a.eval x=.func (.func f) us.toArray #[]:=ev;refine ⟨us++xs.map a.eval,?_,hus.append (hF.evs xs)⟩;have hmap:(us++xs.map a.eval).toArray=us.toArray++xs.toArray.map a.eval:=by apply Array.ext';simp
 rw [hmap];have:=yS (P:=c.P) hs.go (us.toArray++xs.toArray.map a.eval) w;simp [execOp,resolve,ev',Deferred.ofValue,invoke] at this ⊢;exact this
def zeE (P:Program) (T:Nat) (name:String):Option (Nat×Bool):=
 match P.info? T with
 | some i => match i.methods.find? (·.name == name) with
  | some m => if m.path.toList.isEmpty then m.func else none
  | none => none
 | none => none
def zeJ (P:Program) (T:Nat):Option Nat:=
 match P.underlying T with
 | some (.pointer e) => some e
 | _ => none
theorem Wq {P:Program} {T:Nat} {i:TypeInfo} (h:P.info? T=some i) (w:World):(typeInfo T).run P w=.ok i w:=by
 have hp:(program:Sem Program).run P w=.ok P w:=rfl;simp [typeInfo,hp,h]
theorem zbN {P:Program} {T:Nat} {name:String} {q:Nat×Bool} (h:zeE P T name=some q):∃ i m,P.info? T=some i∧i.methods.find? (·.name == name)=some m∧m.path.toList=[]∧m.path.isEmpty=true∧m.func=some q:=by
 unfold zeE at h;cases hi:P.info? T with
 | none => rw [hi] at h; cases h
 | some i=>
  rw [hi] at h;dsimp only at h;cases hm:i.methods.find? (·.name == name) with
  | none => rw [hm] at h; cases h
  | some m=>
   rw [hm] at h;dsimp only at h;split at h
   ·rename_i he;have e:m.path.toList=[]:=by simpa using he
    exact ⟨i,m,rfl,hm,e,by simpa using e,h⟩
   ·cases h
theorem zbR {P:Program} {T e:Nat} (h:zeJ P T=some e):P.underlying T=some (.pointer e):=by
 unfold zeJ at h;split at h
 ·rename_i hu;injection h with h;subst h;exact hu
 ·cases h
theorem zde {P:Program} {T e f:Nat} {name:String} (hm:zeE P T name=some (f,true)) (hp:zeJ P T=some e) (n:Nat) (v:Value) (w:World):(method (n+1) T v name).run P w=.ok (f,v) w:=by
 obtain ⟨i,m,h1,h2,h3,h4,h5⟩:=zbN hm;have hu:=run_underlying (P:=P) (w:=w) (zbR hp);simp [method,Wq h1,h2,h3,follow,h5,receiverAt,hu,Place.get]
theorem zdf {P:Program} {T e f:Nat} {name:String} (hm:zeE P T name=some (f,false)) (hp:zeJ P T=some e) (n:Nat) (A:Addr) (v:Value) (w:World) (hl:(loadVar e A).run P w=.ok v w):(method (n+1) T (.pointer (some A)) name).run P w=.ok (f,v) w:=by
 obtain ⟨i,m,h1,h2,h3,h4,h5⟩:=zbN hm;have hu:=run_underlying (P:=P) (w:=w) (zbR hp);have hs:∀ s:String,(Builtin.ssaWrapNilChk_ #[T] T #[.pointer (some A),strVal "",strVal s]).run P w=.ok (.pointer (some A)) w:=fun s=>rfl;have h6:m.path=#[]:=by simpa using h4
 simp [method,Wq h1,h2,h6,follow,h5,receiverAt,hu,Place.get,hs,asAddr,hl]
theorem zac {P:Program} {T f:Nat} {name:String} {v r:Value} {args:List Value} {w:World} (hm:∀ n,(method (n+1) T v name).run P w=.ok (f,r) w) (hg:ziL P f=true) {ρ:Operand→Value} {x:Operand} {xs:List Operand} (hx:ρ x=.iface T v) (hxs:xs.map ρ=args) {ts:Array TypeId} {dst:Option Nat} {ty:TypeId} {pos:String} {af:Array Edge} {gd:Option (Nat×Bool)} :
  (execOp ρ ⟨dst,.call { callee:=.invoke x name,args:=xs.toArray,argTypes:=ts },ty,pos,af,gd⟩).run P w=.ok (.enter f (r::args).toArray) w:=by
 have hp:(program:Sem Program).run P w=.ok P w:=rfl;have hc:=yS (P:=P) hg (r::args).toArray w;have e1:(#[ρ x]++xs.toArray.map ρ).extract 1 (#[ρ x]++xs.toArray.map ρ).size=args.toArray:=by
  subst hxs;apply Array.ext';simp [List.take_of_length_le]
 have e2:(#[ρ x]++xs.toArray.map ρ)[0]? = some (.iface T v):=by simp [hx]
 have e3:#[r]++args.toArray=(r::args).toArray:=by apply Array.ext';simp
 have hmm:=hm (P.types.size+99);have e4:P.types.size+Made.depth=P.types.size+99+1:=rfl;simp only [execOp,resolve,Sem.run_bind,Sem.run_pure,Result.andThen_ok,invoke,e1,e2,callMethod,hp,e4,hmm,e3,hc]
theorem Yy {T e:Nat} {name:String} {f:Nat} {x:Operand} {xs:List Operand} {ts:Array TypeId} {args:List FV} {q:FV} {obl:List (Nat×zn)} {ex:List Nat} {Q:FV→(Nat→zn)→Prop} (hxv:(⟨t,ob⟩:FSt).ev x=.wrap (.ifc T) [q]) (hm:zeE c.P T name=some (f,true)) (hp:zeJ c.P T=some e) (hs:yI c.P f args obl ex Q) (π:List (Nat×Nat)) (hx:q::xs.map (⟨t,ob⟩:FSt).ev=args.map (FV.ren (gOf π)))
  (hob:zF ob (gOf π) obl) (hnd:ndB ((obl.map Prod.fst++ex).map (gOf π))=true) (hcl:obl.all (fun p=>(look {} obl p.1).cl (obl.map Prod.fst))=true) (hca:args.all (FV.cl (obl.map Prod.fst))=true) (hex:ex.all (fun k=>Nat.beq ((⟨t,ob⟩:FSt).ob (gOf π k)).ver 0)=true)
  (hd:zcK c.N dst=true) (hw:zM ops ⟨t,ob⟩ (⟨dst,.call { callee:=.invoke x name,args:=xs.toArray,argTypes:=ts },ty,pos,af,gd⟩:Oper) true)
  (k:∀ res ob',Q res (look {} ob')→yH c ops rest dst t ob π (obl.map Prod.fst++ex) QS res ob') :
  zi c ops ((⟨dst,.call { callee:=.invoke x name,args:=xs.toArray,argTypes:=ts },ty,pos,af,gd⟩:Oper)::rest) ⟨t,ob⟩ QS:=by
 refine VI hs π (fun w0 J a w β hF=>?_) hx hob hnd hcl hca hex hd hw k;obtain ⟨us,ev,hus⟩:=hF.wraps hxv;obtain ⟨u,rfl⟩:∃ u,us=[u]:=List.length_eq_one_iff.1 hus.len;have ev' : a.eval x=.iface T u:=ev;have hu:=hus.get 0 u q rfl rfl;exact ⟨u::xs.map a.eval,zac (fun n=>zde hm hp n u w) hs.go ev' rfl,VRs.cons hu.1 hu.2 (hF.evs xs)⟩
theorem yG {T e:Nat} {name:String} {f:Nat} {x:Operand} {xs:List Operand} {ts:Array TypeId} {args:List FV} {q:FV} {i v j E:Nat} {es:List (List FV)} {obl:List (Nat×zn)} {ex:List Nat} {Q:FV→(Nat→zn)→Prop} (hxv:(⟨t,ob⟩:FSt).ev x=.wrap (.ifc T) [.ptr i v j 0]) (hi:(⟨t,ob⟩:FSt).ob i=⟨v,.hrow,E,1,es⟩) (hj:es[j]? = some [q]) (hm:zeE c.P T name=some (f,false)) (hp:zeJ c.P T=some e)
  (hk:(c.ty e).k.agg? = some false) (hs:yI c.P f args obl ex Q) (π:List (Nat×Nat)) (hx:q::xs.map (⟨t,ob⟩:FSt).ev=args.map (FV.ren (gOf π)))
  (hob:zF ob (gOf π) obl) (hnd:ndB ((obl.map Prod.fst++ex).map (gOf π))=true) (hcl:obl.all (fun p=>(look {} obl p.1).cl (obl.map Prod.fst))=true) (hca:args.all (FV.cl (obl.map Prod.fst))=true) (hex:ex.all (fun k=>Nat.beq ((⟨t,ob⟩:FSt).ob (gOf π k)).ver 0)=true)
  (hd:zcK c.N dst=true) (hw:zM ops ⟨t,ob⟩ (⟨dst,.call { callee:=.invoke x name,args:=xs.toArray,argTypes:=ts },ty,pos,af,gd⟩:Oper) true)
  (k:∀ res ob',Q res (look {} ob')→yH c ops rest dst t ob π (obl.map Prod.fst++ex) QS res ob') :
  zi c ops ((⟨dst,.call { callee:=.invoke x name,args:=xs.toArray,argTypes:=ts },ty,pos,af,gd⟩:Oper)::rest) ⟨t,ob⟩ QS:=by
 refine VI hs π (fun w0 J a w β hF=>?_) hx hob hnd hcl hca hex hd hw k;obtain ⟨us,ev,hus⟩:=hF.wraps hxv;obtain ⟨u,rfl⟩:∃ u,us=[u]:=List.length_eq_one_iff.1 hus.len;have ev' : a.eval x=.iface T u:=ev;have hu:=(hus.get 0 u _ rfl rfl).1;have hlf:((⟨t,ob⟩:FSt).ob i).life=.hrow:=by rw [hi]
 have hlive:((⟨t,ob⟩:FSt).ob i).life≠.dead:=by rw [hlf];decide
 obtain ⟨_,b,hb,hv⟩:=hu hlive (by rw [hi]);obtain ⟨cur,cap,hblk,hn,hmm,hcs,hl,hr⟩:=hF.blockH hlf hb;have hH:=(hF.obj i hlive).rowH (by rw [hlf];rfl) (by rw [hlf];rfl);have hwd:=hH.wide;have hsz:((⟨t,ob⟩:FSt).ob i).sz=1:=by rw [hi]
 have hes:((⟨t,ob⟩:FSt).ob i).es=es:=by rw [hi]
 rw [hsz] at hv hcs hl hr hwd;rw [hes] at hn hl hr hwd;have hjl:=(List.getElem?_eq_some_iff.1 hj).1;have hjf:=Va _ hwd j q hj;have hjc:j<cur.size:=by omega
 have hcu:(cur.toList.take (es.length * 1))[j]? = some cur[j]:=by
  rw [List.getElem?_take,if_pos zb];simp [hjc]
 have hcell:w.cell? ⟨b,j,none⟩=some cur[j]:=by
  have:=cell_of_row w b j cur ((⟨t,ob⟩:FSt).ob i).E (0,0) hblk;rw [this];simp [hjc]
 have hld:(loadVar e ⟨b,j,none⟩).run c.P w=.ok cur[j] w:=by simp [loadVar,Zt hk,load,Sem.run,hcell]
 have hv' : u=.pointer (some ⟨b,j,none⟩):=by rw [hv];simp
 subst hv';exact ⟨cur[j]::xs.map a.eval,zac (fun n=>zdf hm hp n _ _ w hld) hs.go ev' rfl,VRs.cons (hr j _ q hcu hjf) (fun id' ver' e'=>hH.vers q (by rw [hes];exact List.mem_of_getElem? hjf) id' ver' e') (hF.evs xs)⟩
end
theorem FW.post {c:Ctx} {code:Code} {Q:Exit→FSt→Prop} {s:FSt} (h:FW c code (fun e s'=>∃ s'',FLe s' s''∧Q e s'') s):FW c code Q s:=fun w0 J a w β hF=>
 xb (c:=code) (h w0 J a w β hF) fun _ _ _ ⟨s',β',⟨s'',hl,q⟩,f⟩=>let ⟨β'',f'⟩:=hl _ _ _ _ _ _ f;⟨s'',β'',q,f'⟩
theorem zaT {α:Type} {es:List (List α)} {sz m:Nat} (hw:∀ e∈es,e.length=sz):(es.take m).flatten=es.flatten.take (m * sz):=by
 induction es generalizing m with
 | nil => simp
 | cons e es ih=>
  cases m with
  | zero => simp
  | succ m =>
   have he:=hw e zc;rw [List.take_succ_cons,List.flatten_cons,List.flatten_cons,ih fun q hq=>hw q (by simp [hq]),List.take_append,he];rw [show (e.take ((m+1) * sz))=e from List.take_of_length_le (by rw [he,Nat.succ_mul];omega),show (m+1) * sz - sz=m * sz by rw [Nat.succ_mul];omega]
theorem FLe.cut {t:List (Nat×FV)} {ob:List (Nat×zn)} (q i:Nat) {vq Eq v E sz m:Nat} {es:List (List FV)} (hqi:q≠i) (hq:look {} ob q=⟨vq,.hrow,Eq,1,[[.own i v 0 m]]⟩) (hi:look {} ob i=⟨v,.own,E,sz,es⟩) (hm:m≤es.length) :
  FLe ⟨t,ob⟩ ⟨t,(q,⟨vq,.hrow,Eq,1,[[.own i (v+1) 0 m]]⟩)::(i,⟨v+1,.own,E,sz,es.take m⟩)::ob⟩:=by
 intro N w0 J a w β hF;have bq:(⟨t,ob⟩:FSt).ob q=⟨vq,.hrow,Eq,1,[[.own i v 0 m]]⟩:=hq;have bi:(⟨t,ob⟩:FSt).ob i=⟨v,.own,E,sz,es⟩:=hi;obtain ⟨s',hs'⟩:∃ s' : FSt,s'=⟨t,(q,⟨vq,.hrow,Eq,1,[[.own i (v+1) 0 m]]⟩)::(i,⟨v+1,.own,E,sz,es.take m⟩)::ob⟩:=⟨_,rfl⟩
 have cq:s'.ob q=⟨vq,.hrow,Eq,1,[[.own i (v+1) 0 m]]⟩:=by rw [hs'];exact (zE _ _ _ _ _).trans (if_pos rfl)
 have ci:s'.ob i=⟨v+1,.own,E,sz,es.take m⟩:=by rw [hs'];exact (zE _ _ _ _ _).trans ((if_neg hqi).trans ((zE _ _ _ _ _).trans (if_pos rfl)))
 have co:∀ k,k≠q→k≠i→s'.ob k=(⟨t,ob⟩:FSt).ob k:=fun k h1 h2=>by rw [hs'];exact (zE _ _ _ _ _).trans ((if_neg fun e=>h1 e.symm).trans ((zE _ _ _ _ _).trans (if_neg fun e=>h2 e.symm)))
 have cl:∀ k,(s'.ob k).life=((⟨t,ob⟩:FSt).ob k).life:=fun k=>by
  by_cases h1:k=q
  ·subst h1;rw [cq,bq]
  ·by_cases h2:k=i
   ·subst h2;rw [ci,bi]
   ·rw [co k h1 h2]
 have hImm:∀ b,Imm J w β ⟨t,ob⟩ b→Imm J w β s' b:=fun b hb=>⟨hb.1,hb.2.1,fun id hid=>hb.2.2 id (by rw [← cl];exact hid)⟩
 have hcutV:∀ u,YC w (β i) ⟨v,.own,E,sz,es⟩ u 0 m→YC w (β i) ⟨v+1,.own,E,sz,es.take m⟩ u 0 m:=fun u hu=>by
  obtain ⟨A,cc,k1,k2,k3,k4,k5⟩:=hu.ex;exact ⟨rfl,A,cc,k1,k2,by simp;omega,k4,k5⟩
 rw [← hs'];refine ⟨β,hF.step (C:=fun k=>k=q∨k=i) hF.size hF.defers hF.bel (fun b hb=>⟨hImm b hb,rfl⟩) (fun k=>.inl ⟨rfl,by rw [hs'];rfl⟩) (fun k hk=>⟨co k (fun e=>hk (.inl e)) (fun e=>hk (.inr e)),rfl,fun _ _ _=>rfl⟩) ?_ ?_ ?_ (fun id id' b h1 h2=>hF.inj id id' b (by rw [← cl];exact h1) (by rw [← cl];exact h2)) (fun b _ hn=>⟨rfl,fun id hl=>hn id (by rw [← cl];exact hl)⟩)⟩
 ·rintro k (rfl|rfl)
  ·rw [cq,bq];exact Nat.le_refl _
  ·rw [ci,bi];exact Nat.le_succ _
 ·rintro k (rfl|rfl) hl hv
  ·refine ⟨by rw [bq];exact (by decide:zX.hrow≠.dead),rfl,by rw [cq,bq],by rw [cq,bq],fun u o n hu=>?_⟩;rw [bq] at hu;rw [cq];obtain ⟨A,cc,k1,k2,k3,k4,k5⟩:=hu.ex;exact ⟨rfl,A,cc,k1,k2,k3,k4,k5⟩
  ·rw [ci,bi] at hv;exact absurd hv (Nat.succ_ne_self v)
 ·rintro k (rfl|rfl) hl hT
  ·have hO:=(hF.obj k (by rw [← cl];exact hl)).rowH (by rw [bq];rfl) (by rw [bq];rfl);rw [bq] at hO;rw [cq];obtain ⟨v1,us,r1,r2,r3,r4⟩:=hO.row;refine .ofH ⟨by simp,fun f hf id ver hm=>?_,v1,us,r1,r2,r3,fun j u f hu hf=>?_⟩ rfl
   ·simp at hf;subst hf;obtain ⟨rfl,rfl⟩:id=i∧ver=v+1:=by simpa [FV.hands] using hm
    rw [ci];exact Nat.le_refl _
   ·have hj:j=0:=by
     have:=(List.getElem?_eq_some_iff.1 hf).1;simp at this;exact this
    subst hj;have hf' : FV.own i (v+1) 0 m=f:=by simpa using hf
    subst hf';have h0:=r4 0 u (.own i v 0 m) hu rfl;intro _ _;rw [ci];have h1:=h0 (by rw [bi];exact (by decide:zX.own≠.dead)) (by rw [bi]);rw [bi] at h1;exact hcutV u h1
  ·have hO:=(hF.obj k (by rw [← cl];exact hl)).rowR (by rw [bi];rfl);rw [bi] at hO;rw [ci];obtain ⟨v1,us,r1,r2,r3⟩:=hO.row;dsimp only at r1 r2 r3;have hw:=hO.wide;have hfl:=zaT (m:=m) hw;have hlm:(es.take m).length=m:=by rw [List.length_take];omega
   refine .ofRow ⟨fun e he=>hw e (List.mem_of_mem_take he),fun f hf=>hO.one f ?_,?_⟩ (.own rfl) rfl
   ·dsimp only at hf;rw [hfl] at hf;exact List.mem_of_mem_take hf
   ·have r3' : RdL w (Imm J w β s') (us.take (m * sz)) ((es.take m).flatten):=by
     rw [hfl];exact (r3.take _).mono fun b hb=>⟨hImm b hb,rfl⟩
    have hul:(us.take (m * sz)).length=m * sz:=by
     rw [List.length_take,r1.1];have:=Nat.mul_le_mul_right sz hm;omega
    rcases r1.2 with ⟨rfl,h0⟩|⟨b,cap,cur,rfl,h1,hgg,hn,hcm,hcs,htk⟩
    ·obtain rfl:m=0:=by omega
     refine ⟨_,us.take (0 * sz),⟨by rw [hlm];exact hul,.inl ⟨rfl,hlm⟩⟩,r2,r3'⟩
    ·refine ⟨.slice (some ⟨b,0,none⟩) m cap,us.take (m * sz),⟨by rw [hlm];exact hul,.inr ⟨b,cap,cur,by rw [hlm],h1,hgg,by rw [hlm];omega,hcm,hcs,?_⟩⟩,r2,r3'⟩;rw [hlm,← htk,List.take_take,Nat.min_eq_left (Nat.mul_le_mul_right sz hm)]
section
variable {c:Ctx} {w0 w:World} {J:JJ} {s:FSt} {a:Act} {β:Nat→Option Nat}
theorem FR.newH (h:FR c.N w0 J s a w β) (d E:Nat) {f:FV} {v:Value} (hv:VR w (Imm J w β s) β s v f) (hvv:∀ id ver,(id,ver)∈f.hands→ver≤(s.ob id).ver) :
  FR c.N w0 J (s.set d ⟨(s.ob d).ver+1,.hrow,E,1,[[f]]⟩) a (w.alloc (.cells #[v] E)) (Yg β d (some w.heap.size)):=by
 obtain ⟨s',hs'⟩:∃ s' : FSt,s'=s.set d ⟨(s.ob d).ver+1,.hrow,E,1,[[f]]⟩:=⟨_,rfl⟩
 have cd:s'.ob d=⟨(s.ob d).ver+1,.hrow,E,1,[[f]]⟩:=by rw [hs',FSt.ob_set,if_pos rfl]
 have co:∀ k,k≠d→s'.ob k=s.ob k:=fun k hk=>by rw [hs',FSt.ob_set,if_neg (fun e=>hk e.symm)]
 have bo:∀ k,k≠d→Yg β d (some w.heap.size) k=β k:=fun k hk=>by unfold Yg;rw [if_neg hk]
 have hst:∀ b,b<w.heap.size→(w.alloc (.cells #[v] E)).heap[b]? = w.heap[b]?:=fun b hb=>(xI w (.cells #[v] E)).block b hb;have hver:∀ k,(s.ob k).ver≤(s'.ob k).ver:=fun k=>by
  by_cases hk:k=d
  ·subst hk;rw [cd];exact Nat.le_succ _
  ·rw [co k hk];exact Nat.le_refl _
 rw [← hs'];refine h.step (C:=fun k=>k=d) h.size h.defers (h.bel.alloc h.bel.size _) (fun b hb=>⟨⟨?_,hb.2.1,fun id hid=>?_⟩,hst b hb.1⟩) (fun k=>.inl ⟨rfl,by rw [hs'];rfl⟩) (fun k hk=>⟨co k hk,bo k hk,fun hl b hb=>hst b ((h.obj k hl).lt hb).2⟩) (fun k _=>hver k) ?_ ?_ ?_ ?_
 ·exact Nat.lt_of_lt_of_le hb.1 (xI w (.cells #[v] E)).size
 ·by_cases hk:id=d
  ·subst hk;rw [zW];intro e;injection e with e;have:=hb.1;omega
  ·rw [bo id hk];exact hb.2.2 id (by rw [← co id hk];exact hid)
 ·rintro k rfl hl hv;rw [cd] at hv;exact absurd hv (Nat.succ_ne_self _)
 ·rintro k rfl hl hT;rw [cd,zW];refine .ofH ⟨by simp,fun g hg id ver hm=>?_,.slice (some ⟨w.heap.size,0,none⟩) 1 1,[v],⟨rfl,.inr ⟨w.heap.size,1,#[v],rfl,h.bel.size,heap_alloc_new w _,Nat.le_refl _,by simp [maxLen],rfl,rfl⟩⟩,rfl,rfl,fun j u g hu hg=>?_⟩ rfl
  ·simp at hg;subst hg;exact Nat.le_trans (hvv id ver hm) (hver id)
  ·have hj:j=0:=by
    have:=(List.getElem?_eq_some_iff.1 hg).1;simp at this;exact this
   subst hj;have e1:f=g:=by simpa using hg
   have e2:v=u:=by simpa using hu
   subst e1;subst e2;exact hT v f hv hvv
 ·intro id id' b h1 h2 e1 e2;by_cases hk:id=d
  ·by_cases hk' : id'=d
   ·rw [hk,hk']
   ·subst hk;rw [zW] at e1;rw [bo id' hk'] at e2;rw [co id' hk'] at h2;injection e1 with e1
    have:=((h.obj id' h2).lt e2).2;omega
  ·by_cases hk' : id'=d
   ·subst hk';rw [zW] at e2;rw [bo id hk] at e1;rw [co id hk] at h1;injection e2 with e2
    have:=((h.obj id h1).lt e1).2;omega
   ·rw [bo id hk] at e1;rw [bo id' hk'] at e2;rw [co id hk] at h1;rw [co id' hk'] at h2;exact h.inj id id' b h1 h2 e1 e2
 ·intro b hb hn;refine ⟨hst b hb,fun id hl=>?_⟩;by_cases hk:id=d
  ·subst hk;rw [zW];intro e;injection e with e;omega
  ·rw [bo id hk];exact hn id (by rw [← co id hk];exact hl)
end
section
variable {c:Ctx} {ops:Array Oper} {rest:List Oper} {t:List (Nat×FV)} {ob:List (Nat×zn)} {d:Nat} {ty:TypeId} {pos:String} {af:Array Edge} {gd:Option (Nat×Bool)} {QS:FSt→Prop}
theorem zit {T:Nat} {x:Operand} {f:FV} {v0 E0 sz0:Nat} {lf0:zX} {es0:List (List FV)} (hx:(⟨t,ob⟩:FSt).ev x=f) (hf:Zx ⟨t,ob⟩ f) (hv:(⟨t,ob⟩:FSt).ob d=⟨v0,lf0,E0,sz0,es0⟩) (hd:Nat.blt d c.N=true) (hw:zM ops ⟨t,ob⟩ (⟨some d,.box T x,ty,pos,af,gd⟩:Oper) true)
  (k:zi c ops rest ⟨((d,(.ptr d (v0+1) 0 0))::t),((d,⟨v0+1,.hrow,T,1,[[f]]⟩)::ob)⟩ QS):zi c ops ((⟨some d,.box T x,ty,pos,af,gd⟩:Oper)::rest) ⟨t,ob⟩ QS:=fun QQ w0 J a w β hQ hF=>by
 unfold wpList;rw [if_pos (hw.model hF)];refine .inl ?_;obtain ⟨hc1,_⟩:=Zx.val hF hx hf;have hvr:=hF.ev x;have hvv:∀ id' ver',(id',ver')∈f.hands→ver'≤((⟨t,ob⟩:FSt).ob id').ver:=fun id' ver' e=>hF.evers x (by rw [hx];exact e);rw [hx] at hvr;have hN:=hF.newH d T hvr hvv;have hrun:(execOp a.eval ⟨some d,.box T x,ty,pos,af,gd⟩).run c.P w=.ok (.value (.pointer (some ⟨w.heap.size,0,none⟩))) (w.alloc (.cells #[a.eval x] T)):=by
  simp [execOp,Instr.box,newVar,newRow,hc1]
 rw [hv] at hN;refine yL.wp (f:=.ptr d (v0+1) 0 0) (wr:=[(d,⟨v0+1,.hrow,T,1,[[f]]⟩)]) ⟨_,_,_,hrun,hN,fun _ _=>⟨?_,w.heap.size,zW _ _ _,by simp⟩,fun id ver e=>?_⟩ (fun d' e=>by injection e with e;subst e;exact Nat.le_of_ble_eq_true hd) fun a' w' β' hF'=>k QQ w0 J a' w' β' hQ hF'
 ·show (FSt.ob (FSt.set _ d _) d).life.slic=true;rw [FSt.ob_set,if_pos rfl];rfl
 ·simp only [FV.hands,List.mem_singleton,Prod.mk.injEq] at e;obtain ⟨rfl,rfl⟩:=e;show _≤(FSt.ob (FSt.set _ _ _) _).ver;rw [FSt.ob_set,if_pos rfl];exact Nat.le_refl _
theorem zb2 {T:Nat} {v0 E0 sz0:Nat} {lf0:zX} {es0:List (List FV)} (hk:(c.ty T).k.known=true) (hz:(c.ty T).size=1) (hv:(⟨t,ob⟩:FSt).ob d=⟨v0,lf0,E0,sz0,es0⟩) (hd:Nat.blt d c.N=true) (hw:zM ops ⟨t,ob⟩ (⟨some d,.alloc T,ty,pos,af,gd⟩:Oper) true)
  (k:zi c ops rest ⟨((d,(.ptr d (v0+1) 0 0))::t),((d,⟨v0+1,.hrow,T,1,[[.undef]]⟩)::ob)⟩ QS):zi c ops ((⟨some d,.alloc T,ty,pos,af,gd⟩:Oper)::rest) ⟨t,ob⟩ QS:=fun QQ w0 J a w β hQ hF=>by
 unfold wpList;rw [if_pos (hw.model hF)];refine .inl ?_;obtain ⟨z,h1,_,h3⟩:=yw (c:=c) (T:=T) (fun e=>by rw [e] at hk;cases hk) w;obtain ⟨u,hu⟩:∃ u,z.cells=#[u]:=by
  have hl:z.cells.toList.length=1:=by rw [← hz,← h3];simp
  obtain ⟨u,hu⟩:=List.length_eq_one_iff.1 hl;exact ⟨u,by apply Array.ext';rw [hu]⟩
 have hN:=hF.newH d T (f:=.undef) (v:=u) (VR.of_rd (.undef _) rfl) (fun _ _ e=>by cases e);have hrun:(execOp a.eval ⟨some d,.alloc T,ty,pos,af,gd⟩).run c.P w=.ok (.value (.pointer (some ⟨w.heap.size,0,none⟩))) (w.alloc (.cells #[u] T)):=by
  simp [execOp,Instr.alloc,h1,newVar,newRow,hu]
 rw [hv] at hN;refine yL.wp (f:=.ptr d (v0+1) 0 0) (wr:=[(d,⟨v0+1,.hrow,T,1,[[.undef]]⟩)]) ⟨_,_,_,hrun,hN,fun _ _=>⟨?_,w.heap.size,zW _ _ _,by simp⟩,fun id ver e=>?_⟩ (fun d' e=>by injection e with e;subst e;exact Nat.le_of_ble_eq_true hd) fun a' w' β' hF'=>k QQ w0 J a' w' β' hQ hF'
 ·show (FSt.ob (FSt.set _ d _) d).life.slic=true;rw [FSt.ob_set,if_pos rfl];rfl
 ·simp only [FV.hands,List.mem_singleton,Prod.mk.injEq] at e;obtain ⟨rfl,rfl⟩:=e;show _≤(FSt.ob (FSt.set _ _ _) _).ver;rw [FSt.ob_set,if_pos rfl];exact Nat.le_refl _
end
def yu (q v n:Nat):zn:=⟨q,.hrow,76,1,[[.own 5001 v 0 n]]⟩
def yX (v:Nat) (l:List Int):zn:=⟨v,.own,3,1,l.map zj⟩
theorem xM {q v v' n n' : Nat} {res:FV} {o:Nat→zn} {l l' : List Int} (hr:res.cl [5000,5001]=true) (h0:o 5000=yu q v' n') (h1:o 5001=yX v' l'):YV [(5000,yu q v n),(5001,yX v l)] [] res o where
 old k hk hl:=by
  simp at hk;rcases hk with rfl|rfl
  ·rw [h0];exact ⟨rfl,rfl,rfl⟩
  ·rw [h1];exact ⟨rfl,rfl,rfl⟩
 new k hk:=by cases hk
 cl k hk:=by
  simp at hk;rcases hk with rfl|rfl
  ·rw [h0];rfl
  ·rw [h1];rfl
 res:=hr
theorem XP (q v:Nat) (l:List Int):yI Try.prog 44 [.ptr 5000 q 0 0] [(5000,yu q v l.length),(5001,yX v l)] [] (fun res o=>res=.int .i64 l.length∧o 5000=yu q v l.length∧o 5001=yX v l):=by
 refine yI.of_body (c:=(xa Try.prog zD zq 7)) ⟨Try.func44,rfl,Try.ntmps44,by kernel_rfl⟩ zp ?_ ?_
 ·rintro res o ⟨rfl,h0,h1⟩;exact xM rfl h0 h1
 change FW _ _ _ ⟨[(0,.ptr 5000 q 0 0)],[(5000,yu q v l.length),(5001,yX v l)]⟩;unfold yu;refine za ?_;exact FW.ret ⟨.inl rfl,_,.tmp (t:=2) rfl rfl,rfl,rfl,rfl⟩
theorem xQ (v:Nat) (l:List Int) (i j:Nat) (hi:i<l.length) (hj:j<l.length):yI Try.prog 97 [.own 5001 v 0 l.length,.int .i64 i,.int .i64 j] [(5001,yX v l)] [] (fun res o=>res=.bool (decide (nth l i<nth l j))∧o 5001=yX v l):=by
 refine yI.of_body (c:=(xa Try.prog zD zq 16)) ⟨Try.func97,rfl,Try.ntmps97,by kernel_rfl⟩ zp ?_ ?_
 ·rintro res o ⟨rfl,h1⟩;exact ZZ (v:=v) rfl (by rw [h1] <;> rfl) (by rw [h1] <;> rfl) rfl
 change FW _ _ _ ⟨[(0,.own 5001 v 0 l.length),(1,.int .i64 i),(2,.int .i64 j)],[(5001,yX v l)]⟩;unfold yX;refine yf ?_;refine ⟨by kernel_rfl,?_⟩;skip;exact FW.ret ⟨.inl rfl,_,.tmp (t:=6) rfl rfl,rfl,rfl⟩
def swp (l:List Int) (i j:Nat):List Int:=(l.set i (nth l j)).set j (nth l i)
theorem yU (l:List Int) (i j:Nat):(swp l i j).length=l.length:=by simp [swp]
theorem xR (v:Nat) (l:List Int) (i j:Nat) (hi:i<l.length) (hj:j<l.length):yI Try.prog 100 [.own 5001 v 0 l.length,.int .i64 i,.int .i64 j] [(5001,yX v l)] [] (fun res o=>res=.tup []∧o 5001=yX v (swp l i j)):=by
 refine yI.of_body (c:=(xa Try.prog zD zq 20)) ⟨Try.func100,rfl,Try.ntmps100,by kernel_rfl⟩ zp ?_ ?_
 ·rintro res o ⟨rfl,h1⟩;exact ZZ (v:=v) rfl (by rw [h1] <;> rfl) (by rw [h1] <;> rfl) rfl
 change FW _ _ _ ⟨[(0,.own 5001 v 0 l.length),(1,.int .i64 i),(2,.int .i64 j)],[(5001,yX v l)]⟩;unfold yX;refine yf ?_;rw [show (zj (nth l i)).set 0 (.int .i64 (nth l j))=zj (nth l j) from rfl,← List.map_set];obtain ⟨z,hz⟩:∃ z,l.set i (nth l j)=z:=⟨_,rfl⟩
 have hzl:z.length=l.length:=by rw [← hz];simp
 have hsw:swp l i j=z.set j (nth l i):=by rw [← hz];rfl
 rw [hz];refine VD rfl rfl rfl rfl rfl rfl zI (by exact zU zb) rfl rfl rfl ?_;rw [show (zj (nth z j)).set 0 (.int .i64 (nth l i))=zj (nth l i) from rfl,← List.map_set,← hsw];refine zK.nil ⟨by kernel_rfl,?_⟩;skip;exact ⟨.inr rfl,_,.plain .nil rfl rfl,rfl,rfl⟩
theorem zc2 (q v:Nat) (l:List Int) (x:Int) (hl:l.length≤1000000):yI Try.prog 99 [.ptr 5000 q 0 0,.iface 3 (.int .i64 x)] [(5000,yu q v l.length),(5001,yX v l)] [] (fun res o=>res=.tup []∧o 5000=yu q (v+1) (l++[x]).length∧o 5001=yX (v+1) (l++[x])):=by
 refine yI.of_body (c:=(xa Try.prog zD zq 13)) ⟨Try.func99,rfl,Try.ntmps99,by kernel_rfl⟩ zp ?_ ?_
 ·rintro res o ⟨rfl,h0,h1⟩;exact xM rfl h0 h1
 change FW _ _ _ ⟨[(0,.ptr 5000 q 0 0),(1,.iface 3 (.int .i64 x))],[(5000,yu q v l.length),(5001,yX v l)]⟩;unfold yu yX;refine FW.post ?_;refine yf ?_;refine ⟨by kernel_rfl,?_⟩;skip;obtain ⟨Z,hZ⟩:∃ Z,(l++[x]).map zj=Z:=⟨_,rfl⟩
 obtain ⟨m,hm⟩:∃ m,(l++[x]).length=m:=⟨_,rfl⟩
 have hZ1:l.map zj++[[.int .i64 x]]=Z:=by rw [← hZ,List.map_append];rfl
 have hZl:Z.length=m:=by rw [← hZ,← hm,List.length_map]
 rw [hZ1,hZl,hZ,hm];refine ⟨⟨[],[(5000,⟨q,.hrow,76,1,[[.own 5001 (v+1) 0 m]]⟩),(5001,⟨v+1,.own,3,1,Z⟩)]⟩,?_,.inr rfl,_,.plain .nil rfl rfl,rfl,rfl,rfl⟩;exact (FLe.cv [⟨5000,some 5000,q,⟨q,.hrow,76,1,[[.own 5001 (v+1) 0 m]]⟩⟩,⟨5001,some 11,0+1,⟨v+1,.own,3,1,Z⟩⟩] zf zu)
theorem zeK (q v:Nat) (l:List Int) (x:Int) (hl:l.length≤1000000):yI Try.prog 98 [.ptr 5000 q 0 0] [(5000,yu q v (l++[x]).length),(5001,yX v (l++[x]))] [] (fun res o=>res=.iface 3 (.int .i64 x)∧o 5000=yu q (v+1) l.length∧o 5001=yX (v+1) l):=by
 refine yI.of_body (c:=(xa Try.prog zD zq 27)) ⟨Try.func98,rfl,Try.ntmps98,by kernel_rfl⟩ zp ?_ ?_
 ·rintro res o ⟨rfl,h0,h1⟩;exact xM rfl h0 h1
 change FW _ _ _ ⟨[(0,.ptr 5000 q 0 0)],[(5000,yu q v (l++[x]).length),(5001,yX v (l++[x]))]⟩;unfold yu yX;obtain ⟨z,hz⟩:∃ z,l++[x]=z:=⟨_,rfl⟩
 have hzl:z.length=l.length+1:=by rw [← hz];simp
 have hzx:nth z l.length=x:=by rw [← hz];exact Zg
 have hzt:z.take l.length=l:=by rw [← hz];simp
 rw [hz];have hzn:(((z.length:Nat):Int) - 1).toNat=l.length:=by omega
 refine yf ?_;rw [hzn,hzx];refine ⟨by kernel_rfl,?_⟩;refine yf ?_;rw [hzn,Nat.sub_zero];refine ⟨by kernel_rfl,?_⟩;refine FW.le ?_ (FLe.cut (m:=l.length) 5000 5001 zg rfl rfl zI);rw [← List.map_take,hzt];refine za ?_;exact FW.ret ⟨.inl rfl,_,.tmp (t:=2) rfl rfl,rfl,rfl,rfl⟩
def upH:Nat→List Int→Nat→List Int
 | 0, l, _ => l
 | k+1, l, j => if j=0 ∨ ¬ nth l j<nth l ((j - 1) / 2) then l else upH k (swp l ((j - 1) / 2) j) ((j - 1) / 2)
theorem zgN:∀ (k:Nat) (l:List Int) (j:Nat),(upH k l j).length=l.length
 | 0, _, _ => rfl
 | k+1, l, j => by
  unfold upH;split
  ·rfl
  ·rw [zgN,yU]
def hif (q:Nat):FV:=.wrap (.ifc 75) [.ptr 5000 q 0 0]
theorem zhJ (q v:Nat) (l:List Int) (j:Nat) (hj:j<l.length) (hl:l.length≤1000000):yI Try.prog 54 [hif q,.int .i64 j] [(5000,yu q v l.length),(5001,yX v l)] [] (fun res o=>res=.tup []∧o 5000=yu q v l.length∧o 5001=yX v (upH (j+1) l j)):=by
 refine yI.of_body (c:=(xa Try.prog zD zq 23)) ⟨Try.func54,rfl,Try.ntmps54,by kernel_rfl⟩ zp ?_ ?_
 ·rintro res o ⟨rfl,h0,h1⟩;exact xM rfl h0 h1
 obtain ⟨n,hn⟩:∃ n,l.length=n:=⟨_,rfl⟩
 obtain ⟨R,hR⟩:∃ R,upH (j+1) l j=R:=⟨_,rfl⟩
 rw [hR,hn];rw [hn] at hj hl;change FW _ _ _ ⟨[(0,.wrap (.ifc 75) [.ptr 5000 q 0 0]),(1,.int .i64 j)],[(5000,yu q v n),(5001,yX v l)]⟩;refine yd ?_;refine FW.loop (fun x:List Int×Nat=>⟨[(0,.wrap (.ifc 75) [.ptr 5000 q 0 0]),(1,.int .i64 x.2)],[(5000,yu q v n),(5001,yX v x.1)]⟩) (fun x=>x.1.length=n∧x.2<n∧∃ k,x.2<k+1∧upH (k+1) x.1 x.2=R) (fun x=>x.2) (l,j) ⟨hn,hj,j,Nat.lt_succ_self _,hR⟩ (FLe.refl _) ?_;clear hR hn hj l j;rintro ⟨l,j⟩ ⟨hn,hj,k,hk,hR⟩;dsimp only at hn hj hk hR ⊢;unfold upH at hR;obtain ⟨p,hp⟩:∃ p,(j - 1) / 2=p:=⟨_,rfl⟩
 have hpj:p≤j:=by omega
 have hq:IntKind.i64.wrap (((j:Int) - 1).tdiv 2)=(p:Nat):=by
  rw [zfn _ (by
   rcases Nat.eq_zero_or_pos j with rfl|h
   ·decide
   ·have:=Int.tdiv_nonneg (a:=(j:Int) - 1) (b:=2) zb zb;omega) (by
   rcases Nat.eq_zero_or_pos j with rfl|h
   ·decide
   ·rw [Int.tdiv_eq_ediv_of_nonneg zb];omega)]
  rcases Nat.eq_zero_or_pos j with rfl|h
  ·subst hp;decide
  ·rw [Int.tdiv_eq_ediv_of_nonneg zb];omega
 rw [hp] at hR;refine za ?_;refine ziy rfl rfl zg rfl rfl ?_;rw [hq];refine za ?_;refine zJ (fun h1=>?_) (fun h1=>?_)
 ·have hj0:j=0:=by simp at h1;omega
  rw [if_pos (.inl hj0)] at hR;subst hR;refine za ?_;exact ⟨.inr rfl,_,.plain .nil rfl rfl,rfl,rfl,rfl⟩
 ·have hj0:j≠0:=by rintro rfl;simp at h1;omega
  refine za ?_;have hL:=xQ v l j p zb zb;have hS:=xR v l p j zb zb;rw [hn] at hL hS;refine yG (e:=76) (f:=97) rfl rfl rfl zA zA rfl hL [(5001,5001)] rfl (zF.cons rfl rfl rfl zF.nil) rfl rfl rfl rfl rfl ⟨_,_,rfl,rfl,rfl⟩ ?_;rintro _ _ ⟨rfl,h2⟩;refine yH.one [(5001,yX v l)] (.bool (decide (nth l j<nth l p))) rfl (congrArg (fun b=>[(5001,zn.ren (gOf [(5001,5001)]) b)]) h2) ?_;clear h2;refine za ?_;refine FW.cond rfl (fun h2=>?_) (fun h2=>?_)
  ·rw [if_pos (.inr (by simpa using h2))] at hR;subst hR;refine za ?_;exact ⟨.inr rfl,_,.plain .nil rfl rfl,rfl,rfl,rfl⟩
  ·rw [if_neg (by simp at h2;simp [hj0,h2])] at hR;refine za ?_;refine yG (e:=76) (f:=100) rfl rfl rfl zA zA rfl hS [(5001,5001)] rfl (zF.cons rfl rfl rfl zF.nil) rfl rfl rfl rfl rfl rfl ?_;rintro _ _ ⟨rfl,h3⟩;refine yH.one [(5001,yX v (swp l p j))] (.tup []) rfl (congrArg (fun b=>[(5001,zn.ren (gOf [(5001,5001)]) b)]) h3) ?_;clear h3;refine za ?_;refine ⟨(swp l p j,p),⟨by rw [yU];exact hn,by show p<n;omega,k - 1,by show p<k - 1+1;omega,by rw [show k - 1+1=k by omega];exact hR⟩,by show p<j;omega,?_⟩
   ·generalize swp l p j=Z;unfold yu yX;exact (FLe.cv [⟨5000,some 5000,q,⟨q,.hrow,76,1,[[.own 5001 v 0 n]]⟩⟩,⟨5001,some 5001,v,⟨v,.own,3,1,Z.map zj⟩⟩] zf zd)
def WQ (l:List Int) (i m:Nat):Nat:=if 2 * i+1+1<m∧nth l (2 * i+1+1)<nth l (2 * i+1) then 2 * i+1+1 else 2 * i+1
def YK:Nat→List Int→Nat→Nat→List Int
 | 0, l, _, _ => l
 | k+1, l, i, m => if m ≤ 2 * i+1 ∨ ¬ nth l (WQ l i m)<nth l i then l else YK k (swp l i (WQ l i m)) (WQ l i m) m
theorem zbk:∀ (k:Nat) (l:List Int) (i m:Nat),(YK k l i m).length=l.length
 | 0, _, _, _ => rfl
 | k+1, l, i, m => by
  unfold YK;split
  ·rfl
  ·rw [zbk,yU]
theorem zeh (q v:Nat) (l:List Int) (i m:Nat) (hi:i<l.length) (hm:m≤l.length) (hl:l.length≤1000000):yI Try.prog 55 [hif q,.int .i64 i,.int .i64 m] [(5000,yu q v l.length),(5001,yX v l)] [] (fun res o=>(∃ b,res=.bool b)∧o 5000=yu q v l.length∧o 5001=yX v (YK (m+1) l i m)):=by
 refine yI.of_body (c:=(xa Try.prog zD zq 48)) ⟨Try.func55,rfl,Try.ntmps55,by kernel_rfl⟩ zp ?_ ?_
 ·rintro res o ⟨⟨b,rfl⟩,h0,h1⟩;exact xM rfl h0 h1
 obtain ⟨n,hn⟩:∃ n,l.length=n:=⟨_,rfl⟩
 obtain ⟨R,hR⟩:∃ R,YK (m+1) l i m=R:=⟨_,rfl⟩
 rw [hR,hn];rw [hn] at hi hl hm;change FW _ _ _ ⟨[(0,.wrap (.ifc 75) [.ptr 5000 q 0 0]),(1,.int .i64 i),(2,.int .i64 m)],[(5000,yu q v n),(5001,yX v l)]⟩;refine za ?_;refine FW.loop (fun x:List Int×Nat=>⟨[(0,.wrap (.ifc 75) [.ptr 5000 q 0 0]),(1,.int .i64 i),(2,.int .i64 m),(7,.int .i64 x.2)],[(5000,yu q v n),(5001,yX v x.1)]⟩) (fun x=>x.1.length=n∧x.2<n∧∃ k,m<x.2+k+1∧YK (k+1) x.1 x.2 m=R) (fun x=>n - x.2) (l,i) ⟨hn,hi,m,by dsimp only;omega,hR⟩ ?_ ?_
 ·unfold yu yX;exact (FLe.cv [⟨5000,some 5000,q,⟨q,.hrow,76,1,[[.own 5001 v 0 n]]⟩⟩,⟨5001,some 5001,v,⟨v,.own,3,1,l.map zj⟩⟩] zf zd)
 clear hR hn l;obtain ⟨i0,hi0⟩:∃ i0,i=i0:=⟨_,rfl⟩
 rw [hi0] at hi ⊢;clear hi0 hi i;rintro ⟨l,i⟩ ⟨hn,hi,k,hk,hR⟩;dsimp only at hn hi hk hR ⊢;have h2:((2 * (i:Nat)+1:Nat):Int)=2 * (i:Int)+1:=by omega
 have h3:((2 * (i:Nat)+1+1:Nat):Int)=2 * (i:Int)+1+1:=by omega
 obtain ⟨a,ha⟩:∃ a,2 * i+1=a:=⟨_,rfl⟩
 have hJa:WQ l i m=if a+1<m∧nth l (a+1)<nth l a then a+1 else a:=by rw [← ha];rfl
 obtain ⟨j,hj⟩:∃ j,WQ l i m=j:=⟨_,rfl⟩
 rw [hj] at hJa;unfold YK at hR;rw [hj,ha] at hR;refine za ?_;rw [← h2,ha];skip;refine zJ (fun h1=>?_) (fun h1=>?_)
 ·rw [if_pos (.inl (by simpa using h1))] at hR;subst hR;refine za ?_;exact FW.ret ⟨.inl rfl,_,.tmp (t:=6) rfl rfl,⟨_,rfl⟩,rfl,rfl⟩
 ·have ham:a<m:=by simp at h1;omega
  refine za ?_;have hjb:i<j∧j<m:=by rw [hJa];split <;> omega
  refine zJ (fun h4=>?_) (fun h4=>?_)
  ·refine za ?_;have ha1:a+1<m:=by simp at h4;omega
   have hL1:=xQ v l (a+1) a zb zb;rw [hn] at hL1;refine yG (e:=76) (f:=97) rfl rfl rfl zA zA rfl hL1 [(5001,5001)] rfl (zF.cons rfl rfl rfl zF.nil) rfl rfl rfl rfl rfl ⟨_,_,rfl,rfl,rfl⟩ ?_;rintro _ _ ⟨rfl,h5⟩;refine yH.one [(5001,yX v l)] (.bool (decide (nth l (a+1)<nth l a))) rfl (congrArg (fun b=>[(5001,zn.ren (gOf [(5001,5001)]) b)]) h5) ?_;clear h5;refine za ?_;refine FW.cond rfl (fun h6=>?_) (fun h6=>?_)
   ·rw [if_pos ⟨ha1,by simpa using h6⟩] at hJa;refine FW.region ?_;refine zG rfl rfl rfl ?_;refine zO rfl rfl rfl ?_;refine zi.nil ?_;refine FW.le (s':=⟨[(0,.wrap (.ifc 75) [.ptr 5000 q 0 0]),(1,.int .i64 i0),(2,.int .i64 m),(7,.int .i64 i),(9,.int .i64 j)],[(5000,⟨q,.hrow,76,1,[[.own 5001 v 0 n]]⟩),(5001,⟨v,.own,3,1,l.map zj⟩)]⟩) ?_ ?_
    ·have hL:=xQ v l j i zb zb;have hS:=xR v l i j zb zb;rw [hn] at hL hS;refine za ?_;refine yG (e:=76) (f:=97) rfl rfl rfl zA zA rfl hL [(5001,5001)] rfl (zF.cons rfl rfl rfl zF.nil) rfl rfl rfl rfl rfl rfl ?_;rintro _ _ ⟨rfl,h5⟩;refine yH.one [(5001,yX v l)] (.bool (decide (nth l j<nth l i))) rfl (congrArg (fun b=>[(5001,zn.ren (gOf [(5001,5001)]) b)]) h5) ?_;clear h5;refine za ?_;refine FW.cond rfl (fun h2=>?_) (fun h2=>?_)
     ·rw [if_pos (.inr (by simpa using h2))] at hR;subst hR;refine za ?_;exact FW.ret ⟨.inl rfl,_,.tmp (t:=6) rfl rfl,⟨_,rfl⟩,rfl,rfl⟩
     ·rw [if_neg (by simp at h2;simp [h2];omega)] at hR;refine za ?_;refine yG (e:=76) (f:=100) rfl rfl rfl zA zA rfl hS [(5001,5001)] rfl (zF.cons rfl rfl rfl zF.nil) rfl rfl rfl rfl rfl rfl ?_;rintro _ _ ⟨rfl,h5⟩;refine yH.one [(5001,yX v (swp l i j))] (.tup []) rfl (congrArg (fun b=>[(5001,zn.ren (gOf [(5001,5001)]) b)]) h5) ?_;clear h5;refine za ?_;refine ⟨(swp l i j,j),⟨by rw [yU];exact hn,by show j<n;omega,k - 1,by show m<j+(k - 1)+1;omega,by rw [show k - 1+1=k by omega];exact hR⟩,by show n - j<n - i;omega,?_⟩;generalize swp l i j=Z;unfold yX;exact (FLe.cv [⟨5000,some 5000,q,⟨q,.hrow,76,1,[[.own 5001 v 0 n]]⟩⟩,⟨5001,some 5001,v,⟨v,.own,3,1,Z.map zj⟩⟩] zf zd)
    ·unfold yu yX;exact (FLe.cv [⟨5000,some 5000,q,⟨q,.hrow,76,1,[[.own 5001 v 0 n]]⟩⟩,⟨5001,some 5001,v,⟨v,.own,3,1,l.map zj⟩⟩] zf zd)
   ·rw [if_neg (fun q=>by simp at h6;have:=q.2;omega)] at hJa;refine FW.skip ?_;refine FW.le (s':=⟨[(0,.wrap (.ifc 75) [.ptr 5000 q 0 0]),(1,.int .i64 i0),(2,.int .i64 m),(7,.int .i64 i),(9,.int .i64 j)],[(5000,⟨q,.hrow,76,1,[[.own 5001 v 0 n]]⟩),(5001,⟨v,.own,3,1,l.map zj⟩)]⟩) ?_ ?_
    ·have hL:=xQ v l j i zb zb;have hS:=xR v l i j zb zb;rw [hn] at hL hS;refine za ?_;refine yG (e:=76) (f:=97) rfl rfl rfl zA zA rfl hL [(5001,5001)] rfl (zF.cons rfl rfl rfl zF.nil) rfl rfl rfl rfl rfl rfl ?_;rintro _ _ ⟨rfl,h5⟩;refine yH.one [(5001,yX v l)] (.bool (decide (nth l j<nth l i))) rfl (congrArg (fun b=>[(5001,zn.ren (gOf [(5001,5001)]) b)]) h5) ?_;clear h5;refine za ?_;refine FW.cond rfl (fun h2=>?_) (fun h2=>?_)
     ·rw [if_pos (.inr (by simpa using h2))] at hR;subst hR;refine za ?_;exact FW.ret ⟨.inl rfl,_,.tmp (t:=6) rfl rfl,⟨_,rfl⟩,rfl,rfl⟩
     ·rw [if_neg (by simp at h2;simp [h2];omega)] at hR;refine za ?_;refine yG (e:=76) (f:=100) rfl rfl rfl zA zA rfl hS [(5001,5001)] rfl (zF.cons rfl rfl rfl zF.nil) rfl rfl rfl rfl rfl rfl ?_;rintro _ _ ⟨rfl,h5⟩;refine yH.one [(5001,yX v (swp l i j))] (.tup []) rfl (congrArg (fun b=>[(5001,zn.ren (gOf [(5001,5001)]) b)]) h5) ?_;clear h5;refine za ?_;refine ⟨(swp l i j,j),⟨by rw [yU];exact hn,by show j<n;omega,k - 1,by show m<j+(k - 1)+1;omega,by rw [show k - 1+1=k by omega];exact hR⟩,by show n - j<n - i;omega,?_⟩;generalize swp l i j=Z;unfold yX;exact (FLe.cv [⟨5000,some 5000,q,⟨q,.hrow,76,1,[[.own 5001 v 0 n]]⟩⟩,⟨5001,some 5001,v,⟨v,.own,3,1,Z.map zj⟩⟩] zf zd)
    ·unfold yu yX;exact (FLe.cv [⟨5000,some 5000,q,⟨q,.hrow,76,1,[[.own 5001 v 0 n]]⟩⟩,⟨5001,some 5001,v,⟨v,.own,3,1,l.map zj⟩⟩] zf zd)
  ·have ha1:¬ a+1<m:=by simp at h4;omega
   rw [if_neg (fun q=>ha1 q.1)] at hJa
   (repeat (first|refine FW.seq ?_|refine FW.region ?_|refine FW.skip ?_|refine FW.condF rfl ?_|refine zi.nil ?_|refine WE rfl rfl rfl rfl ?_|refine zgz rfl rfl ⟨_,_,rfl,rfl,rfl⟩ ?_))
   refine zi.le (s':=⟨[(0,.wrap (.ifc 75) [.ptr 5000 q 0 0]),(1,.int .i64 i0),(2,.int .i64 m),(7,.int .i64 i),(9,.int .i64 j)],[(5000,⟨q,.hrow,76,1,[[.own 5001 v 0 n]]⟩),(5001,⟨v,.own,3,1,l.map zj⟩)]⟩) ?_ ?_
   ·have hL:=xQ v l j i zb zb;have hS:=xR v l i j zb zb;rw [hn] at hL hS;refine za ?_;refine yG (e:=76) (f:=97) rfl rfl rfl zA zA rfl hL [(5001,5001)] rfl (zF.cons rfl rfl rfl zF.nil) rfl rfl rfl rfl rfl rfl ?_;rintro _ _ ⟨rfl,h5⟩;refine yH.one [(5001,yX v l)] (.bool (decide (nth l j<nth l i))) rfl (congrArg (fun b=>[(5001,zn.ren (gOf [(5001,5001)]) b)]) h5) ?_;clear h5;refine za ?_;refine FW.cond rfl (fun h2=>?_) (fun h2=>?_)
    ·rw [if_pos (.inr (by simpa using h2))] at hR;subst hR;refine za ?_;exact FW.ret ⟨.inl rfl,_,.tmp (t:=6) rfl rfl,⟨_,rfl⟩,rfl,rfl⟩
    ·rw [if_neg (by simp at h2;simp [h2];omega)] at hR;refine za ?_;refine yG (e:=76) (f:=100) rfl rfl rfl zA zA rfl hS [(5001,5001)] rfl (zF.cons rfl rfl rfl zF.nil) rfl rfl rfl rfl rfl rfl ?_;rintro _ _ ⟨rfl,h5⟩;refine yH.one [(5001,yX v (swp l i j))] (.tup []) rfl (congrArg (fun b=>[(5001,zn.ren (gOf [(5001,5001)]) b)]) h5) ?_;clear h5;refine za ?_;refine ⟨(swp l i j,j),⟨by rw [yU];exact hn,by show j<n;omega,k - 1,by show m<j+(k - 1)+1;omega,by rw [show k - 1+1=k by omega];exact hR⟩,by show n - j<n - i;omega,?_⟩;generalize swp l i j=Z;unfold yX;exact (FLe.cv [⟨5000,some 5000,q,⟨q,.hrow,76,1,[[.own 5001 v 0 n]]⟩⟩,⟨5001,some 5001,v,⟨v,.own,3,1,Z.map zj⟩⟩] zf zd)
   ·unfold yu yX;exact (FLe.cv [⟨5000,some 5000,q,⟨q,.hrow,76,1,[[.own 5001 v 0 n]]⟩⟩,⟨5001,some 5001,v,⟨v,.own,3,1,l.map zj⟩⟩] zf zd)
def ZX (l:List Int) (x:Int):List Int:=upH (l.length+1) (l++[x]) l.length
theorem Vm (l:List Int) (x:Int):(ZX l x).length=l.length+1:=by unfold ZX;rw [zgN];simp
def yy (l:List Int) (n:Nat):List Int:=YK (n+1) (swp l 0 n) 0 n
theorem Vl (l:List Int) (n:Nat):(yy l n).length=l.length:=by unfold yy;rw [zbk,yU]
theorem zcU (q v:Nat) (l:List Int) (x:Int) (hl:l.length≤100000):yI Try.prog 43 [hif q,.iface 3 (.int .i64 x)] [(5000,yu q v l.length),(5001,yX v l)] [] (fun res o=>res=.tup []∧o 5000=yu q (v+1) (l.length+1)∧o 5001=yX (v+1) (ZX l x)):=by
 refine yI.of_body (c:=(xa Try.prog zD zq 12)) ⟨Try.func43,rfl,Try.ntmps43,by kernel_rfl⟩ zp ?_ ?_
 ·rintro res o ⟨rfl,h0,h1⟩;exact xM rfl h0 h1
 change FW _ _ _ ⟨[(0,.wrap (.ifc 75) [.ptr 5000 q 0 0]),(1,.iface 3 (.int .i64 x))],[(5000,yu q v l.length),(5001,yX v l)]⟩;refine za ?_;refine Yy (e:=76) (f:=99) rfl zA zA (zc2 q v l x zb) [(5000,5000),(5001,5001)] rfl (zF.cons rfl rfl rfl (zF.cons rfl rfl rfl zF.nil)) rfl rfl rfl rfl rfl rfl ?_;rintro _ ob' ⟨rfl,h1,h2⟩;refine yH.one [(5000,yu q (v+1) (l++[x]).length),(5001,yX (v+1) (l++[x]))] (.tup []) rfl (by show [(5000,zn.ren _ (look {} ob' 5000)),(5001,zn.ren _ (look {} ob' 5001))]=_;rw [h1,h2];rfl) ?_;clear h1 h2 ob';have hzl:(l++[x]).length=l.length+1:=by simp
 have hp:ZX l x=upH (l.length+1) (l++[x]) l.length:=rfl;obtain ⟨z,hz⟩:∃ z,l++[x]=z:=⟨_,rfl⟩
 rw [hz] at hzl hp;rw [hz,hzl,hp];have hz1:((z.length:Nat):Int) - 1=l.length:=by omega
 refine za ?_;have hL:=XP q (v+1) z;rw [hzl] at hL;refine Yy (e:=76) (f:=44) rfl zA zA hL [(5000,5000),(5001,5001)] rfl (zF.cons rfl rfl rfl (zF.cons rfl rfl rfl zF.nil)) rfl rfl rfl rfl rfl rfl ?_;rintro _ ob' ⟨rfl,h1,h2⟩;refine yH.one [(5000,yu q (v+1) (l.length+1)),(5001,yX (v+1) z)] (.int .i64 (l.length+1:Nat)) rfl (by show [(5000,zn.ren _ (look {} ob' 5000)),(5001,zn.ren _ (look {} ob' 5001))]=_;rw [h1,h2];rfl) ?_;clear h1 h2 ob';refine za ?_;rw [show ((l.length+1:Nat):Int) - 1=l.length by omega];have hU:=zhJ q (v+1) z l.length zb zb;rw [hzl] at hU;refine xe hU [(5000,5000),(5001,5001)] rfl (zF.cons rfl rfl rfl (zF.cons rfl rfl rfl zF.nil)) rfl rfl rfl rfl rfl rfl ?_;rintro _ ob' ⟨rfl,h1,h2⟩;refine yH.one [(5000,yu q (v+1) (l.length+1)),(5001,yX (v+1) (upH (l.length+1) z l.length))] (.tup []) rfl (by show [(5000,zn.ren _ (look {} ob' 5000)),(5001,zn.ren _ (look {} ob' 5001))]=_;rw [h1,h2];rfl) ?_;clear h1 h2 ob';refine za ?_;exact ⟨.inr rfl,_,.plain .nil rfl rfl,rfl,rfl,rfl⟩
theorem zeu (q v:Nat) (l:List Int) (n:Nat) (hn:l.length=n+1) (hl:n≤100000):yI Try.prog 45 [hif q] [(5000,yu q v l.length),(5001,yX v l)] [] (fun res o=>res=.iface 3 (.int .i64 (nth (yy l n) n))∧o 5000=yu q (v+1) n∧o 5001=yX (v+1) ((yy l n).take n)):=by
 refine yI.of_body (c:=(xa Try.prog zD zq 15)) ⟨Try.func45,rfl,Try.ntmps45,by kernel_rfl⟩ zp ?_ ?_
 ·rintro res o ⟨rfl,h0,h1⟩;exact xM rfl h0 h1
 rw [hn];change FW _ _ _ ⟨[(0,.wrap (.ifc 75) [.ptr 5000 q 0 0])],[(5000,yu q v (n+1)),(5001,yX v l)]⟩;have hL:=XP q v l;have hS:=xR v l 0 n zb zb;have hD:=zeh q v (swp l 0 n) 0 n (by rw [yU];omega) (by rw [yU];omega) (by rw [yU];omega);have hsl:(swp l 0 n).length=n+1:=by rw [yU];exact hn
 have hdl:(yy l n).length=n+1:=by rw [Vl];exact hn
 have hsp:yy l n=(yy l n).take n++[nth (yy l n) n]:=by
  conv=>lhs;rw [← List.take_append_drop n (yy l n)]
  congr 1;rw [List.drop_eq_getElem_cons zb,nth_eq zb,List.drop_of_length_le zb]
 have htl:((yy l n).take n).length=n:=by rw [List.length_take];omega
 have hP:=zeK q v ((yy l n).take n) (nth (yy l n) n) (by rw [htl];omega);rw [← hsp,htl,hdl] at hP;rw [hsl] at hD;rw [show YK (n+1) (swp l 0 n) 0 n=yy l n from rfl] at hD;rw [hn] at hL hS;refine za ?_;refine Yy (e:=76) (f:=44) rfl zA zA hL [(5000,5000),(5001,5001)] rfl (zF.cons rfl rfl rfl (zF.cons rfl rfl rfl zF.nil)) rfl rfl rfl rfl rfl rfl ?_;rintro _ ob' ⟨rfl,h1,h2⟩;refine yH.one [(5000,yu q v (n+1)),(5001,yX v l)] (.int .i64 (n+1:Nat)) rfl (by show [(5000,zn.ren _ (look {} ob' 5000)),(5001,zn.ren _ (look {} ob' 5001))]=_;rw [h1,h2];rfl) ?_;clear h1 h2 ob';have hn1:((n+1:Nat):Int) - 1=n:=by omega
 refine za ?_;rw [hn1];refine yG (e:=76) (f:=100) rfl rfl rfl zA zA rfl hS [(5001,5001)] rfl (zF.cons rfl rfl rfl zF.nil) rfl rfl rfl rfl rfl rfl ?_;rintro _ _ ⟨rfl,h5⟩;refine yH.one [(5001,yX v (swp l 0 n))] (.tup []) rfl (congrArg (fun b=>[(5001,zn.ren (gOf [(5001,5001)]) b)]) h5) ?_;clear h5;refine za ?_;refine xe hD [(5000,5000),(5001,5001)] rfl (zF.cons rfl rfl rfl (zF.cons rfl rfl rfl zF.nil)) rfl rfl rfl rfl rfl rfl ?_;rintro _ ob' ⟨⟨b,rfl⟩,h1,h2⟩;refine yH.one [(5000,yu q v (n+1)),(5001,yX v (yy l n))] (.bool b) rfl (by show [(5000,zn.ren _ (look {} ob' 5000)),(5001,zn.ren _ (look {} ob' 5001))]=_;rw [h1,h2];rfl) ?_;clear h1 h2 ob';refine za ?_;refine Yy (e:=76) (f:=98) rfl zA zA hP [(5000,5000),(5001,5001)] rfl (zF.cons rfl rfl rfl (zF.cons rfl rfl rfl zF.nil)) rfl rfl rfl rfl rfl rfl ?_;rintro _ ob' ⟨rfl,h1,h2⟩;refine yH.one [(5000,yu q (v+1) n),(5001,yX (v+1) ((yy l n).take n))] (.iface 3 (.int .i64 (nth (yy l n) n))) rfl (by show [(5000,zn.ren _ (look {} ob' 5000)),(5001,zn.ren _ (look {} ob' 5001))]=_;rw [h1,h2];rfl) ?_;clear h1 h2 ob';refine za ?_;exact FW.ret ⟨.inl rfl,_,.tmp (t:=2) rfl rfl,rfl,rfl,rfl⟩
end
theorem zaS {l:List Int} {i j:Nat} (hi:i<l.length) (hj:j<l.length):(swp l i j).Perm l:=by
 unfold swp;rw [nth_eq hi,nth_eq hj];exact List.set_set_perm hi hj
theorem zcZ {l:List Int} {i j:Nat} (hi:i<l.length) (hj:j<l.length) (q:Nat):nth (swp l i j) q=if q=j then nth l i else if q=i then nth l j else nth l q:=by
 unfold swp;by_cases h1:q=j
 ·subst h1;rw [if_pos rfl,zR (by simpa using hj)]
 ·rw [if_neg h1,zH (fun e=>h1 e.symm)];by_cases h2:q=i
  ·subst h2;rw [if_pos rfl,zR hi]
  ·rw [if_neg h2,zH (fun e=>h2 e.symm)]
def za0 (l:List Int) (m:Nat):Prop:=∀ c,0<c→c<m→nth l ((c - 1) / 2)≤nth l c
structure UpI (l:List Int) (m j:Nat):Prop where
 a:∀ c,0<c→c<m→c≠j→nth l ((c - 1) / 2)≤nth l c
 b:∀ c,0<c→c<m→(c - 1) / 2=j→0<j→nth l ((j - 1) / 2)≤nth l c
theorem zd2:∀ (k:Nat) (l:List Int) (j m:Nat),j<k→j<m→m≤l.length→UpI l m j→za0 (upH k l j) m∧(upH k l j).Perm l
 | 0, _, _, _, hk, _, _, _ => by omega
 | k + 1,l,j,m,hk,hj,hm,h=>by
  unfold upH;split
  ·rename_i hc;refine ⟨fun c h0 hcm=>?_,.refl _⟩;by_cases e:c=j
   ·subst e;rcases hc with hc|hc
    ·omega
    ·omega
   ·exact h.a c h0 hcm e
  ·rename_i hc;have h0:0<j:=by omega
   have hlt:nth l j<nth l ((j - 1) / 2):=by
    by_cases q:nth l j<nth l ((j - 1) / 2)
    ·exact q
    ·exact absurd (.inr q) hc
   obtain ⟨p,hp⟩:∃ p,(j - 1) / 2=p:=⟨_,rfl⟩
   rw [hp] at hlt ⊢;have hpj:p<j:=by omega
   have hs:=zcZ (l:=l) (i:=p) (j:=j) zb zb;have hr:=zd2 k (swp l p j) p m zb zb (by rw [yU];exact hm) ⟨fun c c0 cm ce=>?_,fun c c0 cm ce p0=>?_⟩
   ·exact ⟨hr.1,hr.2.trans (zaS zb zb)⟩
   ·rw [hs,hs];by_cases e1:c=j
    ·subst e1;rw [if_neg zb,if_pos zb,if_pos rfl];omega
    ·rw [if_neg e1,if_neg ce];have ha:=h.a c c0 cm e1;by_cases e2:(c - 1) / 2=j
     ·rw [if_pos e2];have:=h.b c c0 cm e2 h0;rw [hp] at this;exact this
     ·rw [if_neg e2];by_cases e3:(c - 1) / 2=p
      ·rw [if_pos e3];rw [e3] at ha;omega
      ·rw [if_neg e3];exact ha
   ·rw [hs,hs,if_neg zb,if_neg zb];have h1:=h.a p p0 zb zb;by_cases e1:c=j
    ·rw [if_pos e1];exact h1
    ·rw [if_neg e1,if_neg zb];have h2:=h.a c c0 cm e1;rw [ce] at h2;omega
structure DnI (l:List Int) (m i:Nat):Prop where
 a:∀ c,0<c→c<m→(c - 1) / 2≠i→nth l ((c - 1) / 2)≤nth l c
 b:∀ c,0<c→c<m→(c - 1) / 2=i→0<i→nth l ((i - 1) / 2)≤nth l c
theorem zeg {l:List Int} {i m:Nat} (h:2 * i+1<m):(WQ l i m - 1) / 2=i∧i<WQ l i m∧WQ l i m<m∧∀ c,0<c→c<m→(c - 1) / 2=i→nth l (WQ l i m)≤nth l c:=by
 unfold WQ;split
 ·rename_i hc;refine ⟨by omega,by omega,by omega,fun c c0 cm ce=>?_⟩;rcases (by omega:c=2 * i+1∨c=2 * i+1+1) with rfl|rfl
  ·exact Int.le_of_lt hc.2
  ·exact Int.le_refl _
 ·rename_i hc;refine ⟨by omega,by omega,by omega,fun c c0 cm ce=>?_⟩;rcases (by omega:c=2 * i+1∨c=2 * i+1+1) with rfl|rfl
  ·exact Int.le_refl _
  ·have:=fun q=>hc ⟨cm,q⟩;omega
theorem UC:∀ (k:Nat) (l:List Int) (i m:Nat),m<i+k→m≤l.length→i<l.length→DnI l m i→za0 (YK k l i m) m∧(YK k l i m).Perm l∧∀ q,m≤q→q≠i→nth (YK k l i m) q=nth l q
 | 0, l, i, m, hk, hm, hi, h => ⟨fun c c0 cm => h.a c c0 cm zb, .refl _, fun _ _ _ => rfl⟩
 | k + 1,l,i,m,hk,hm,hi,h=>by
  unfold YK;by_cases hma:m≤2 * i+1
  ·rw [if_pos (.inl hma)];exact ⟨fun c c0 cm=>h.a c c0 cm zb,.refl _,fun _ _ _=>rfl⟩
  ·obtain ⟨j1,j2,j3,j4⟩:=zeg (l:=l) (i:=i) (m:=m) zb;generalize WQ l i m=j at j1 j2 j3 j4;by_cases hlt:nth l j<nth l i
   ·rw [if_neg (by rintro (q|q);omega;exact q hlt)];have hs:=zcZ (l:=l) (i:=i) (j:=j) zb zb;have hr:=UC k (swp l i j) j m zb (by rw [yU];exact hm) (by rw [yU];omega) ⟨fun c c0 cm ce=>?_,fun c c0 cm ce _=>?_⟩
    ·refine ⟨hr.1,hr.2.1.trans (zaS zb zb),fun q q1 q2=>?_⟩;rw [hr.2.2 q q1 zb,hs,if_neg zb,if_neg q2]
    ·rw [hs,hs];rw [if_neg ce];by_cases e1:(c - 1) / 2=i
     ·rw [if_pos e1];have h4:=j4 c c0 cm e1;by_cases e2:c=j
      ·rw [if_pos e2];omega
      ·rw [if_neg e2,if_neg zb];exact h4
     ·rw [if_neg e1];have ha:=h.a c c0 cm e1;by_cases e2:c=j
      ·subst e2;exact absurd j1 e1
      ·rw [if_neg e2];by_cases e3:c=i
       ·subst e3;rw [if_pos rfl];exact h.b j zb j3 j1 c0
       ·rw [if_neg e3];exact ha
    ·rw [hs,hs,j1,if_neg zb,if_pos rfl,if_neg zb,if_neg zb];have ha:=h.a c c0 cm zb;rw [ce] at ha;exact ha
   ·rw [if_pos (.inr hlt)];refine ⟨fun c c0 cm=>?_,.refl _,fun _ _ _=>rfl⟩;by_cases e:(c - 1) / 2=i
    ·have:=j4 c c0 cm e;rw [e];omega
    ·exact h.a c c0 cm e
theorem za0.least {l:List Int} {m:Nat} (h:za0 l m):∀ c,c<m→nth l 0≤nth l c:=by
 intro c
 induction c using Nat.strongRecOn with
 | ind c ih=>
  intro hc;rcases Nat.eq_zero_or_pos c with rfl|h0
  ·exact Int.le_refl _
  ·have h1:=h c h0 hc;have h2:=ih ((c - 1) / 2) zb zb;omega
def zd6 (l:List Int):Prop:=za0 l l.length
theorem zd6.nil:zd6 []:=fun c _ h=>by simp at h
theorem zd6.push {l:List Int} (h:zd6 l) (x:Int):zd6 (ZX l x)∧(ZX l x).Perm (x::l):=by
 have hr:=zd2 (l.length+1) (l++[x]) l.length (l.length+1) (Nat.lt_succ_self _) (Nat.lt_succ_self _) zc ⟨fun c c0 cm ce=>?_,fun c c0 cm ce _=>by omega⟩
 ·refine ⟨?_,hr.2.trans (List.perm_append_comm (l₁:=l) (l₂:=[x]))⟩;unfold zd6;rw [Vm];exact hr.1
 ·rw [yz zb,yz zb];exact h c c0 zb
theorem zd6.pop {l:List Int} (h:zd6 l) {n:Nat} (hn:l.length=n+1):nth (yy l n) n=nth l 0∧(∀ x∈l,nth l 0≤x)∧zd6 ((yy l n).take n)∧l.Perm (nth l 0::(yy l n).take n):=by
 have hs:=zcZ (l:=l) (i:=0) (j:=n) zb zb;have hr:=UC (n+1) (swp l 0 n) 0 n zb (by rw [yU];omega) (by rw [yU];omega) ⟨fun c c0 cm ce=>?_,fun c c0 cm ce q=>by omega⟩
 ·have hdl:=Vl l n;have e1:nth (yy l n) n=nth l 0:=by
   rcases Nat.eq_zero_or_pos n with rfl|h0
   ·have:yy l 0=swp l 0 0:=by
     unfold yy YK;rw [if_pos (.inl zb)]
    rw [this,hs,if_pos rfl]
   ·have:=hr.2.2 n (Nat.le_refl _) zb;show nth (YK (n+1) (swp l 0 n) 0 n) n=_;rw [this,hs,if_pos rfl]
  have hsp:yy l n=(yy l n).take n++[nth (yy l n) n]:=by
   conv=>lhs;rw [← List.take_append_drop n (yy l n)]
   congr 1;rw [List.drop_eq_getElem_cons zb,nth_eq zb,List.drop_of_length_le zb]
  have htl:((yy l n).take n).length=n:=by rw [List.length_take];omega
  refine ⟨e1,fun x hx=>?_,?_,?_⟩
  ·obtain ⟨i,hi,rfl⟩:=List.getElem_of_mem hx;rw [← nth_eq hi];exact h.least i hi
  ·intro c c0 cm;rw [htl] at cm;have h1:=hr.1 c c0 cm;have h2:∀ q,q<n→nth ((yy l n).take n) q=nth (yy l n) q:=fun q hq=>by
    rw [nth_eq zb,nth_eq zb,List.getElem_take]
   rw [h2 c cm,h2 _ zb];exact h1
  ·have h3:l.Perm (yy l n):=(hr.2.1.trans (zaS zb zb)).symm;rw [hsp,e1] at h3;exact h3.trans (List.perm_append_comm (l₁:=(yy l n).take n) (l₂:=[nth l 0]))
 ·rw [hs,hs,if_neg zb,if_neg ce,if_neg zb,if_neg zb];exact h c c0 zb
def UJ (m:List Int) (w:Int):List Int:=m.set w.toNat (nth m w.toNat+1)
def Uu (n:Nat) (E:List (Nat×Nat)):List Int:=(zP n E).foldl (fun m r=>r.foldl UJ m) (List.replicate n 0)
def decr (s:List Int×List Int) (w:Int):List Int×List Int:=
 (s.1.set w.toNat (nth s.1 w.toNat - 1),if nth s.1 w.toNat - 1=0 then ZX s.2 w else s.2)
def xd (m:List Int) (k:Nat):List Int:=(List.range k).foldl (fun h v=>if nth m v=0 then ZX h v else h) []
structure zaX where
 m:List Int
 h:List Int
 out:List Int
def yn (n:Nat) (E:List (Nat×Nat)):zaX:=⟨Uu n E,xd (Uu n E) n,[]⟩
def yF (E:List (Nat×Nat)) (s:zaX):zaX:=
 let v:=nth (yy s.h (s.h.length - 1)) (s.h.length - 1)
 let q:=(zy E v.toNat).foldl decr (s.m,(yy s.h (s.h.length - 1)).take (s.h.length - 1))
 ⟨q.1,q.2,s.out++[v]⟩
def zZ (E:List (Nat×Nat)):Nat→zaX→zaX
 | 0, s => s
 | k+1, s => if s.h=[] then s else zZ E k (yF E s)
def yq (n:Nat) (E:List (Nat×Nat)):List Int:=(zZ E (n+1) (yn n E)).out
theorem zdF (m:List Int) (w:Int):(UJ m w).length=m.length:=by simp [UJ]
theorem Vn:∀ (r m:List Int),(r.foldl UJ m).length=m.length
 | [], _ => rfl
 | w :: r, m => by rw [List.foldl_cons, Vn, zdF]
theorem Vo {n:Nat}:∀ {r m:List Int},r.Nodup→(∀ w∈r,0≤w∧w<n)→m.length=n→∀ w:Nat,w<n→nth (r.foldl UJ m) w=nth m w+if (w:Int)∈r then 1 else 0
 | [], m, _, _, _, w, _ => by simp
 | x::r,m,hd,hr,hm,w,hw=>by
  rw [List.foldl_cons,Vo (List.nodup_cons.1 hd).2 (fun q hq=>hr q (by simp [hq])) (by rw [zdF];exact hm) w hw];have hx:=hr x zc;unfold UJ;by_cases e:x.toNat=w
  ·subst e;have hxe:((x.toNat:Nat):Int)=x:=by omega
   rw [zR zb,hxe,if_neg (List.nodup_cons.1 hd).1,if_pos zc];omega
  ·rw [zH e];have:¬ (w:Int)=x:=by omega
   simp [this]
theorem VS {n:Nat}:∀ {rows:List (List Int)} {m:List Int},(∀ r∈rows,r.Nodup∧∀ w∈r,0≤w∧w<n)→m.length=n→(rows.foldl (fun m r=>r.foldl UJ m) m).length=n∧∀ w:Nat,w<n→nth (rows.foldl (fun m r=>r.foldl UJ m) m) w=nth m w+(rows.countP fun r=>decide ((w:Int)∈r):Nat)
 | [], m, _, hm => ⟨hm, fun w _ => by simp⟩
 | r :: rows, m, hr, hm => by
  obtain ⟨h1,h2⟩:=hr r zc;obtain ⟨k1,k2⟩:=VS (rows:=rows) (m:=r.foldl UJ m) (fun q hq=>hr q (by simp [hq])) (by rw [Vn];exact hm);refine ⟨k1,fun w hw=>?_⟩;rw [List.foldl_cons,k2 w hw,Vo h1 h2 hm w hw,List.countP_cons];by_cases e:(w:Int)∈r
  ·simp [e];omega
  ·simp [e]
theorem xT (E:List (Nat×Nat)) (v:Nat):(zy E v).Nodup:=(zck E v).imp fun h=>by omega
def zcq (n:Nat) (E:List (Nat×Nat)) (out:List Int) (w:Nat):Nat:=(List.range n).countP fun u:Nat=>decide ((u:Int)∉out) && decide ((w:Int)∈zy E u)
theorem UP {n:Nat} {E:List (Nat×Nat)} (h:InN n E):(Uu n E).length=n∧∀ w:Nat,w<n→nth (Uu n E) w=zcq n E [] w:=by
 have hz:(List.replicate n (0:Int)).length=n:=by simp
 obtain ⟨k1,k2⟩:=VS (n:=n) (rows:=zP n E) (m:=List.replicate n 0) (fun r hr=>by
  obtain ⟨u,_,rfl⟩:=List.mem_map.1 hr;exact ⟨xT E u,fun w hw=>yr h hw⟩) hz
 refine ⟨k1,fun w hw=>?_⟩;unfold Uu;rw [k2 w hw,nth_eq (by simpa using hw)];unfold zcq zP;rw [List.countP_map];simp [Function.comp_def]
structure TI (n:Nat) (E:List (Nat×Nat)) (s:zaX):Prop where
 len:s.m.length=n
 outN:s.out.Nodup
 outR:∀ v∈s.out,0≤v∧v<n
 cnt:∀ w:Nat,w<n→nth s.m w=zcq n E s.out w
 hp:zd6 s.h
 hN:s.h.Nodup
 hM:∀ x,x∈s.h↔(0≤x∧x<n)∧x∉s.out∧nth s.m x.toNat=0
 oz:∀ v∈s.out,nth s.m v.toNat=0
theorem ZE (m:List Int):∀ k,zd6 (xd m k)∧(xd m k).Nodup∧(∀ x,x∈xd m k↔(0≤x∧x<k)∧nth m x.toNat=0)
 | 0 => ⟨zd6.nil, List.nodup_nil, fun x => by
  constructor
  ·intro h;cases h
  ·rintro ⟨⟨h1,h2⟩,_⟩;omega⟩
 | k + 1=>by
  obtain ⟨h1,h2,h3⟩:=ZE m k;have e:xd m (k+1)=if nth m k=0 then ZX (xd m k) k else xd m k:=by
   unfold xd;rw [List.range_succ,List.foldl_append];rfl
  rw [e];by_cases hz:nth m k=0
  ·rw [if_pos hz];obtain ⟨p1,p2⟩:=h1.push (k:Int);refine ⟨p1,p2.nodup_iff.2 (List.nodup_cons.2 ⟨fun hm=>?_,h2⟩),fun x=>?_⟩
   ·have:=(h3 _).1 hm;omega
   ·rw [p2.mem_iff,List.mem_cons,h3];constructor
    ·rintro (rfl|⟨q1,q2⟩)
     ·exact ⟨by omega,by simpa using hz⟩
     ·exact ⟨by omega,q2⟩
    ·rintro ⟨q1,q2⟩;by_cases hx:x=k
     ·exact .inl hx
     ·exact .inr ⟨by omega,q2⟩
  ·rw [if_neg hz];refine ⟨h1,h2,fun x=>?_⟩;rw [h3];constructor
   ·rintro ⟨q1,q2⟩;exact ⟨by omega,q2⟩
   ·rintro ⟨q1,q2⟩;refine ⟨⟨q1.1,?_⟩,q2⟩;by_cases hx:x=k
    ·subst hx;rw [Int.toNat_natCast] at q2;exact absurd q2 hz
    ·omega
theorem TI.start {n:Nat} {E:List (Nat×Nat)} (h:InN n E):TI n E (yn n E):=by
 obtain ⟨k1,k2⟩:=UP h;obtain ⟨r1,r2,r3⟩:=ZE (Uu n E) n;refine ⟨k1,List.nodup_nil,(fun v hv=>by cases hv),k2,r1,r2,(fun x=>?_),(fun v hv=>by cases hv)⟩;show x∈xd (Uu n E) n↔_;rw [r3];constructor
 ·rintro ⟨q1,q2⟩;exact ⟨q1,List.not_mem_nil,q2⟩
 ·rintro ⟨q1,_,q2⟩;exact ⟨q1,q2⟩
structure DI (n:Nat) (E:List (Nat×Nat)) (out rest:List Int) (s:List Int×List Int):Prop where
 len:s.1.length=n
 cnt:∀ w:Nat,w<n→nth s.1 w=zcq n E out w+if (w:Int)∈rest then 1 else 0
 hp:zd6 s.2
 hN:s.2.Nodup
 hM:∀ x,x∈s.2↔(0≤x∧x<n)∧x∉out∧nth s.1 x.toNat=0
 oz:∀ v∈out,nth s.1 v.toNat=0
theorem DI.decr {n:Nat} {E:List (Nat×Nat)} {out rest:List Int} {w:Int} {s:List Int×List Int} (h:DI n E out (w::rest) s) (hd:(w::rest).Nodup) (hw:0≤w∧w<n) (hoR:∀ v∈out,(0:Int)≤v∧v<n):DI n E out rest (decr s w):=by
 obtain ⟨w,rfl⟩:∃ w' : Nat,w=w':=⟨w.toNat,by omega⟩
 have hwn:w<n:=by omega
 have hc:=h.cnt w hwn;rw [if_pos zc] at hc;have hout:(w:Int)∉out:=fun hm=>by have:=h.oz _ hm;rw [Int.toNat_natCast] at this;omega
 have hnh:(w:Int)∉s.2:=fun hm=>by have:=((h.hM _).1 hm).2.2;rw [Int.toNat_natCast] at this;omega
 have hsame:nth (s.1.set w (nth s.1 w - 1)) w=nth s.1 w - 1:=zR (by rw [h.len];exact hwn);have hnw:=(List.nodup_cons.1 hd).1;unfold Proofs.Ytlnehfplfoikaaa.decr;rw [Int.toNat_natCast];have hne:∀ x:Int,0≤x→x≠w→nth (s.1.set w (nth s.1 w - 1)) x.toNat=nth s.1 x.toNat:=fun x hx0 hx=>zH zb;have hcnt:∀ q:Nat,q<n→nth (s.1.set w (nth s.1 w - 1)) q=zcq n E out q+if (q:Int)∈rest then 1 else 0:=fun q hq=>by
  by_cases e:q=w
  ·subst e;rw [hsame,if_neg hnw];omega
  ·rw [zH (fun e2=>e e2.symm),h.cnt q hq];have:¬ (q:Int)=w:=by omega
   simp [this]
 have hoz:∀ v∈out,nth (s.1.set w (nth s.1 w - 1)) v.toNat=0:=fun v hv=>by
  rw [hne v (hoR v hv).1 (fun e=>hout (e▸hv))];exact h.oz v hv
 by_cases hz:nth s.1 w - 1=0
 ·rw [if_pos hz];obtain ⟨p1,p2⟩:=h.hp.push (w:Int);refine ⟨by simpa using h.len,hcnt,p1,p2.nodup_iff.2 (List.nodup_cons.2 ⟨hnh,h.hN⟩),fun x=>?_,hoz⟩;dsimp only;rw [p2.mem_iff,List.mem_cons,h.hM];constructor
  ·rintro (rfl|⟨q1,q2,q3⟩)
   ·exact ⟨hw,hout,by rw [Int.toNat_natCast,hsame];exact hz⟩
   ·refine ⟨q1,q2,?_⟩;by_cases e:x=w
    ·subst e;rw [Int.toNat_natCast,hsame];exact hz
    ·rw [hne x q1.1 e];exact q3
  ·rintro ⟨q1,q2,q3⟩;by_cases e:x=w
   ·exact .inl e
   ·rw [hne x q1.1 e] at q3;exact .inr ⟨q1,q2,q3⟩
 ·rw [if_neg hz];refine ⟨by simpa using h.len,hcnt,h.hp,h.hN,fun x=>?_,hoz⟩;dsimp only;rw [h.hM];constructor
  ·rintro ⟨q1,q2,q3⟩;refine ⟨q1,q2,?_⟩;by_cases e:x=w
   ·subst e;rw [Int.toNat_natCast] at q3;omega
   ·rw [hne x q1.1 e];exact q3
  ·rintro ⟨q1,q2,q3⟩;refine ⟨q1,q2,?_⟩;by_cases e:x=w
   ·subst e;rw [Int.toNat_natCast,hsame] at q3;omega
   ·rw [hne x q1.1 e] at q3;exact q3
theorem DI.fold {n:Nat} {E:List (Nat×Nat)} {out:List Int} (hoR:∀ v∈out,(0:Int)≤v∧v<n):∀ {r2 r1:List Int} {s:List Int×List Int},DI n E out (r1++r2) s→(r1++r2).Nodup→(∀ w∈r1++r2,0≤w∧w<n)→DI n E out r2 (r1.foldl Proofs.Ytlnehfplfoikaaa.decr s)
 | r2, [], s, h, _, _ => h
 | r2, w :: r1, s, h, hd, hr => DI.fold hoR (r1 := r1) (h.decr hd (hr w zc) hoR) (List.nodup_cons.1 hd).2 (fun q hq => hr q (by simp at hq ⊢; exact .inr hq))
theorem zfF {n:Nat} {E:List (Nat×Nat)} {out:List Int} {v w:Nat} (hv:v<n) (ho:(v:Int)∉out):zcq n E out w=zcq n E (out++[(v:Int)]) w+if (w:Int)∈zy E v then 1 else 0:=by
 unfold zcq;have key:∀ l:List Nat,l.Nodup→(l.countP fun u:Nat=>decide ((u:Int)∉out) && decide ((w:Int)∈zy E u))=(l.countP fun u:Nat=>decide ((u:Int)∉out++[(v:Int)]) && decide ((w:Int)∈zy E u))+if v∈l∧(w:Int)∈zy E v then 1 else 0:=by
  intro l
  induction l with
  | nil => intro _; simp
  | cons u l ih=>
   intro hd;obtain ⟨h1,h2⟩:=List.nodup_cons.1 hd;rw [List.countP_cons,List.countP_cons,ih h2];by_cases e:u=v
   ·subst e;by_cases hm:(w:Int)∈zy E u
    ·simp [hm,ho,h1]
    ·simp [hm]
   ·have e1:¬ (u:Int)=v:=by omega
    have e2:¬ v=u:=fun q=>e q.symm;simp [e1,e2];omega
 have:=key (List.range n) List.nodup_range;simpa [hv] using this
theorem TI.first {n:Nat} {E:List (Nat×Nat)} {s:zaX} (h:TI n E s) {k:Nat} (hk:s.h.length=k+1):∃ v:Nat,nth (yy s.h k) k=(v:Int)∧v<n∧(v:Int)∉s.out∧nth s.m v=0∧(∀ x∈s.h,(v:Int)≤x)∧DI n E (s.out++[(v:Int)]) (zy E v) (s.m,(yy s.h k).take k)∧(s.out++[(v:Int)]).Nodup∧∀ x∈s.out++[(v:Int)],(0:Int)≤x∧x<n:=by
 obtain ⟨p1,p2,p3,p4⟩:=h.hp.pop hk;have hm0:nth s.h 0∈s.h:=zL zb;obtain ⟨q1,q2,q3⟩:=(h.hM _).1 hm0;obtain ⟨v,hv⟩:∃ v:Nat,nth s.h 0=v:=⟨(nth s.h 0).toNat,by omega⟩
 rw [hv] at p1 p2 p4 q1 q2 q3;rw [Int.toNat_natCast] at q3;have hvn:v<n:=by omega
 have hnd:=p4.nodup_iff.1 h.hN;obtain ⟨d1,d2⟩:=List.nodup_cons.1 hnd;have hoR:∀ x∈s.out++[(v:Int)],(0:Int)≤x∧x<n:=fun x hx=>by
  rcases List.mem_append.1 hx with hx|hx
  ·exact h.outR x hx
  ·rw [List.mem_singleton.1 hx];omega
 refine ⟨v,p1,hvn,q2,q3,p2,⟨h.len,fun w hw=>?_,p3,d2,fun x=>?_,fun x hx=>?_⟩,List.nodup_append.2 ⟨h.outN,by simp,fun a ha b hb=>?_⟩,hoR⟩
 ·rw [h.cnt w hw,zfF hvn q2];split <;> simp
 ·dsimp only;constructor
  ·intro hx;obtain ⟨a,b,c⟩:=(h.hM x).1 (p4.mem_iff.2 (List.mem_cons_of_mem _ hx));refine ⟨a,fun hm=>?_,c⟩;rcases List.mem_append.1 hm with hm|hm
   ·exact b hm
   ·rw [List.mem_singleton.1 hm] at hx;exact d1 hx
  ·rintro ⟨a,b,c⟩;have:=p4.mem_iff.1 ((h.hM x).2 ⟨a,fun hm=>b (List.mem_append_left _ hm),c⟩);rcases List.mem_cons.1 this with e|e
   ·exact absurd (by rw [e];simp) b
   ·exact e
 ·dsimp only;rcases List.mem_append.1 hx with hx|hx
  ·exact h.oz x hx
  ·rw [List.mem_singleton.1 hx,Int.toNat_natCast];exact q3
 ·rw [List.mem_singleton.1 hb];intro e;subst e;exact q2 ha
theorem TI.last {n:Nat} {E:List (Nat×Nat)} {out:List Int} {q:List Int×List Int} (h:DI n E out [] q) (hN:out.Nodup) (hR:∀ x∈out,(0:Int)≤x∧x<n):TI n E ⟨q.1,q.2,out⟩ where
 len:=h.len
 outN:=hN
 outR:=hR
 cnt w hw:=by have:=h.cnt w hw;simpa using this
 hp:=h.hp
 hN:=h.hN
 hM:=h.hM
 oz:=h.oz
theorem TI.step {n:Nat} {E:List (Nat×Nat)} {s:zaX} (hE:InN n E) (h:TI n E s) (h0:s.h≠[]):TI n E (yF E s):=by
 obtain ⟨k,hk⟩:∃ k,s.h.length=k+1:=⟨s.h.length - 1,by have:=List.length_pos_iff.2 h0;omega⟩
 obtain ⟨v,e,hv,_,_,_,hD,hN,hR⟩:=h.first hk;unfold yF;rw [show s.h.length - 1=k by omega,e];dsimp only;rw [Int.toNat_natCast];have hD':=DI.fold (r1:=zy E v) (r2:=[]) hR (by rw [List.append_nil];exact hD) (by rw [List.append_nil];exact xT E v) (by rw [List.append_nil];exact fun w hw=>yr hE hw);exact TI.last hD' hN hR
theorem xr:∀ {n:Nat} {l:List Int},l.Nodup→(∀ x∈l,(0:Int)≤x∧x<n)→l.length≤n
 | 0, l, _, hR => by
  cases l with
  | nil => exact Nat.le_refl _
  | cons x l => have := hR x zc; omega
 | n+1,l,hN,hR=>by
  have h1:=xr (n:=n) (hN.erase (n:Int)) fun x hx=>by
   obtain ⟨q1,q2⟩:=hN.mem_erase_iff.1 hx;have:=hR x q2;omega
  by_cases hm:(n:Int)∈l
  ·rw [List.length_erase_of_mem hm] at h1;omega
  ·rw [List.erase_of_not_mem hm] at h1;omega
theorem TI.le {n:Nat} {E:List (Nat×Nat)} {s:zaX} (h:TI n E s):s.out.length≤n:=xr h.outN h.outR
theorem TI.hle {n:Nat} {E:List (Nat×Nat)} {s:zaX} (h:TI n E s):s.h.length≤n:=xr h.hN fun x hx=>((h.hM x).1 hx).1
theorem Yf (E:List (Nat×Nat)) (s:zaX):(yF E s).out.length=s.out.length+1:=by simp [yF]
theorem Xz (E:List (Nat×Nat)):∀ (k:Nat) (s:zaX),s.h=[]→zZ E k s=s
 | 0, _, _ => rfl
 | k+1, s, h => by unfold zZ; rw [if_pos h]
theorem Zc {n:Nat} {E:List (Nat×Nat)} (hE:InN n E):∀ (k:Nat) (s:zaX),TI n E s→n<s.out.length+k→(zZ E k s).h=[]∧TI n E (zZ E k s)
 | 0, s, h, hk => by have := h.le; omega
 | k+1,s,h,hk=>by
  unfold zZ;split
  ·rename_i e;exact ⟨e,h⟩
  ·rename_i e;refine Zc hE k _ (h.step hE e) ?_;rw [Yf];omega
end Go.Proofs.Ytlnehfplfoikaaa
