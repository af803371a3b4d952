/-
  Lemmas, in parts.
-/
import Derived.Test.YtedkppfghdipdaaGreatDoorZFoPlain
import Derived.Test.YtedkppfghdipdaaGreatDoorZB
import Derived.Test.YtedkppfghdipdaaGreatDoorZFmM
import Derived.Test.YtedkppfghdipdaaGreatDoorZC
import Derived.DeepKeys4
import Derived.Maps.Keyed
namespace Go.Proofs.YtedkppfghdipdaaGreatDoor
set_option linter.unusedVariables false
set_option maxHeartbeats 16000000
variable {E T d ft i j off sz ty aa:Nat} {o:Oper} {cs r row:List FV} {f kf vf:FV} {x:Operand} {es aZ : List (List FV)} {l ob:List (Nat×zL)} {t:List (Nat×FV)} {c:Ctx} {ops:Array Oper} {tr:List Rec} {R:List (Int×Int×FV)} {a b:Int} {pos:String} {af:Array Edge} {fs:List (Nat×Nat)} {p:Int→Bool}
section
open Go.RowKit
theorem uV {α:Type} {sz:Nat}:∀ (es:List (List α)),(∀ e∈es,e.length=sz)→∀ (j o:Nat) row f,es[j]? = some row→row[o]? = some f→es.flatten[j * sz+o]? = some f
 | [], _, j, o, row, f, h, _ => by simp at h
 | e :: es, he, 0, o, row, f, h, hf => by
  simp at h;subst h;have:=(yq.1 hf).1;rw [ZS,yr,yz,ZH this];exact hf
 | e :: es, he, j+1, o, row, f, h, hf => by
  have h1:=he e zg;have:=uV es (fun q hq=>he q (by simp [hq])) j o row f (by simpa using h) hf;rw [yz,Yf (by rw [h1,zQ];omega),h1,show (j+1) * sz+o - sz=j * sz+o by rw [zQ];omega];exact this
theorem uW {α:Type} {sz:Nat}:∀ (es:List (List α)),(∀ e∈es,e.length=sz)→∀ (j o:Nat) row f,es[j]? = some row→o<row.length→(es.set j (row.set o f)).flatten=es.flatten.set (j * sz+o) f
 | [], _, j, o, row, f, h, _ => by simp at h
 | e :: es, he, 0, o, row, f, h, ho => by
  simp at h;subst h;rw [List.set_cons_zero,yz,yz,ZS,yr,List.set_append_left _ _ ho]
 | e :: es, he, j+1, o, row, f, h, ho => by
  have h1:=he e zg;have:=uW es (fun q hq=>he q (by simp [hq])) j o row f (by simpa using h) ho;rw [List.set_cons_succ,yz,yz,this,List.set_append_right _ _ (by rw [h1,zQ];omega),h1,show (j+1) * sz+o - sz=j * sz+o by rw [zQ];omega]
section
variable {c:Ctx} {w0 w:World} {J:JJ} {s:ae} {a:Act} {β:Nat→Option Nat} {dst:Option Nat} {ty:TypeId} {pos:String} {after:Array Edge} {g:Option (Nat×Bool)}
theorem Cf (h:FR c.N w0 J s a w β) (hk:(c.ty T).k.aX = some false) (x:Operand) {id o:Nat} (ex:s.ev x=.ptr id aa j o) (bk:(s.ob id).ag=.aw) (aC:(s.ob id).aa=aa) (hj:(s.ob id).es[j]? = some row) (ho:row[o]? = some f) :
  xz c w0 J s a ⟨dst,.load T x,ty,pos,after,g⟩ w f []:=by
 have ah:(s.ob id).ag≠.dead:=by rw [bk];decide
 obtain ⟨_,b,hb,hv⟩:=h.bV ex ah aC;obtain ⟨cur,cap,a9,hn,hm,bj,hl,hr⟩:=h.fj bk hb;have hH:=(h.obj id ah).dU (by rw [bk];rfl) (by rw [bk];rfl);have hw:=hH.wide;have im:=(yq.1 hj).1;have mh:=uV _ hw j o row f hj ho;obtain ⟨p,hp⟩:∃ p,j * (s.ob id).sz+o=p:=⟨_,rfl⟩
 rw [hp] at mh hv;have AO:p<(s.ob id).es.length * (s.ob id).sz:=by have:=(yq.1 mh).1;rwa [xk hw] at this
 have rq:p<cur.size:=by
  have:(s.ob id).es.length * (s.ob id).sz≤cap * (s.ob id).sz:=Ys _ hn;omega
 have hu:(cur.toList.take ((s.ob id).es.length * (s.ob id).sz))[p]? = some cur[p]:=by
  rw [xg,if_pos AO];simp [rq]
 have aW:w.cell? ⟨b,p,none⟩=some cur[p]:=by
  have:=cell_of_row w b p cur (s.ob id).E (0,0) a9;rw [this];simp [rq]
 refine .pure h (v:=cur[p]) ?_ (hr p _ f hu mh) (fun aM bI e=>hH.bP f (zZ mh) aM bI e);have:(loadVar T ⟨b,p,none⟩).run c.P w=.ok cur[p] w:=by simp [loadVar,Xt hk,load,Sem.run,aW]
 simp [execOp,Instr.loadAt,hv,Instr.sureAddr,this]
theorem Cl (h:FR c.N w0 J s a w β) (hk:(c.ty T).k≠.other) (hz:(c.ty T).size=1) (x y:Operand) {id o:Nat} (ex:s.ev x=.ptr id aa j o) (bk:(s.ob id).ag=.aw) (aC:(s.ob id).aa=aa) {kM:List FV} (ey:s.ev y=f)
  (hf:mT s f) (hj:(s.ob id).es[j]? = some kM) (ho:o<kM.length) :
  ∃ w',(execOp a.eval ⟨dst,.store T x y,ty,pos,after,g⟩).run c.P w=.ok .skip w'∧FR c.N w0 J (s.wr [(id,{ s.ob id with es:=(s.ob id).es.set j (kM.set o f) })]) a w' β:=by
 have ah:(s.ob id).ag≠.dead:=by rw [bk];decide
 obtain ⟨_,b,hb,lv⟩:=h.bV ex ah aC;obtain ⟨cur,cap,a9,hn,hm,bj,hl,hr⟩:=h.fj bk hb;have hH:=(h.obj id ah).dU (by rw [bk];rfl) (by rw [bk];rfl);have hw:=hH.wide;obtain ⟨gb,iK⟩:=mT.val h ey hf;have fQ:=h.ev y;have dS:∀ aM bI,(aM,bI)∈f.hands→bI≤(s.ob aM).aa:=fun aM bI e=>h.cr y (by rw [ey];exact e);rw [ey] at fQ;generalize hy:a.eval y=v at gb iK fQ;obtain ⟨p,hp⟩:∃ p,j * (s.ob id).sz+o=p:=⟨_,rfl⟩
 have im:=(yq.1 hj).1;have bo:kM.length=(s.ob id).sz:=hw _ (zZ hj);have iu:p<(s.ob id).es.length * (s.ob id).sz:=by
  have:(j+1) * (s.ob id).sz≤(s.ob id).es.length * (s.ob id).sz:=Ys _ im;rw [zQ,ZR] at this;omega
 have rq:p<cur.size:=by
  have:(s.ob id).es.length * (s.ob id).sz≤cap * (s.ob id).sz:=Ys _ hn;omega
 rw [hp] at lv;have bO:=run_storeCells_at c.P b p (s.ob id).E [v] 0 cur w a9 zF (by simpa using iK);simp only [Zv] at bO;have ni:p<cur.toList.length:=by simp;omega
 obtain ⟨W,hW⟩:∃ W,W=w.setRow b (ai cur.toList p [v]).toArray:=⟨_,rfl⟩
 have ie:W.heap[b]? = some (.cells (cur.toList.set p v).toArray (s.ob id).E (0,0)):=by rw [hW,uD v ni];exact xc w b _ cur _ a9
 have hg:w.grownBy W (some b):=by
  subst hW;exact ⟨rfl,rfl,rfl,by simp [World.setRow],fun k hk bQ=>xG w b k _ (fun e=>bQ (by rw [e]))⟩
 have az:=(h.obj id ah).lt hb;refine ⟨W,?_,?_⟩
 ·have hs:=xe (c:=c) hk w;have j0 : (storeCells ⟨b,p,none⟩ [v]).run c.P w=.ok () W:=by rw [hW];exact bO
  simp [execOp,Instr.storeAt,storeVar,lv,hy,Instr.sureAddr,hs,hz,gb,j0]
 ·have bw:∀ k,(s.wr [(id,{ s.ob id with es:=(s.ob id).es.set j (kM.set o f) })]).ob k=if id=k then { s.ob id with es:=(s.ob id).es.set j (kM.set o f) } else s.ob k:=fun k=>ae.aq s id _ k
  have hI:∀ b',aG J w β s b'→aG J W β (s.wr [(id,{ s.ob id with es:=(s.ob id).es.set j (kM.set o f) })]) b'∧W.heap[b']? = w.heap[b']?:=fun b' aJ=>by
   refine ⟨⟨Zw aJ.1 hg.size,aJ.2.1,fun aM ba=>?_⟩,hg.block b' aJ.1 (fun e=>aJ.2.2 id (by rw [bk];rfl) (by rw [hb];exact e.symm))⟩;rw [bw] at ba;split at ba
   ·rename_i e;subst e;exact aJ.2.2 id (by rw [bk];rfl)
   ·exact aJ.2.2 aM ba
  refine h.step (C:=fun k=>k=id) h.size h.defers (h.bL.grown hg h.bL.size (fun k hk=>by injection hk with hk;subst hk;exact az.1)) hI (fun k=>.inl ⟨rfl,rfl⟩) (fun k hC=>?_) (fun k hC=>?_) (fun k hC br rC=>?_) (fun k hC br T'=>?_) ?_ (fun b' jR hn=>⟨hg.block b' jR (fun e=>hn id ah (by rw [hb];exact e.symm)),fun k br=>hn k (by rw [bw] at br;split at br;(· rename_i e;subst e;exact ah);(· exact br))⟩)
  ·refine ⟨by rw [bw,if_neg (fun e=>hC e.symm)],rfl,fun br b' aJ=>hg.block b' ((h.obj k br).lt aJ).2 (fun e=>hC (h.inj k id b' br ah aJ (by rw [hb];exact e.symm)))⟩
  ·subst hC;rw [bw,if_pos rfl];exact zi _
  ·subst hC;refine ⟨ah,rfl,by rw [bw,if_pos rfl],by rw [bw,if_pos rfl],fun v2 o n j2=>?_⟩;rw [bw,if_pos rfl];obtain ⟨A,cc,q1,q2,q3,q4,q5⟩:=j2.ex;refine ⟨j2.row,A,cc,q1,q2,by simpa using q3,q4,fun b2 aJ=>?_⟩;obtain ⟨o',k1,k2,k3⟩:=q5 b2 aJ;refine ⟨o',k1,k2,fun eT ea=>?_⟩;rw [hb] at aJ;injection aJ with aJ
   subst aJ;dsimp only at ea;rw [ie] at ea;injection ea with ea
   injection ea with ea _ _
   rw [← ea];have:=k3 cur a9;simpa using this
  ·subst hC;rw [bw,if_pos rfl];have eJ:∀ aM,(s.ob aM).aa≤((s.wr [(k,{ s.ob k with es:=(s.ob k).es.set j (kM.set o f) })]).ob aM).aa:=fun aM=>by
    rw [bw];split
    ·rename_i e;subst e;exact zi _
    ·exact zi _
   have bY:=uW _ hw j o kM f hj ho;rw [hp] at bY;have ma:(s.ob k).es.flatten.length=(s.ob k).es.length * (s.ob k).sz:=xk hw;refine .mM ⟨fun e he=>?_,fun f' bH aM bI e=>?_,.slice (some ⟨b,0,none⟩) (s.ob k).es.length cap,(cur.toList.take ((s.ob k).es.length * (s.ob k).sz)).set p v,?_,by rw [hb];rfl,?_,fun i u f' hu bH=>?_⟩ bk
   ·rcases XD he with h'|h'
    ·exact hw e h'
    ·subst h';rw [xh];exact bo
   ·dsimp only at bH;rw [bY] at bH;refine zR ?_ (eJ aM);rcases XD bH with h'|h'
    ·exact hH.bP f' h' aM bI e
    ·subst h';exact dS aM bI e
   ·simp only [xh];refine ⟨by rw [xh,hl,ma],.inr ⟨b,cap,_,rfl,az.1,ie,hn,hm,by simpa using bj,?_⟩⟩;simp only [List.take_set]
   ·dsimp only;rw [xh,hl,bY,xh]
   ·dsimp only at bH;rw [bY] at bH;rw [VL] at hu bH;by_cases jg:p=i
    ·subst jg;rw [if_pos rfl] at hu bH;split at hu
     ·split at bH
      ·injection hu with hu
       injection bH with bH
       subst hu;subst bH;exact T' _ _ fQ dS
      ·cases bH
     ·cases hu
    ·rw [if_neg jg] at hu bH;exact T' _ _ (hr i u f' hu bH) (hH.bP f' (zZ bH))
  ·intro k k' b' br cO e e';refine h.inj k k' b' ?_ ?_ e e'
   ·rw [bw] at br;split at br
    ·rename_i e;subst e;exact ah
    ·exact br
   ·rw [bw] at cO;split at cO
    ·rename_i e;subst e;exact ah
    ·exact cO
end
section
variable {c:Ctx} {ops:Array Oper} {rest:List Oper} {t:List (Nat×FV)} {ob:List (Nat×zL)} {d:Nat} {ty:TypeId} {pos:String} {af:Array Edge} {gd:Option (Nat×Bool)} {QS:ae→Prop}
end
section
variable {c:Ctx} {w0 w:World} {J:JJ} {s:ae} {a:Act} {β:Nat→Option Nat} {dst:Option Nat} {ty:TypeId} {pos:String} {after:Array Edge} {g:Option (Nat×Bool)}
end
section
variable {c:Ctx} {ops:Array Oper} {rest:List Oper} {t:List (Nat×FV)} {ob:List (Nat×zL)} {d:Nat} {ty:TypeId} {pos:String} {af:Array Edge} {gd:Option (Nat×Bool)} {tr:List Rec} {QD:ae→List Rec→Prop}
theorem E9 {op:Op} {wr:List (Nat×zL)} (bO:Vn op=false) (dO:¬ kr op) (hd:Nat.blt d c.N=true) (hw:ZC ops ⟨t,ob⟩ (⟨some d,op,ty,pos,af,gd⟩:Oper) true)
  (hg:∀ s' : ae,(∀ x∈op.operands.toList,s'.ev x=(⟨t,ob⟩:ae).ev x)→(∀ id∈Xa ⟨t,ob⟩ d op,s'.ob id=(⟨t,ob⟩:ae).ob id)→∀ (w0:World) (J:JJ) (a:Act) (w:World) (β:Nat→Option Nat) (ty:TypeId) (pos:String) (after:Array Edge) (g:Option (Nat×Bool)),
   FR c.N w0 J s' a w β→xz c w0 J s' a ⟨some d,op,ty,pos,after,g⟩ w f wr)
  (k:zI c ops rest (((⟨t,ob⟩:ae).wr wr).put d f) (tr++[⟨(⟨some d,op,ty,pos,af,gd⟩:Oper),f,wr,Xa ⟨t,ob⟩ d op⟩]) QD):zI c ops ((⟨some d,op,ty,pos,af,gd⟩:Oper)::rest) ⟨t,ob⟩ tr QD:=
 zI.cons (f:=f) (wr:=wr) (d:=d) ⟨.inl rfl,(fun _ e=>by injection e with e;subst e;exact yd hd),.ext bO dO fun s' h1 h2 w0 J a w β ty pos after g bn hF K Q hK=>
  xz.wp (hg s' h1 h2 w0 J a w β ty pos after g hF) (fun d' e=>by injection e with e;subst e;exact bn) hK⟩ hw rfl rfl k
theorem Fz:¬ kr (.load T x):=by rintro (⟨_,_,_,e⟩|⟨_,_,_,_,e⟩) <;> cases e
theorem Fy {cl:Call}:¬ kr (.call cl):=by rintro (⟨_,_,_,e⟩|⟨_,_,_,_,e⟩) <;> cases e
theorem vw {id o:Nat} (hx:(⟨t,ob⟩:ae).ev x=.ptr id aa j o) (hk:(c.ty T).k.aX = some false) (hb:(⟨t,ob⟩:ae).ob id=⟨aa,.aw,E,sz,es⟩) (hj:es[j]? = some row) (ho:row[o]? = some f) (hd:Nat.blt d c.N=true) (hw:ZC ops ⟨t,ob⟩ (⟨some d,.load T x,ty,pos,af,gd⟩:Oper) true)
  (k:zI c ops rest ⟨(d,f)::t,ob⟩ (tr++[⟨(⟨some d,.load T x,ty,pos,af,gd⟩:Oper),f,[],Xa ⟨t,ob⟩ d (.load T x)⟩]) QD):zI c ops ((⟨some d,.load T x,ty,pos,af,gd⟩:Oper)::rest) ⟨t,ob⟩ tr QD:=
 E9 (wr:=[]) rfl Fz hd hw (fun s' h1 h2 w0 J a w β ty pos after g hF=>by
  have e1:=(h1 x zp).trans hx;have e2:=(h2 id (WN (x:=x) rfl zp (by rw [hx];rfl))).trans hb;exact Cf hF hk x e1 (by rw [e2]) (by rw [e2]) (by rw [e2];exact hj) ho) k
theorem ux {id o:Nat} {y:Operand} (hx:(⟨t,ob⟩:ae).ev x=.ptr id aa j o) (hy:(⟨t,ob⟩:ae).ev y=f) (hf:∃ i v n,f=.own i v 0 n) (bO:(⟨t,ob⟩:ae).live id aa) (bY:∀ i v n,f=.own i v 0 n→(⟨t,ob⟩:ae).live i v) (hk:(c.ty T).k.known=true) (hz:(c.ty T).size=1) (hb:(⟨t,ob⟩:ae).ob id=⟨aa,.aw,E,sz,es⟩) (hj:es[j]? = some row) (ho:o<row.length) (hd:Nat.blt d c.N=true) (hw:ZC ops ⟨t,ob⟩ (⟨none,.store T x y,ty,pos,af,gd⟩:Oper) true)
  (k:zI c ops rest ⟨t,(id,⟨aa,.aw,E,sz,es.set j (row.set o f)⟩)::ob⟩ (tr++[⟨(⟨none,.store T x y,ty,pos,af,gd⟩:Oper),.undef,[(id,⟨aa,.aw,E,sz,es.set j (row.set o f)⟩)],Xa ⟨t,ob⟩ d (.store T x y)⟩]) QD):zI c ops ((⟨none,.store T x y,ty,pos,af,gd⟩:Oper)::rest) ⟨t,ob⟩ tr QD:=by
 refine zI.cons (f:=.undef) (wr:=[(id,⟨aa,.aw,E,sz,es.set j (row.set o f)⟩)]) (d:=d) ⟨.inr ⟨rfl,.inl ⟨_,_,_,rfl⟩⟩,(fun _ e=>by cases e),.iF rfl (.inl ⟨_,_,_,rfl⟩) fun s' h1 h2 w0 J a w β dst ty pos after g hF=>?_⟩ hw rfl rfl k;have e1:=(h1 x zp).trans hx;have e2:=(h1 y zp).trans hy;have m1:id∈Xa ⟨t,ob⟩ d (.store T x y):=WN (x:=x) rfl zp (aa:=aa) (by rw [hx];rfl);have e3:=(h2 id m1).trans hb;obtain ⟨i,v,n,rfl⟩:=hf;have m2:i∈Xa ⟨t,ob⟩ d (.store T x y):=WN (x:=y) rfl zp (aa:=v) (by rw [hy];rfl);have br:s'.live i v:=by
  have:=bY i v n rfl;unfold ae.live at this ⊢;rw [h2 i m2];exact this
 have:=Cl (dst:=dst) (ty:=ty) (pos:=pos) (after:=after) (g:=g) hF (TK.aI hk) hz x y e1 (by rw [e3]) (by rw [e3]) e2 (.inr (.inl ⟨_,_,_,_,rfl,br⟩)) (by rw [e3];exact hj) ho;rw [e3] at this;exact this
theorem wU (l:List (Nat×zL)):∀ (t:List (Nat×FV)) (ob:List (Nat×zL)),(⟨t,ob⟩:ae).wr l.reverse=⟨t,l++ob⟩:=by
 induction l with
 | nil => intro t ob; rfl
 | cons p l ih =>
  intro t ob;rw [List.reverse_cons];unfold ae.wr;rw [rQ];have:=ih t ob;unfold ae.wr at this;rw [this];rfl
theorem yl.loc {o o' : List (Nat×zL)} {g:Nat→Nat} (h:yl o g l) (ho:∀ k∈l.map Prod.fst,look {} o' (g k)=look {} o (g k)):yl o' g l:=by
 induction h with
 | nil => exact .nil
 | cons h hm hg hs ih => exact .cons ((ho _ zg).trans h) hm hg (ih fun k hk => ho k (by simp only [zH, zT]; exact .inr hk))
theorem vU {f:Nat} {xs:List Operand} {ts:Array TypeId} {args:List FV} {c4:List (Nat×zL)} {Q:FV→(Nat→zL)→Prop} (hs:Ue c.P f args c4 [] Q) (π:List (Nat×Nat)) {r:FV}
  (hQ:∀ res aO,Q res (look {} aO)→res.ren (cL π)=r∧fe (cL π) (c4.map Prod.fst) aO=l) (hx:xs.map (⟨t,ob⟩:ae).ev=args.map (FV.ren (cL π)))
  (bw:yl ob (cL π) c4) (ee:oU ((c4.map Prod.fst).map (cL π))=true) (bh:c4.all (fun p=>(look {} c4 p.1).cl (c4.map Prod.fst))=true) (ij:args.all (FV.cl (c4.map Prod.fst))=true) (dR:((c4.map Prod.fst).all fun k=>(xs.filterMap fun x=>((⟨t,ob⟩:ae).ev x).hand.map (·.1)).contains (cL π k))=true)
  (hd:Nat.blt d c.N=true) (hw:ZC ops ⟨t,ob⟩ (⟨some d,.call { callee:=.value (.func f),args:=xs.toArray,argTypes:=ts },ty,pos,af,gd⟩:Oper) true)
  (k:zI c ops rest ⟨(d,r)::t,l++ob⟩ (tr++[⟨(⟨some d,.call { callee:=.value (.func f),args:=xs.toArray,argTypes:=ts },ty,pos,af,gd⟩:Oper),r,l.reverse,Xa ⟨t,ob⟩ d (.call { callee:=.value (.func f),args:=xs.toArray,argTypes:=ts })⟩]) QD) :
  zI c ops ((⟨some d,.call { callee:=.value (.func f),args:=xs.toArray,argTypes:=ts },ty,pos,af,gd⟩:Oper)::rest) ⟨t,ob⟩ tr QD:=by
 refine zI.cons (f:=r) (wr:=l.reverse) (d:=d) ⟨.inl rfl,(fun _ e=>by injection e with e;subst e;exact yd hd),.ext rfl Fy fun s' h1 h2 w0 J a w β ty pos after g bn hF K QQ hK=>?_⟩ hw (by unfold ae.app;rw [wU];rfl) rfl k;obtain ⟨t',aO⟩:=s';have oG:∀ x∈xs,x∈(Op.call { callee:=.value (.func f),args:=xs.toArray,argTypes:=ts }).operands.toList:=fun x hx=>by simp [Op.operands,Call.operands];exact .inr hx
 have eS : xs.map (⟨t',aO⟩:ae).ev=args.map (FV.ren (cL π)):=by
  rw [← hx];exact XB fun x hx=>h1 x (oG x hx)
 have rm : yl aO (cL π) c4:=bw.loc fun k hk=>by
  have hc:=zV.1 dR k hk;obtain ⟨x,hx,e⟩:=yZ.1 (List.contains_iff_mem.1 hc);cases hh:((⟨t,ob⟩:ae).ev x).hand with
  | none => rw [hh] at e; cases e
  | some p =>
   rw [hh] at e;have e:p.1=cL π k:=by simpa using e
   exact h2 (cL π k) (WN (x:=x) (aa:=p.2) rfl (oG x hx) (by rw [hh,← e]))
 obtain ⟨g1,g2,g3⟩:=wh hF eS;have hc:=vF hF hs (cL π) rm (UH (by rw [xW];exact ee)) bh ij (fun k hk=>by cases hk) g1 g2 g3;have bu:(xs.map a.eval).toArray=xs.toArray.map a.eval:=by apply ZP;simp
 rw [bu] at hc;unfold Oper.wp;have bx:(execOp a.eval ⟨some d,.call { callee:=.value (.func f),args:=xs.toArray,argTypes:=ts },ty,pos,after,g⟩).run c.P w=.ok (.enter f (xs.toArray.map a.eval)) w:=by
  have:=Yl (P:=c.P) hs.go (xs.toArray.map a.eval) w;simp [execOp,resolve,Act.eval,Deferred.ofValue,invoke] at this ⊢;exact this
 rw [bx,WF];refine hc.mono ?_;rintro e w' ⟨v,res,Bp,aE,rfl,hq,k1,k2,k3⟩;obtain ⟨e1,e2⟩:=hQ res Bp hq;rw [xW] at k1 k2 k3;rw [e1,e2] at k2 k3;rw [e2] at k1;refine hK _ w' aE ?_;rw [wU];exact k1.put bn k2 k3
end
theorem au.nR (id k p:Nat) {w q E2 v:Nat} (hid:id≠k) (hq:r.length=q) (h:look {} ob id=⟨w,.aw,E2,q,[r]⟩) (hp:r[p]? = some (.own k v 0 es.length)) (bf:∀ i f,r[i]? = some f→i≠p→f.one=true)
  (hf:look {} ob k=⟨v,.own,E,sz,es⟩):au ⟨t,ob⟩ ⟨t,(id,⟨w,.own,E2,q,[r.set p (.list sz es)]⟩)::(k,⟨v,.dead,E,sz,es⟩)::ob⟩:=by
 intro N w0 J a wd β hF;refine ⟨β,?_⟩;have ho:(⟨t,ob⟩:ae).ob id=⟨w,.aw,E2,q,[r]⟩:=h;have c8:(⟨t,ob⟩:ae).ob k=⟨v,.own,E,sz,es⟩:=hf;have ah:((⟨t,ob⟩:ae).ob id).ag≠.dead:=by rw [ho];exact (by decide:xC.aw≠.dead)
 have la:((⟨t,ob⟩:ae).ob k).ag≠.dead:=by rw [c8];exact (by decide:xC.own≠.dead)
 obtain ⟨s',ll⟩:∃ s' : ae,s'=⟨t,(id,⟨w,.own,E2,q,[r.set p (.list sz es)]⟩)::(k,⟨v,.dead,E,sz,es⟩)::ob⟩:=⟨_,rfl⟩
 rw [← ll];have bw:∀ i,s'.ob i=if id=i then ⟨w,.own,E2,q,[r.set p (.list sz es)]⟩ else if k=i then ⟨v,.dead,E,sz,es⟩ else (⟨t,ob⟩:ae).ob i:=fun i=>by
  rw [ll];show look ({}:zL) _ i=_;rw [zN,zN];split
  ·rfl
  ·split <;> rfl
 have cw:∀ i,(s'.ob i).ag≠.dead→((⟨t,ob⟩:ae).ob i).ag≠.dead:=fun i hl=>by
  rw [bw] at hl;split at hl
  ·rename_i e;subst e;exact ah
  ·split at hl
   ·exact absurd rfl hl
   ·exact hl
 have gj:∀ i,(s'.ob i).ag.cJ=true→((⟨t,ob⟩:ae).ob i).ag.cJ=true:=fun i hl=>by
  rw [bw] at hl;split at hl
  ·rename_i e;subst e;rw [ho];rfl
  ·split at hl
   ·cases hl
   ·exact hl
 have hI:∀ b,aG J wd β ⟨t,ob⟩ b→aG J wd β s' b:=fun b hb=>⟨hb.1,hb.2.1,fun i hl=>hb.2.2 i (gj i hl)⟩
 have aC:∀ i,(s'.ob i).aa=((⟨t,ob⟩:ae).ob i).aa:=fun i=>by
  rw [bw];split
  ·rename_i e;subst e;rw [ho]
  ·split
   ·rename_i e;subst e;rw [c8]
   ·rfl
 refine hF.step (C:=fun i=>i=id∨i=k) hF.size hF.defers hF.bL (fun b hb=>⟨hI b hb,rfl⟩) (fun i=>.inl ⟨rfl,by rw [ll];rfl⟩) (fun i hC=>?_) (fun i _=>Nat.le_of_eq (aC i).symm) (fun i hC hl _=>?_) (fun i hC hl T=>?_) (fun i i' b hl ba e e'=>hF.inj i i' b (cw i hl) (cw i' ba) e e') (fun b _ hn=>⟨rfl,fun i hl=>hn i (cw i hl)⟩)
 ·refine ⟨?_,rfl,fun _ _ _=>rfl⟩;rw [bw,if_neg (fun e=>hC (.inl e.symm)),if_neg (fun e=>hC (.inr e.symm))]
 ·rcases hC with rfl|rfl
  ·refine ⟨ah,rfl,by rw [bw,if_pos rfl,ho],by rw [bw,if_pos rfl,ho];rfl,fun v o m hv=>?_⟩;rw [ho] at hv;obtain ⟨A,c,k1,k2,k3,k4,k5⟩:=hv.ex;rw [bw,if_pos rfl];exact ⟨rfl,A,c,k1,k2,by simpa using k3,k4,k5⟩
  ·exfalso;rw [bw,if_neg hid,if_pos rfl] at hl;exact hl rfl
 ·rcases hC with rfl|rfl
  ·rw [bw,if_pos rfl];have hH:=(hF.obj i ah).dU (by rw [ho];rfl) (by rw [ho];rfl);rw [ho] at hH;obtain ⟨v1,us,r1,r2,r3,r4⟩:=hH.row;dsimp only at r1 r3 r4;rw [show ([r]:List (List FV)).flatten=r by simp] at r3 r4;refine .ofRow ⟨fun e he=>?_,fun f bH=>?_,v1,us,?_,r2,?_,fun j u f hu fN=>?_⟩ (.own rfl) rfl
   ·rw [yf.1 he,xh];exact hq
   ·dsimp only at bH;rw [show ([r.set p (.list sz es)]:List (List FV)).flatten=r.set p (.list sz es) by simp] at bH;obtain ⟨j,hj,rfl⟩:=yS bH;rw [xh] at hj;rw [rT];split
    ·rfl
    ·rename_i bQ;exact bf j _ (by simp [hj]) fun e=>bQ e.symm
   ·exact r1
   ·dsimp only;rw [show ([r.set p (.list sz es)]:List (List FV)).flatten=r.set p (.list sz es) by simp,xh];exact r3
   ·dsimp only at fN;rw [show ([r.set p (.list sz es)]:List (List FV)).flatten=r.set p (.list sz es) by simp,VL] at fN;by_cases qV:p=j
    ·subst qV;rw [if_pos rfl] at fN;have iu:p<r.length:=(yq.1 hp).1;rw [if_pos iu] at fN;injection fN with fN
     subst fN;have hv:=r4 p u _ hu hp;have AN:=hv la (by rw [c8]);have hO:=hF.obj k la;have km:=hO.bA (by rw [c8];rfl);have:=EJ (I':=aG J wd β s') AN km (fun b hb=>?_) hI
     ·rw [c8] at this;dsimp only at this;rwa [Zo,yI] at this
     ·have az:=hO.lt hb;refine ⟨az.2,hF.fresh b az.1 (.inr ⟨_,la,hb⟩),fun k' ba e=>?_⟩;have:=hF.inj k k' b la (cw k' (xC.aU ba)) hb e;subst this;rw [bw,if_neg hid,if_pos rfl] at ba;cases ba
    ·rw [if_neg qV] at fN;have hv:=r4 j u f hu fN;have h1:=bf j f fN fun e=>qV e.symm;have hn:f.hand=none:=by cases f <;> first|rfl|(simp [FV.one] at h1)
     exact (VR.rd hv hn).mono fun b hb=>⟨hI b hb,rfl⟩
  ·exfalso;rw [bw,if_neg hid,if_pos rfl] at hl;exact hl rfl
theorem au.ju (id k p:Nat) {w q E2 v:Nat} (hid:id≠k) (hq:r.length=q) (h:look {} ob id=⟨w,.aw,E2,q,[r]⟩) (hp:r[p]? = some (.own k v 0 es.length)) (bf:(r.set p (.bool true)).all FV.one=true)
  (hf:look {} ob k=⟨v,.own,E,sz,es⟩):au ⟨t,ob⟩ ⟨t,(id,⟨w,.own,E2,q,[r.set p (.list sz es)]⟩)::(k,⟨v,.dead,E,sz,es⟩)::ob⟩:=
 au.nR id k p hid hq h hp (fun i f hi bQ=>zV.1 bf f (zZ (i:=i) (by rw [List.getElem?_set_ne (fun e=>bQ e.symm)];exact hi))) hf
end
section
open Go.RowKit Go.ChangeMaps Go.MapKept
open Go.Maps (Keyed)
section
variable {c:Ctx} {w0 w:World} {J:JJ} {s:ae} {a:Act} {β:Nat→Option Nat} {dst:Option Nat} {ty:TypeId} {pos:String} {after:Array Edge} {g:Option (Nat×Bool)}
end
section
variable {c:Ctx} {ops:Array Oper} {rest:List Oper} {t:List (Nat×FV)} {ob:List (Nat×zL)} {d:Nat} {ty:TypeId} {pos:String} {af:Array Edge} {gd:Option (Nat×Bool)} {tr:List Rec} {QD:ae→List Rec→Prop} {QS:ae→Prop}
end
end
section
open Go.RowKit
section
variable {c:Ctx} {ops:Array Oper} {rest:List Oper} {t:List (Nat×FV)} {ob:List (Nat×zL)} {ty:TypeId} {pos:String} {af:Array Edge} {gd:Option (Nat×Bool)} {QS:ae→Prop}
end
def ae.mp (s:ae) (d aa T:Nat) (es:List (List FV)):ae:=⟨(d,.omap d aa)::s.t,(d,⟨aa,.bl,T,0,es⟩)::s.o⟩
theorem Yx (s:ae) (d aa T:Nat) (es:List (List FV)) (k:Nat):(s.mp d aa T es).get k=if d=k then .omap d aa else s.get k:=zN _ _ _ _ _
theorem UG (s:ae) (d aa T:Nat) (es:List (List FV)) (k:Nat):(s.mp d aa T es).ob k=if d=k then ⟨aa,.bl,T,0,es⟩ else s.ob k:=zN _ _ _ _ _
def mV:Op→Bool
 | .insert .. => true
 | _ => false
def nL:Op→Bool
 | .makeMap .. => true
 | _ => false
def nB (dm:Nat):Op→Bool
 | .move (.tmp t) => t == dm
 | _ => false
def nC (r:Rec):List (List FV):=bif mV r.o.op then (match r.f with|.agg row=>[row]|_=>[]) else []
def Ya (tr:List Rec) (S:Nat→Bool):Nat→List (List FV)
 | 0 => []
 | k+1 => Ya tr S k ++ (if S k then nC (tr.getD k default) else [])
theorem WY {tr:List Rec} {S:Nat→Bool} {i:Nat} (hS:S i=false):∀ n,i<n→(Ya tr (fun k=>k == i || S k) n).Perm (Ya tr S n++nC (tr.getD i default))
 | 0, h => by omega
 | n + 1,h=>by
  unfold Ya;by_cases cE:i=n
  ·subst cE;have key:∀ m,m≤i→Ya tr (fun k=>k == i || S k) m=Ya tr S m:=by
    intro m
    induction m with
    | zero => intro _; rfl
    | succ m ih =>
     intro hm;unfold Ya;have:(m == i)=false:=by simp;omega
     rw [ih zc,this];rfl
   rw [key i (zi _),hS];simp
  ·have ih:=WY (tr:=tr) hS n zc;have:(n == i)=false:=by simp;omega
   rw [this,yX];refine (ih.append_right _).trans ?_;rw [ye,ye];exact List.Perm.append_left _ List.perm_append_comm
theorem u4 {tr:List Rec} {S S' : Nat→Bool} (h:∀ k,S k=true→S' k=true):∀ n,(Ya tr S n).Sublist (Ya tr S' n)
 | 0 => List.Sublist.refl _
 | n+1 => by
  unfold Ya;refine (u4 h n).append ?_;by_cases hS:S n=true
  ·rw [if_pos hS,if_pos (h n hS)];exact List.Sublist.refl _
  ·rw [if_neg hS];exact List.nil_sublist _
theorem uz {tr:List Rec} {S:Nat→Bool}:∀ n,(∀ k,k<n→S k=false)→Ya tr S n=[]
 | 0, _ => rfl
 | n+1, h => by
  unfold Ya;rw [uz n (fun k hk=>h k zc),h n zc];rfl
theorem u3 {tr:List Rec} {S S' : Nat→Bool}:∀ n,(∀ k,k<n→S k=S' k)→Ya tr S n=Ya tr S' n
 | 0, _ => rfl
 | n+1, h => by
  unfold Ya;rw [u3 n (fun k hk=>h k zc),h n zc]
theorem sX {y:Nat→Option Bool} (hg:o.guard=none):Region.wanted o y=true:=by simp only [Region.wanted,hg]
def w8 (c:Ctx) (ops:Array Oper) (dm T k aa:Nat) (s:ae) (r:Rec):Prop:=
 (mV r.o.op=false∧nL r.o.op=false∧nB dm r.o.op=false∧kt c ops s r)∨
 (∃ d ty pos af,r=⟨⟨some d,.move (.tmp dm),ty,pos,af,none⟩,.omap dm aa,[],[]⟩∧d≠dm∧d<c.N)∨
 (∃ ty pos af,r=⟨⟨some dm,.makeMap T none,ty,pos,af,none⟩,.undef,[],[dm]⟩)∨
 (∃ y z kf vf ty pos af,r=⟨⟨none,.insert T (.tmp dm) y z,ty,pos,af,none⟩,.agg [kf,vf],[],[]⟩∧XP c.P k kf∧y≠.tmp dm∧z≠.tmp dm∧s.ev y=kf∧s.ev z=vf∧vf.hand=none)
inductive kO (c:Ctx) (ops:Array Oper) (dm T k aa:Nat):ae→List Oper→List Rec→ae→Prop where
 | nil (s:ae):kO c ops dm T k aa s [] [] s
 | one {o:Oper} {rest:List Oper} {s s1 s2:ae} {pO kb:List Rec} (hi:mV o.op=false) (hm:nL o.op=false) (hh:nB dm o.op=false) (h:iY c ops s [o] pO s1) (hs:kO c ops dm T k aa s1 rest kb s2):kO c ops dm T k aa s (o :: rest) (pO ++ kb) s2
 | spec {r:Rec} {rest:List Oper} {s s2:ae} {kb:List Rec} (hr:w8 c ops dm T k aa s r) (hs:kO c ops dm T k aa (s.jt r) rest kb s2):kO c ops dm T k aa s (r.o :: rest) (r :: kb) s2
theorem iY.single {s s' : ae} (h:iY c ops s [o] tr s'):∃ r,tr=[r]∧s'=s.jt r∧r.o=o∧kt c ops s r:=by
 obtain ⟨h1,h2,h3⟩:=h.at;rcases tr with _|⟨r,tr⟩
 ·cases h1
 ·rcases tr with _|⟨r2,tr⟩
  ·obtain ⟨k1,k2⟩:=h3 0 Nat.one_pos;exact ⟨r,rfl,h2,k1,k2⟩
  ·cases h1
theorem kO.at {dm k:Nat} {s:ae} {l:List Oper} {s' : ae} (h:kO c ops dm T k aa s l tr s'):tr.length=l.length∧s'=sig tr s (fun _=>true) tr.length∧
  ∀ j,j<l.length→(tr.getD j default).o=l.getD j default∧w8 c ops dm T k aa (sig tr s (fun _=>true) j) (tr.getD j default):=by
 induction h with
 | nil s => exact ⟨rfl, rfl, fun k hk => by simp at hk⟩
 | @one o rest s s1 s2 pO kb hi hm hh h hs ih=>
  obtain ⟨r,rfl,rfl,ho,hr⟩:=h.single;obtain ⟨h1,h2,h3⟩:=ih;refine ⟨by simp [h1],?_,fun j hj=>?_⟩
  ·rw [List.singleton_append,xo,ZK];exact h2
  ·rw [List.singleton_append];cases j with
   | zero => exact ⟨ho, .inl ⟨by rw [WI, ho]; exact hi, by rw [WI, ho]; exact hm, by rw [WI, ho]; exact hh, hr⟩⟩
   | succ j =>
    rw [ZK];exact h3 j (by simpa using hj)
 | @spec r rest s s2 kb hr hs ih=>
  obtain ⟨h1,h2,h3⟩:=ih;refine ⟨by simp [h1],?_,fun j hj=>?_⟩
  ·rw [xo,ZK];exact h2
  ·cases j with
   | zero => exact ⟨rfl, hr⟩
   | succ j =>
    rw [ZK];exact h3 j (by simpa using hj)
def sL (ops:Array Oper) (dm:Nat) (r:Rec):Bool:=r.o.dst != some dm && !(r.o.looksAt ops).contains dm && !r.ft.contains dm && !(r.wr.map (·.1)).contains dm
def rK (ops:Array Oper) (dm mk:Nat) (tr:List Rec):Bool:=
 nL (tr.getD mk default).o.op && (List.range tr.length).all fun i=>bif mV (tr.getD i default).o.op || nB dm (tr.getD i default).o.op then (tr.getD i default).o.after.toList.any (fun e=>Region.binds .any e && e.on == mk) else bif nL (tr.getD i default).o.op then i == mk else sL ops dm (tr.getD i default)
section
variable {c:Ctx} {w0:World} {J:JJ} {ops:Array Oper} {Q:Exit→Act→World→Prop}
theorem C3 {s0 s' : ae} {dm k e mk:Nat} {R:List (List FV)} (hT:(c.ty T).k=.map k e) (K:Maps.Keyed c.P k) (jH:dm<c.N) (hx:kO c ops dm T k aa s0 ops.toList tr s') (c8:Xn ops tr=true) (mo:rK ops dm mk tr=true)
  (aC:(s0.ob dm).aa+1=aa) (hR:Ya tr (fun _=>true) tr.length=R) (dy:∀ row∈R,∀ kf,row.head? = some kf→XP c.P k kf) (hd:R.Pairwise fun a b=>a.head?≠b.head?) (AG:mk<tr.length)
  (hQ:∀ es a w β,es.Perm R→FR c.N w0 J (s'.mp dm aa T es) a w β→Q .normal a w) {a:Act} {w:World} {β:Nat→Option Nat} (hF:FR c.N w0 J s0 a w β) :
  wpAny c.P .any ops Q ops.size (Array.replicate ops.size false) a { w with drawn:=w.drawn+1 }:=by
 obtain ⟨jP,ll,gq⟩:=hx.at;have hlen:tr.length=ops.size:=by rw [jP];simp
 rw [pQ] at gq;unfold rK at mo;rw [zU,zV] at mo;obtain ⟨jT,aP⟩:=mo;have cw:∀ S,(Ya tr S ops.size).Sublist R:=fun S=>by rw [← hR,hlen];exact u4 (fun _ _=>rfl) _
 have jY:∀ k,(Array.replicate ops.size false).getD k false=false:=fun k=>by
  rw [YG];cases h:(Array.replicate ops.size false)[k]? with
  | none => rfl
  | some b => rw [sD] at h; split at h <;> simp_all
 have hD:FR c.N w0 J s0 a { w with drawn:=w.drawn+1 } β:=hF.grow ⟨rfl,rfl,rfl,zi _,fun _ _=>rfl⟩;refine CA (c:=c) (Q:=Q) (s0:=s0) (tr:=tr) (fun S s a w=>if S mk=true then ∃ es β,es.Perm (Ya tr S ops.size)∧FR c.N w0 J (s.mp dm aa T es) a w β else (∃ β,FR c.N w0 J s a w β)∧(s.ob dm).aa+1=aa∧Ya tr S ops.size=[])
  hlen (fun j hj=>(gq j hj).1) c8 ?_ ?_ ?_ ops.size _ a _ zg (fun i hi hS=>by rw [jY] at hS;cases hS) ?_ ?_
 ·-- states that read alike
  intro S s s2 a w hg ho hh;by_cases hS:S mk=true
  ·rw [if_pos hS] at hh ⊢;obtain ⟨es,β,h1,h2⟩:=hh;exact ⟨es,β,h1,h2.ext (fun t=>by rw [Yx,Yx,hg]) (fun t=>by rw [UG,UG,ho])⟩
  ·rw [if_neg hS] at hh ⊢;obtain ⟨⟨β,h1⟩,h2,h3⟩:=hh;exact ⟨⟨β,h1.ext hg ho⟩,by rw [ho];exact h2,h3⟩
 ·-- a step
  intro S s a w i o mg m7 jC cu iP hh K' hK;have hi:i<ops.size:=(Zh.1 mg).1;have mn:ops.toList.getD i default=o:=by simp [mg]
  obtain ⟨gu,AW⟩:=gq i hi;rw [mn] at gu;have hb:=aP i (by rw [hlen];simpa using hi);have ir:∀ {X:List (List FV)},X.Perm (Ya tr S ops.size++nC (tr.getD i default))→X.Perm (Ya tr (fun k=>k == i || S k) ops.size):=fun h=>h.trans (WY (tr:=tr) m7 ops.size hi).symm;generalize km:tr.getD i default=r at *;rcases AW with ⟨cE,tT,Au,ub⟩|⟨d,ty,pos,af,rfl,hdd,bn⟩|⟨ty,pos,af,rfl⟩|⟨y,z,kf,vf,ty,pos,af,rfl,cA,AK,AL,hy,hz,Bb⟩
  ·-- a plain one
   rw [cE,tT,Au] at hb;have hb:sL ops dm r=true:=hb;unfold sL at hb;simp only [zU,bne_iff_ne,ne_eq,rZ,sa,decide_eq_false_iff_not] at hb;obtain ⟨⟨⟨m8,dc⟩,n1⟩,lY⟩:=hb;have aw:nC r=[]:=by unfold nC;rw [cE];rfl
   have tS:Zk r.wr dm=none:=by
    cases hl:Zk r.wr dm with
    | none => rfl
    | some b => exact absurd (ZB (l := r.wr) (id := dm) (by rw [hl]; rfl)) lY
   have bQ:i≠mk:=fun e=>by subst e;rw [km] at jT;rw [tT] at jT;cases jT
   have lg:(mk == i)=false:=by simpa using fun e=>bQ e.symm
   by_cases hS:S mk=true
   ·rw [if_pos hS] at hh;obtain ⟨es,β,h1,h2⟩:=hh;have mr : kt c ops (s.mp dm aa T es) r:=ub.loc (fun t ht=>by rw [Yx,if_neg (fun e:dm=t=>dc (by rw [e];exact ht))];exact cu t (by rw [← gu];exact ht)) (fun id hid=>by rw [UG,if_neg (fun e:dm=id=>n1 (by rw [e];exact hid))];exact iP id hid);refine mr.wpOp h2 (by rw [gu];exact mg) (fun a' w' aE dZ=>hK a' w' ?_);rw [if_pos (by show (mk == i || S mk)=true;rw [lg,hS];rfl)];refine ⟨es,aE,ir (by rw [aw,xW];exact h1),dZ.ext (fun t=>?_) (fun id=>?_)⟩
    ·rw [Yx,Xr,Xr,Yx];by_cases e:dm=t
     ·subst e;have:fV r dm=none:=by unfold fV;rw [if_neg m8]
      rw [this];simp
     ·rw [if_neg e,if_neg e]
    ·rw [UG,WW,WW,UG];by_cases e:dm=id
     ·subst e;rw [tS];simp
     ·rw [if_neg e,if_neg e]
   ·rw [if_neg hS] at hh;obtain ⟨⟨β,h1⟩,h2,h3⟩:=hh;have mr : kt c ops s r:=ub.loc (fun t ht=>cu t (by rw [← gu];exact ht)) iP;refine mr.wpOp h1 (by rw [gu];exact mg) (fun a' w' aE dZ=>hK a' w' ?_);rw [if_neg (by show ¬ (mk == i || S mk)=true;rw [lg];simpa using hS)];refine ⟨⟨aE,dZ⟩,by rw [WW,tS];exact h2,?_⟩;have:=WY (tr:=tr) m7 ops.size hi;rw [km,aw,h3] at this;exact this.eq_nil
  ·-- its name is copied
   have hb:(af.toList.any fun e=>Region.binds .any e && e.on == mk)=true:=by simpa [mV,nB] using hb
   rw [Yb] at hb;obtain ⟨ed,qN,ik⟩:=hb;rw [zU,beq_iff_eq] at ik;have hS:S mk=true:=ik.2▸jC ed (by rw [← gu];exact qN) ik.1;rw [if_pos hS] at hh;obtain ⟨es,β,h1,h2⟩:=hh;have bQ:i≠mk:=fun e=>by subst e;rw [m7] at hS;cases hS
   have l9:(s.mp dm aa T es).ev (.tmp dm)=.omap dm aa:=by show (s.mp dm aa T es).get dm=_;rw [Yx,if_pos rfl]
   have hE:=ax.move (c:=c) (s:=s.mp dm aa T es) (d:=d) (.tmp dm);rw [l9] at hE;unfold wpOp;rw [mg];simp only;rw [← gu,if_pos (sX rfl)];refine .inl (hE.sound h2 ⟨some d,.move (.tmp dm),ty,pos,af,none⟩ rfl (.inl rfl) (fun d' h=>by injection h with h;subst h;exact bn) (fun a' w' aE dZ=>hK a' w' ?_));have lg:(mk == i)=false:=by simpa using fun e=>bQ e.symm
   rw [if_pos (by show (mk == i || S mk)=true;rw [lg,hS];rfl)];refine ⟨es,aE,ir (by show es.Perm (_++[]);rw [xW];exact h1),dZ.ext (fun t=>?_) (fun id=>?_)⟩
   ·rw [Yx,Xr];show _=((s.mp dm aa T es).put d _).get t;rw [ae.dW,Yx];unfold fV;by_cases e:dm=t
    ·rw [if_pos e,if_pos e,if_neg (fun q=>hdd (q.trans e.symm))]
    ·rw [if_neg e,if_neg e];by_cases e2:d=t
     ·rw [if_pos e2,if_pos (by rw [e2])];rfl
     ·rw [if_neg e2,if_neg (fun q=>e2 (by injection q))];rfl
   ·rw [UG,WW];show _=(s.mp dm aa T es).ob id;rw [UG];rfl
  ·-- the map is made
   have lg:i=mk:=by simpa [mV,nL,nB] using hb
   subst lg;rw [if_neg (by rw [m7];decide)] at hh;obtain ⟨⟨β,h1⟩,h2,h3⟩:=hh;unfold wpOp;rw [mg];simp only;rw [← gu,if_pos (sX rfl)];refine .inl ((Vt (ty:=ty) (pos:=pos) (after:=af) (g:=none) h1 dm T).wp (fun d hd=>by injection hd with hd;subst hd;exact jH) (fun a' w' aE dZ=>hK a' w' ?_));rw [if_pos zg];refine ⟨[],aE,ir (by rw [h3];exact List.Perm.refl _),dZ.ext (fun t=>?_) (fun id=>?_)⟩
   ·rw [Yx,Xr];show _=((s.wr _).put dm _).get t;rw [ae.dW,ae.cG];by_cases e:dm=t
    ·rw [if_pos e,if_pos e,h2]
    ·rw [if_neg e,if_neg e];have:fV ⟨⟨some dm,.makeMap T none,ty,pos,af,none⟩,.undef,[],[dm]⟩ t=none:=by unfold fV;rw [if_neg (fun q=>e (by injection q))]
     rw [this];rfl
   ·rw [UG,WW];show _=(ae.wr s _).ob id;rw [ph];unfold Zk;by_cases e:dm=id
    ·rw [if_pos e,if_pos e,← h2];rfl
    ·rw [if_neg e,if_neg e];rfl
  ·-- an entry
   have hb:(af.toList.any fun e=>Region.binds .any e && e.on == mk)=true:=hb;rw [Yb] at hb;obtain ⟨ed,qN,ik⟩:=hb;rw [zU,beq_iff_eq] at ik;have hS:S mk=true:=ik.2▸jC ed (by rw [← gu];exact qN) ik.1;rw [if_pos hS] at hh;obtain ⟨es,β,h1,h2⟩:=hh;have bQ:i≠mk:=fun e=>by subst e;rw [m7] at hS;cases hS
   have l9:∀ x,x≠.tmp dm→x∈[y,z]→(s.mp dm aa T es).ev x=(sig tr s0 (fun _=>true) i).ev x:=fun x hx hm=>by
    cases x with
    | tmp t =>
     show (s.mp dm aa T es).get t=(sig tr s0 (fun _=>true) i).get t;rw [Yx,if_neg (fun e=>hx (by rw [e]))];refine cu t ?_;rw [← gu];refine List.mem_append_left _ (yZ.2 ⟨.tmp t,?_,rfl⟩);show _∈[Operand.tmp dm,y,z];exact Yg _ hm
    | const v => rfl
    | global g => rfl
    | func f => rfl
   have bw:(s.mp dm aa T es).ob dm=⟨aa,.bl,T,0,es⟩:=by rw [UG,if_pos rfl]
   have aw:nC ⟨⟨none,.insert T (.tmp dm) y z,ty,pos,af,none⟩,.agg [kf,vf],[],[]⟩=[[kf,vf]]:=rfl;have cY:∀ row∈es,row∈R:=fun row hm=>(cw S).subset (h1.mem_iff.1 hm);have gX:pw es kf vf (es++[[kf,vf]]):=by
    refine .inr ⟨fun row hm e=>?_,rfl⟩;have p1:=hd.sublist (cw (fun k=>k == i || S k));have p2:=(WY (tr:=tr) m7 ops.size hi).pairwise p1 (fun h e=>h e.symm);rw [km,aw,List.pairwise_append] at p2;exact p2.2.2 row (h1.mem_iff.1 hm) [kf,vf] zg (by rw [e];rfl)
   obtain ⟨W,g1,g2⟩:=Uy (dst:=none) (ty:=ty) (pos:=pos) (after:=af) (g:=none) h2 hT K (.tmp dm) y z (id:=dm) (aa:=aa) (kf:=kf) (vf:=vf) (aZ:=es++[[kf,vf]]) (by show (s.mp dm aa T es).get dm=_;rw [Yx,if_pos rfl]) (by rw [bw]) (by rw [bw])
    (by rw [l9 y AK zg,hy]) (by rw [l9 z AL zg,hz]) (by rw [bw];exact fun row hm=>dy row (cY row hm)) cA Bb (by rw [bw];exact gX)
   unfold wpOp;rw [mg];simp only;rw [← gu,if_pos (sX rfl)];refine .inl ?_;unfold Oper.wp;rw [show (execOp a.eval ⟨none,.insert T (.tmp dm) y z,ty,pos,af,none⟩).run c.P w=.ok .skip W from g1,Yt];refine hK _ _ ?_;have lg:(mk == i)=false:=by simpa using fun e=>bQ e.symm
   rw [if_pos (by show (mk == i || S mk)=true;rw [lg,hS];rfl)];rw [bw] at g2;refine ⟨es++[[kf,vf]],β,ir (by rw [aw];exact h1.append_right _),g2.ext (fun t=>?_) (fun id=>?_)⟩
   ·show _=(ae.wr (s.mp dm aa T es) _).get t;rw [ae.cG,Yx,Yx,Xr];rfl
   ·rw [UG,WW];show _=(ae.wr (s.mp dm aa T es) _).ob id;rw [ph,UG];unfold Zk;by_cases e:dm=id
    ·rw [if_pos e,if_pos e];rfl
    ·rw [if_neg e,if_neg e,if_neg e];rfl
 ·-- the end
  intro S a w aP hh;rw [if_pos (aP mk (hlen▸AG))] at hh;obtain ⟨es,β,h1,h2⟩:=hh;refine hQ es a w β (h1.trans ?_) (by rw [ll,hlen];exact h2);rw [← hR,hlen,u3 (S:=S) (S':=fun _=>true) _ aP]
 ·have key:∀ n,g6 (fun k=>(Array.replicate ops.size false).getD k false) n≤n:=by
   intro n
   induction n with
   | zero => exact zi _
   | succ n ih => unfold g6; split <;> omega
  exact key _
 ·rw [if_neg (by simp only [jY];decide)];have AX:∀ t,(sig tr s0 (fun k=>(Array.replicate ops.size false).getD k false) ops.size).get t=s0.get t:=fun t=>by
   have key:=Zf (fun k=>fV (tr.getD k default) t) (fun k=>(Array.replicate ops.size false).getD k false) (s0.get t) 0 ops.size (fun k _ hk hS=>by rw [jY] at hS;cases hS);rw [yr] at key;rw [xB,key];rfl
  have kn:∀ id,(sig tr s0 (fun k=>(Array.replicate ops.size false).getD k false) ops.size).ob id=s0.ob id:=fun id=>by
   have key:=Zf (fun k=>Zk (tr.getD k default).wr id) (fun k=>(Array.replicate ops.size false).getD k false) (s0.ob id) 0 ops.size (fun k _ hk hS=>by rw [jY] at hS;cases hS);rw [yr] at key;rw [ZE,key];rfl
  exact ⟨⟨β,hD.ext AX kn⟩,by rw [kn];exact aC,uz _ (fun k _=>jY k)⟩
def yy (c:Ctx) (ops:Array Oper) (dm T k aa:Nat) (l:List Oper) (s:ae) (tr:List Rec) (Q:ae→List Rec→Prop):Prop:=∃ kN s',kO c ops dm T k aa s l kN s'∧Q s' (tr++kN)
variable {dm T k aa:Nat} {rest:List Oper} {s:ae} {tr:List Rec} {t:List (Nat×FV)} {ob:List (Nat×zL)} {QM:ae→List Rec→Prop}
theorem yy.nil (h:QM s tr):yy c ops dm T k aa [] s tr QM:=⟨[],s,.nil s,by rw [xW];exact h⟩
theorem yy.one {o:Oper} (hi:mV o.op=false) (hm:nL o.op=false) (hh:nB dm o.op=false) (h:zI c ops [o] s tr fun s' kN=>yy c ops dm T k aa rest s' kN QM):yy c ops dm T k aa (o::rest) s tr QM:=by
 obtain ⟨pO,s1,h1,kb,s2,h2,h3⟩:=h;exact ⟨_,s2,.one hi hm hh h1 h2,by rw [← ye];exact h3⟩
theorem yy.mk (h:yy c ops dm T k aa rest ⟨(dm,.undef)::t,ob⟩ (tr++[⟨⟨some dm,.makeMap T none,ty,pos,af,none⟩,.undef,[],[dm]⟩]) QM) :
  yy c ops dm T k aa ((⟨some dm,.makeMap T none,ty,pos,af,none⟩:Oper)::rest) ⟨t,ob⟩ tr QM:=by
 obtain ⟨kb,s2,h2,h3⟩:=h;exact ⟨_,s2,.spec (r:=⟨⟨some dm,.makeMap T none,ty,pos,af,none⟩,.undef,[],[dm]⟩) (.inr (.inr (.inl ⟨ty,pos,af,rfl⟩))) h2,by rw [ye] at h3;exact h3⟩
theorem yy.ins {y z:Operand} (cA:XP c.P k kf) (hy:(⟨t,ob⟩:ae).ev y=kf) (hz:(⟨t,ob⟩:ae).ev z=vf) (Be:y≠.tmp dm) (Bg:z≠.tmp dm) (hn:vf.hand=none)
  (h:yy c ops dm T k aa rest ⟨t,ob⟩ (tr++[⟨⟨none,.insert T (.tmp dm) y z,ty,pos,af,none⟩,.agg [kf,vf],[],[]⟩]) QM) :
  yy c ops dm T k aa ((⟨none,.insert T (.tmp dm) y z,ty,pos,af,none⟩:Oper)::rest) ⟨t,ob⟩ tr QM:=by
 obtain ⟨kb,s2,h2,h3⟩:=h;exact ⟨_,s2,.spec (r:=⟨⟨none,.insert T (.tmp dm) y z,ty,pos,af,none⟩,.agg [kf,vf],[],[]⟩) (.inr (.inr (.inr ⟨y,z,kf,vf,ty,pos,af,rfl,cA,Be,Bg,hy,hz,hn⟩))) h2,by rw [ye] at h3;exact h3⟩
theorem yy.hold (hd:d≠dm) (hN:Nat.blt d c.N=true) (h:yy c ops dm T k aa rest ⟨(d,.omap dm aa)::t,ob⟩ (tr++[⟨⟨some d,.move (.tmp dm),ty,pos,af,none⟩,.omap dm aa,[],[]⟩]) QM) :
  yy c ops dm T k aa ((⟨some d,.move (.tmp dm),ty,pos,af,none⟩:Oper)::rest) ⟨t,ob⟩ tr QM:=by
 obtain ⟨kb,s2,h2,h3⟩:=h;exact ⟨_,s2,.spec (r:=⟨⟨some d,.move (.tmp dm),ty,pos,af,none⟩,.omap dm aa,[],[]⟩) (.inr (.inl ⟨d,ty,pos,af,rfl,hd,by simpa [Nat.blt_eq] using hN⟩)) h2,by rw [ye] at h3;exact h3⟩
theorem FW.nS {id e mk aa:Nat} {l:List Oper} {s:ae} {Q:Exit→ae→Prop} (dm T:Nat) (R:List (List FV)) (hT:(c.ty T).k=.map k e) (K:Maps.Keyed c.P k) (jH:Nat.blt dm c.N=true) (aC:(s.ob dm).aa+1=aa) (dy:∀ row∈R,∀ kf,row.head? = some kf→XP c.P k kf) (hd:R.Pairwise fun a b=>a.head?≠b.head?)
  (h:yy c l.toArray dm T k aa l s [] fun s' tr=>(Xn l.toArray tr && rK l.toArray dm mk tr && Nat.blt mk tr.length)=true∧Ya tr (fun _=>true) tr.length=R∧∀ es,es.Perm R→Q .normal (s'.mp dm aa T es)):FW c (.region id l.toArray true) Q s:=fun w0 J a w β hF=>by
 obtain ⟨tr,s',hx,c8,hR,hq⟩:=h;rw [VO,zU,zU] at c8;exact C3 (Q:=iB fun a' w'=>∃ s' aE,Q .normal s'∧FR c.N w0 J s' a' w' aE) (ops:=l.toArray) hT K (by simpa [Nat.blt_eq] using jH) (by simpa using hx) c8.1.1 c8.1.2 aC (by simpa using hR) dy hd (by simpa [Nat.blt_eq] using c8.2) (fun es a w β hp f=>⟨_,β,hq es hp,f⟩) hF
end
end
section
open Go.RowKit Go.Maps
theorem au.mP (d:Nat) {f' : FV} (h:look .undef t d=f) (hn:f.hand=none) (nk : f'.hand=none) (hr:∀ (w:World) (I:Nat→Prop) (v:Value),Rd w I v f→Rd w I v f'):au ⟨t,ob⟩ ⟨(d,f')::t,ob⟩:=by
 intro N w0 J a w β hF;refine ⟨β,?_⟩;refine hF.step (C:=fun _=>False) hF.size hF.defers hF.bL (fun b hb=>⟨hb,rfl⟩) (fun k=>?_) (fun id _=>⟨rfl,rfl,fun _ _ _=>rfl⟩) (fun _ h=>h.elim) (fun _ h=>h.elim) (fun _ h=>h.elim) hF.inj (fun b _ hn=>⟨rfl,hn⟩);show (_∧look .undef ((d,_)::t) k=look .undef t k)∨_;by_cases gC:d=k
 ·subst gC;right;have:(⟨(d,f')::t,ob⟩:ae).get d=f':=by show look _ _ _=_;rw [zN,if_pos rfl]
  rw [this];refine ⟨VR.bt ?_ nk,fun id aa e=>(FV.aT nk e).elim⟩;have h1:=hF.slot d;rw [show (⟨t,ob⟩:ae).get d=f from h] at h1;exact (hr _ _ _ (VR.rd h1 hn)).mono fun b hb=>⟨hb,rfl⟩
 ·left;refine ⟨rfl,?_⟩;rw [zN,if_neg gC]
theorem au.dP (d:Nat) (h:look .undef t d=.smap aZ) (hp:aZ.Perm es):au ⟨t,ob⟩ ⟨(d,.perm 0 es)::t,ob⟩:=
 au.mP d h rfl rfl fun _ _ v hr=>.dP v es aZ hp hr
section
variable {c:Ctx} {w0 w:World} {J:JJ} {s:ae} {a:Act} {β:Nat→Option Nat}
theorem FR.Bs (h:FR c.N w0 J s a w β) (ex:s.ev x=.perm 0 es) (bQ:es.any (fun r=>r.length != 0)=true):∃ b clock ao aZ,a.eval x=.map (some b)∧aZ.Perm es∧Mp w (aG J w β s) b clock ao aZ:=by
 have hr:=h.bg ex rfl;generalize a.eval x=v at hr;cases hr with
 | perm v sz es aZ hp hr=>
  rw [Yb] at bQ;obtain ⟨r,h1,h2⟩:=bQ;cases hr with
  | list A n c sz es us hn hc he ho hA hl hr =>
   have:=he r (hp.mem_iff.2 h1);rw [this] at h2;cases h2
 | dP v es aZ hp hr =>
  cases hr with
  | smap b clock ao es hI hb bO hl hk hr => exact ⟨b, clock, ao, aZ, rfl, hp, hb, bO, hl, hk, hr⟩
theorem kq.perm {z:FV} {b:Bool} (hp:aZ.Perm es) (h:kq es kf z vf b):kq aZ kf z vf b:=by
 rcases h with ⟨h1,h2⟩|⟨h1,h2,h3⟩
 ·exact .inl ⟨h1,hp.mem_iff.2 h2⟩
 ·exact .inr ⟨h1,h2,fun row hr=>h3 row (hp.mem_iff.1 hr)⟩
theorem ax.mH {k e:Nat} (hT:(c.ty T).k=.map k e) {bb:Bool} (he:(c.ty e).k.aX = some bb) (K:Keyed c.P k) (x y:Operand) (bQ:es.any (fun r=>r.length != 0)=true) (ex:s.ev x=.perm 0 es)
(ey:s.ev y=kf) (hk:∀ row∈es,∀ kf,row.head? = some kf→XP c.P k kf) (cA:XP c.P k kf) {found:Bool} (hl:kq es kf (c.ty e).kQ vf found) (hn:vf.hand=none):ax c s d (.lookup T x y true) (.bS [vf,.bool found]) []:=by
 refine .ext rfl (fun h=>by rcases h with ⟨_,_,_,h⟩|⟨_,_,_,_,h⟩ <;> cases h) fun s' h1 _ w0 J a w β ty pos after g bn hF K' Q hK=>?_;obtain ⟨b,clock,ao,aZ,hx,hp,hm⟩:=hF.Bs (x:=x) (by rw [h1 x zp];exact ex) bQ;have eE : ∀ row∈aZ,∀ kf,row.head? = some kf→XP c.P k kf:=fun row hr=>hk row (hp.mem_iff.1 hr);have hy:a.eval y=kf.val:=(hF.bg (x:=y) (by rw [h1 y zp];exact ey) (by have:=cA.1;cases kf <;> first|rfl|(simp [FV.simple,FV.aH] at this))).ch cA.1;obtain ⟨v,g1,g2⟩:=u9 (w:=w) hT he K hm eE cA true (hl.perm hp);have hG:xz c w0 J s' a ⟨some d,.lookup T x y true,ty,pos,after,g⟩ w (.bS [vf,.bool found]) []:=.rd hF (v:=v) (by simp [execOp,hx,hy,g1]) (by simpa using g2) rfl;exact hG.wp (fun d' h=>by injection h with h;subst h;exact bn) hK
variable {ops:Array Oper} {rest:List Oper} {t:List (Nat×FV)} {ob:List (Nat×zL)} {ty:TypeId} {pos:String} {af:Array Edge} {g:Option (Nat×Bool)} {d:Nat} {tr:List Rec} {Q:ae→Prop} {QD:ae→List Rec→Prop}
theorem vx {T k e:Nat} {bb found:Bool} {x y:Operand} {kf vf:FV} {es:List (List FV)} (K:Maps.Keyed c.P k) (bQ:es.any (fun r=>r.length != 0)=true) (gD:∀ row∈es,∀ kf,row.head? = some kf→XP c.P k kf) (cA:XP c.P k kf) (la:kq es kf (c.ty e).kQ vf found) (hx:(⟨t,ob⟩:ae).ev x=.perm 0 es) (hy:(⟨t,ob⟩:ae).ev y=kf) (hT:(c.ty T).k=.map k e) (he:(c.ty e).k.aX = some bb) (hn:vf.hand=none) (hd:Nat.blt d c.N=true) (hw:ZC ops ⟨t,ob⟩ ⟨some d,.lookup T x y true,ty,pos,af,g⟩ true) (k:zI c ops rest ⟨((d,(.bS [vf,.bool found]))::t),ob⟩ (tr++[⟨⟨some d,.lookup T x y true,ty,pos,af,g⟩,(.bS [vf,.bool found]),[],Xa ⟨t,ob⟩ d (.lookup T x y true)⟩]) QD):zI c ops (⟨some d,.lookup T x y true,ty,pos,af,g⟩::rest) ⟨t,ob⟩ tr QD:=
 zI.cons (f:=(.bS [vf,.bool found])) (wr:=[]) (d:=d) (VD hd (ax.mH hT he K x y bQ hx hy gD cA la hn)) hw rfl rfl k
end
end
section
open Go.RowKit
theorem vk {P:Program} {k i:TypeId} {fs:Array Field} (hu:P.underlying k=some (.struct fs)) (hf:fs.toList.map (fun f=>(f.type,f.offset))=[(i,0),(i,1)]) (hn:fs.all (·.name != "_")=true)
  (hi:P.underlying i=some (.int .i64)) (c1:P.cellsOf i=1) (c2:P.cellsOf k=2) (hk:P.keyType k=true) (n:Nat) (ht:P.types.size=n+1) (ha:(Lit.int .i64 a).wf=true) (hb:(Lit.int .i64 b).wf=true) :
  ∃ l,keyOf P k (.agg #[.int .i64 a,.int .i64 b])=some l:=by
 have jf:∃ f g,fs.toList=[f,g]∧f.type=i∧f.offset=0∧g.type=i∧g.offset=1:=by
  generalize fs.toList=l at hf;rcases l with _|⟨f,_|⟨g,_|⟨h,t⟩⟩⟩ <;> simp at hf
  exact ⟨f,g,rfl,hf.1.1,hf.1.2,hf.2.1,hf.2.2⟩
 obtain ⟨f,g,hl,f1,f2,g1,g2⟩:=jf;have one:∀ x,(Lit.int .i64 x).wf=true→P.keyLits (n+1) i [.int .i64 x]=some [.int .i64 x]:=fun x hx=>by
  unfold Program.keyLits;rw [hi];simp [hx]
 have two:P.keyLits (P.types.size+1) k [.int .i64 a,.int .i64 b]=some [.int .i64 a,.int .i64 b]:=by
  unfold Program.keyLits;rw [hu];have aP:(fs.toList.all fun x=>x.name != "_")=true:=by
   rw [Array.all_toList];exact hn
  simp only;rw [if_pos ⟨by rw [c2];rfl,by simpa using hn⟩,hl,ht];simp [f1,f2,g1,g2,c1,one a ha,one b hb]
 unfold keyOf;rw [hu];refine ⟨.string (keyBytes [.int .i64 a,.int .i64 b]),?_⟩;have An:(Value.agg #[.int .i64 a,.int .i64 b]).formed P k=true:=by simp [Value.formed,hu,c2]
 simp only [hk,An,Bool.and_self,if_true];rw [show (Value.agg #[.int .i64 a,.int .i64 b]).cells.toList=[.int .i64 a,.int .i64 b] from rfl,two];rfl
theorem wg:laidOutB Tryz.prog=true:=by kernel_rfl
def vA (P:Program) (k:TypeId):Array Field:=match P.underlying k with|some (.struct fs)=>fs|_=>#[]
def g8 (a b:Int):FV:=.agg [.int .i64 a,.int .i64 b]
theorem o8 (h:bD a):(Lit.int .i64 a).wf=true:=by
 have h1:IntKind.i64.min = -9223372036854775808:=by kernel_rfl
 have h2:IntKind.i64.max=9223372036854775807:=by kernel_rfl
 unfold bD at h;simp [Lit.wf,h1,h2,h]
theorem su {c d:Int} (h:g8 a b=g8 c d):a=c∧b=d:=by
 unfold g8 at h;injection h with h
 injection h with h1 h2
 injection h2 with h2 _
 injection h1 with _ h1
 injection h2 with _ h2
 exact ⟨h1,h2⟩
def vc (f:FV):FV:=.ay 1 [[f]] 0 0
def iX (o g:Int):FV:=.fn 86 [vc (.int .i64 o),vc (.int .i64 g)]
def ny (o:Int):FV:=.fn 97 [vc (.int .i64 o)]
def qw (o:Int):FV:=.fn 114 [vc (.int .i64 o)]
def pN (f:FV):FV:=.fn 112 [vc f]
def rJ (es:List (List FV)):FV:=.fn 108 [vc (.list 1 es)]
theorem yp (o g:Int):zP Tryz.prog 39 [.int .i64 o,.int .i64 g] .sh (iX o g):=by
 refine zj 6 Tryz.func39 Tryz.ntmps39 rfl ?_;change FW _ _ _ ⟨[(0,.int .i64 o),(1,.int .i64 g)],[]⟩;refine Xf ?_;refine zn.le ?_ (au.aL 2 rfl rfl);refine zn.le ?_ (au.aL 3 rfl rfl);refine za ?_;exact FW.ret ⟨.inl rfl,.sh (.cons (.tmp 4 rfl rfl) .nil) rfl rfl⟩
theorem Xq (o:Int):zP Tryz.prog 45 [.int .i64 o] .sh (ny o):=by
 refine zj 4 Tryz.func45 Tryz.ntmps45 rfl ?_;change FW _ _ _ ⟨[(0,.int .i64 o)],[]⟩;refine Xf ?_;refine zn.le ?_ (au.aL 1 rfl rfl);refine za ?_;exact FW.ret ⟨.inl rfl,.sh (.cons (.tmp 2 rfl rfl) .nil) rfl rfl⟩
theorem Vq (o:Int):zP Tryz.prog 62 [.int .i64 o] .sh (qw o):=by
 refine zj 4 Tryz.func62 Tryz.ntmps62 rfl ?_;change FW _ _ _ ⟨[(0,.int .i64 o)],[]⟩;refine Xf ?_;refine zn.le ?_ (au.aL 1 rfl rfl);refine za ?_;exact FW.ret ⟨.inl rfl,.sh (.cons (.tmp 2 rfl rfl) .nil) rfl rfl⟩
theorem UL (f:Nat):zP Tryz.prog 55 [.fn f []] .sh (pN (.fn f [])):=by
 refine zj 4 Tryz.func55 Tryz.ntmps55 rfl ?_;change FW _ _ _ ⟨[(0,.fn f [])],[]⟩;refine Xf ?_;refine zn.le ?_ (au.aL 1 rfl rfl);refine za ?_;exact FW.ret ⟨.inl rfl,.sh (.cons (.tmp 2 rfl rfl) .nil) rfl rfl⟩
theorem vq (es:List (List FV)):zP Tryz.prog 52 [.list 1 es] .sh (rJ es):=by
 refine zj 4 Tryz.func52 Tryz.ntmps52 rfl ?_;change FW _ _ _ ⟨[(0,.list 1 es)],[]⟩;refine Xf ?_;refine zn.le ?_ (au.aL 1 rfl rfl);refine za ?_;exact FW.ret ⟨.inl rfl,.sh (.cons (.tmp 2 rfl rfl) .nil) rfl rfl⟩
theorem XX:Maps.Keyed Tryz.prog 72:=Maps.Keyed.of_law (deep_law_laid wg (m:=2) zc (of_decide_eq_true zD) zD zD)
theorem Zd (ha:bD a) (hb:bD b):XP Tryz.prog 72 (g8 a b):=
 ⟨rfl,vk (i:=3) (fs:=vA Tryz.prog 72) zD zD zD zD zD zD zD (Tryz.prog.types.size - 1) zD (o8 ha) (o8 hb)⟩
def Vd (p:Int×Int×FV):List FV:=[g8 p.1 p.2.1,p.2.2]
theorem ZW (hp:es.Perm (R.map Vd)) (h:∀ p∈R,¬ (p.1=a∧p.2.1=b)):pw es (g8 a b) vf (es++[Vd (a,b,vf)]):=by
 refine .inr ⟨fun row hr e=>?_,rfl⟩;obtain ⟨p,hp,rfl⟩:=zM.1 (hp.mem_iff.1 hr);injection e with e
 exact h p hp (su e)
theorem sS (h:∀ p∈R,bD p.1∧bD p.2.1):∀ row∈R.map Vd,∀ kf,row.head? = some kf→XP Tryz.prog 72 kf:=fun row hr kf e=>by
 obtain ⟨p,hp,rfl⟩:=zM.1 hr;injection e with e
 subst e;exact Zd (h p hp).1 (h p hp).2
theorem UD (hp:es.Perm (R.map Vd)) (h:∀ p∈R,bD p.1∧bD p.2.1):∀ row∈es,∀ kf,row.head? = some kf→XP Tryz.prog 72 kf:=fun row hr=>sS h row (hp.mem_iff.1 hr)
instance (x:Int):Decidable (bD x):=by unfold bD;infer_instance
def UQ:List (Int×Int×FV):=[
 (1,0,.agg [iX 0 0,.fn 40 []]),
 (1,1,.agg [iX 1 0,.fn 41 []]),
 (2,3,.agg [iX 2 0,.fn 42 []]),
 (2,4,.agg [.fn 43 [],.fn 44 []]),
 (3,5,.agg [ny 0,.fn 46 []]),
 (4,5,.agg [ny 0,.fn 46 []]),
 (5,0,.agg [.fn 47 [],.fn 48 []]),
 (5,6,.agg [ny 0,.fn 49 []]),
 (5,7,.agg [ny 3,.fn 50 []]),
 (5,8,.agg [ny 2,.fn 51 []]),
 (6,0,.agg [iX 0 0,rJ [[.fn 53 []],[.fn 54 []]]]),
 (6,9,.agg [iX 2 0,pN (.fn 53 [])]),
 (6,10,.agg [iX 2 0,pN (.fn 54 [])]),
 (7,0,.agg [iX 0 0,rJ [[.fn 56 []],[.fn 57 []],[.fn 58 []]]]),
 (7,11,.agg [iX 2 0,pN (.fn 56 [])]),
 (7,12,.agg [.fn 59 [],.fn 60 []]),
 (8,0,.agg [iX 1 0,qw 0]),
 (8,13,.agg [iX 1 0,qw 13]),
 (8,14,.agg [iX 0 0,.fn 63 []])]
def VC (c:Int):Int×Int×FV:=(c,0,.agg [.fn 47 [],.fn 64 []])
def WZ (c:Int):Int×Int×FV:=(c,2,.agg [iX 1 0,.fn 61 []])
def YU:List (Int×Int×FV):=UQ++[2,3,4].map VC++[2,3,4,5].map WZ
set_option maxRecDepth 20000 in
theorem CB:(UQ.map Vd).Pairwise fun a b=>a.head?≠b.head?:=by
 refine List.pairwise_map.2 ((show UQ.Pairwise fun p q=>¬ (p.1=q.1∧p.2.1=q.2.1) by decide).imp fun {p q} h e=>h ?_);injection e with e
 exact su e
set_option maxRecDepth 20000 in
theorem C8:∀ p∈UQ,bD p.1∧bD p.2.1:=by decide
set_option maxRecDepth 20000 in
theorem Ci:∀ p∈YU,bD p.1∧bD p.2.1:=by decide
theorem ZX {R' : List (Int×Int×FV)} {r:Int×Int×FV} (hp:es.Perm (R.map Vd)) (h:R++[r]=R'):(es++[Vd r]).Perm (R'.map Vd):=by
 rw [← h,yY];exact hp.append_right _
set_option maxRecDepth 20000 in
theorem C9:zP Tryz.prog 21 [] .sh (.perm 0 (YU.map Vd)):=by
 refine zj 95 Tryz.func21 Tryz.ntmps21 rfl ?_;change FW _ _ _ ⟨[],[]⟩;refine za ?_;refine FW.nS (c:=(zip Tryz.prog Vo XI 95)) (k:=72) (mk:=0) (aa:=1) (s:=⟨[(0,.cm)],[]⟩) 6 69 (UQ.map Vd) rfl XX rfl rfl (sS C8) CB ?_;refine yy.mk ?_;refine yy.one rfl rfl rfl ?_;refine zt ?_;refine yy.one rfl rfl rfl ?_;refine zK (yp 0 0) (by repeat (first|exact zf.nil|refine zf.cons zd ?_)) rfl rfl ?_;refine zI.nil ?_;refine yy.one rfl rfl rfl ?_;refine zt ?_;refine yy.ins (Zd (a:=1) (b:=0) zb zb) rfl rfl (fun h=>by injection h with h;exact absurd h zb) (fun h=>by injection h with h;exact absurd h zb) rfl ?_;refine yy.one rfl rfl rfl ?_;refine zt ?_;refine yy.one rfl rfl rfl ?_;refine zK (yp 1 0) (by repeat (first|exact zf.nil|refine zf.cons zd ?_)) rfl rfl ?_;refine zI.nil ?_;refine yy.one rfl rfl rfl ?_;refine zt ?_;refine yy.ins (Zd (a:=1) (b:=1) zb zb) rfl rfl (fun h=>by injection h with h;exact absurd h zb) (fun h=>by injection h with h;exact absurd h zb) rfl ?_;refine yy.one rfl rfl rfl ?_;refine zt ?_;refine yy.one rfl rfl rfl ?_;refine zK (yp 2 0) (by repeat (first|exact zf.nil|refine zf.cons zd ?_)) rfl rfl ?_;refine zI.nil ?_;refine yy.one rfl rfl rfl ?_;refine zt ?_;refine yy.ins (Zd (a:=2) (b:=3) zb zb) rfl rfl (fun h=>by injection h with h;exact absurd h zb) (fun h=>by injection h with h;exact absurd h zb) rfl ?_;refine yy.one rfl rfl rfl ?_;refine zt ?_;refine yy.one rfl rfl rfl ?_;refine zt ?_;refine yy.ins (Zd (a:=2) (b:=4) zb zb) rfl rfl (fun h=>by injection h with h;exact absurd h zb) (fun h=>by injection h with h;exact absurd h zb) rfl ?_;refine yy.one rfl rfl rfl ?_;refine zt ?_;refine yy.one rfl rfl rfl ?_;refine zK (Xq 0) (by repeat (first|exact zf.nil|refine zf.cons zd ?_)) rfl rfl ?_;refine zI.nil ?_;refine yy.one rfl rfl rfl ?_;refine zt ?_;refine yy.ins (Zd (a:=3) (b:=5) zb zb) rfl rfl (fun h=>by injection h with h;exact absurd h zb) (fun h=>by injection h with h;exact absurd h zb) rfl ?_;refine yy.one rfl rfl rfl ?_;refine zt ?_;refine yy.one rfl rfl rfl ?_;refine zK (Xq 0) (by repeat (first|exact zf.nil|refine zf.cons zd ?_)) rfl rfl ?_;refine zI.nil ?_;refine yy.one rfl rfl rfl ?_;refine zt ?_;refine yy.ins (Zd (a:=4) (b:=5) zb zb) rfl rfl (fun h=>by injection h with h;exact absurd h zb) (fun h=>by injection h with h;exact absurd h zb) rfl ?_;refine yy.one rfl rfl rfl ?_;refine zt ?_;refine yy.one rfl rfl rfl ?_;refine zt ?_;refine yy.ins (Zd (a:=5) (b:=0) zb zb) rfl rfl (fun h=>by injection h with h;exact absurd h zb) (fun h=>by injection h with h;exact absurd h zb) rfl ?_;refine yy.one rfl rfl rfl ?_;refine zt ?_;refine yy.one rfl rfl rfl ?_;refine zK (Xq 0) (by repeat (first|exact zf.nil|refine zf.cons zd ?_)) rfl rfl ?_;refine zI.nil ?_;refine yy.one rfl rfl rfl ?_;refine zt ?_;refine yy.ins (Zd (a:=5) (b:=6) zb zb) rfl rfl (fun h=>by injection h with h;exact absurd h zb) (fun h=>by injection h with h;exact absurd h zb) rfl ?_;refine yy.one rfl rfl rfl ?_;refine zt ?_;refine yy.one rfl rfl rfl ?_;refine zK (Xq 3) (by repeat (first|exact zf.nil|refine zf.cons zd ?_)) rfl rfl ?_;refine zI.nil ?_;refine yy.one rfl rfl rfl ?_;refine zt ?_;refine yy.ins (Zd (a:=5) (b:=7) zb zb) rfl rfl (fun h=>by injection h with h;exact absurd h zb) (fun h=>by injection h with h;exact absurd h zb) rfl ?_;refine yy.one rfl rfl rfl ?_;refine zt ?_;refine yy.one rfl rfl rfl ?_;refine zK (Xq 2) (by repeat (first|exact zf.nil|refine zf.cons zd ?_)) rfl rfl ?_;refine zI.nil ?_;refine yy.one rfl rfl rfl ?_;refine zt ?_;refine yy.ins (Zd (a:=5) (b:=8) zb zb) rfl rfl (fun h=>by injection h with h;exact absurd h zb) (fun h=>by injection h with h;exact absurd h zb) rfl ?_;refine yy.one rfl rfl rfl ?_;refine zt ?_;refine yy.one rfl rfl rfl ?_;refine zK (yp 0 0) (by repeat (first|exact zf.nil|refine zf.cons zd ?_)) rfl rfl ?_;refine zI.nil ?_;refine yy.one rfl rfl rfl ?_;refine ZM (es:=[[.fn 53 []],[.fn 54 []]]) rfl rfl rfl (by refine zY.one rfl rfl rfl rfl ?_;refine zY.one rfl rfl rfl rfl ?_;exact zY.nil) rfl rfl rfl rfl rfl ?_;refine zI.nil ?_;refine yy.one rfl rfl rfl ?_;refine zK (vq [[.fn 53 []],[.fn 54 []]]) (by repeat (first|exact zf.nil|refine zf.cons zd ?_)) rfl rfl ?_;refine zI.nil ?_;refine yy.one rfl rfl rfl ?_;refine zt ?_;refine yy.ins (Zd (a:=6) (b:=0) zb zb) rfl rfl (fun h=>by injection h with h;exact absurd h zb) (fun h=>by injection h with h;exact absurd h zb) rfl ?_;refine yy.one rfl rfl rfl ?_;refine zt ?_;refine yy.one rfl rfl rfl ?_;refine zK (yp 2 0) (by repeat (first|exact zf.nil|refine zf.cons zd ?_)) rfl rfl ?_;refine zI.nil ?_;refine yy.one rfl rfl rfl ?_;refine zK (UL 53) (by repeat (first|exact zf.nil|refine zf.cons zd ?_)) rfl rfl ?_;refine zI.nil ?_;refine yy.one rfl rfl rfl ?_;refine zt ?_;refine yy.ins (Zd (a:=6) (b:=9) zb zb) rfl rfl (fun h=>by injection h with h;exact absurd h zb) (fun h=>by injection h with h;exact absurd h zb) rfl ?_;refine yy.one rfl rfl rfl ?_;refine zt ?_;refine yy.one rfl rfl rfl ?_;refine zK (yp 2 0) (by repeat (first|exact zf.nil|refine zf.cons zd ?_)) rfl rfl ?_;refine zI.nil ?_;refine yy.one rfl rfl rfl ?_;refine zK (UL 54) (by repeat (first|exact zf.nil|refine zf.cons zd ?_)) rfl rfl ?_;refine zI.nil ?_;refine yy.one rfl rfl rfl ?_;refine zt ?_;refine yy.ins (Zd (a:=6) (b:=10) zb zb) rfl rfl (fun h=>by injection h with h;exact absurd h zb) (fun h=>by injection h with h;exact absurd h zb) rfl ?_;refine yy.one rfl rfl rfl ?_;refine zt ?_;refine yy.one rfl rfl rfl ?_;refine zK (yp 0 0) (by repeat (first|exact zf.nil|refine zf.cons zd ?_)) rfl rfl ?_;refine zI.nil ?_;refine yy.one rfl rfl rfl ?_;refine ZM (es:=[[.fn 56 []],[.fn 57 []],[.fn 58 []]]) rfl rfl rfl (by refine zY.one rfl rfl rfl rfl ?_;refine zY.one rfl rfl rfl rfl ?_;refine zY.one rfl rfl rfl rfl ?_;exact zY.nil) rfl rfl rfl rfl rfl ?_;refine zI.nil ?_;refine yy.one rfl rfl rfl ?_;refine zK (vq [[.fn 56 []],[.fn 57 []],[.fn 58 []]]) (by repeat (first|exact zf.nil|refine zf.cons zd ?_)) rfl rfl ?_;refine zI.nil ?_;refine yy.one rfl rfl rfl ?_;refine zt ?_;refine yy.ins (Zd (a:=7) (b:=0) zb zb) rfl rfl (fun h=>by injection h with h;exact absurd h zb) (fun h=>by injection h with h;exact absurd h zb) rfl ?_;refine yy.one rfl rfl rfl ?_;refine zt ?_;refine yy.one rfl rfl rfl ?_;refine zK (yp 2 0) (by repeat (first|exact zf.nil|refine zf.cons zd ?_)) rfl rfl ?_;refine zI.nil ?_;refine yy.one rfl rfl rfl ?_;refine zK (UL 56) (by repeat (first|exact zf.nil|refine zf.cons zd ?_)) rfl rfl ?_;refine zI.nil ?_;refine yy.one rfl rfl rfl ?_;refine zt ?_;refine yy.ins (Zd (a:=7) (b:=11) zb zb) rfl rfl (fun h=>by injection h with h;exact absurd h zb) (fun h=>by injection h with h;exact absurd h zb) rfl ?_;refine yy.one rfl rfl rfl ?_;refine zt ?_;refine yy.one rfl rfl rfl ?_;refine zt ?_;refine yy.ins (Zd (a:=7) (b:=12) zb zb) rfl rfl (fun h=>by injection h with h;exact absurd h zb) (fun h=>by injection h with h;exact absurd h zb) rfl ?_;refine yy.one rfl rfl rfl ?_;refine zt ?_;refine yy.one rfl rfl rfl ?_;refine zK (yp 1 0) (by repeat (first|exact zf.nil|refine zf.cons zd ?_)) rfl rfl ?_;refine zI.nil ?_;refine yy.one rfl rfl rfl ?_;refine zK (Vq 0) (by repeat (first|exact zf.nil|refine zf.cons zd ?_)) rfl rfl ?_;refine zI.nil ?_;refine yy.one rfl rfl rfl ?_;refine zt ?_;refine yy.ins (Zd (a:=8) (b:=0) zb zb) rfl rfl (fun h=>by injection h with h;exact absurd h zb) (fun h=>by injection h with h;exact absurd h zb) rfl ?_;refine yy.one rfl rfl rfl ?_;refine zt ?_;refine yy.one rfl rfl rfl ?_;refine zK (yp 1 0) (by repeat (first|exact zf.nil|refine zf.cons zd ?_)) rfl rfl ?_;refine zI.nil ?_;refine yy.one rfl rfl rfl ?_;refine zK (Vq 13) (by repeat (first|exact zf.nil|refine zf.cons zd ?_)) rfl rfl ?_;refine zI.nil ?_;refine yy.one rfl rfl rfl ?_;refine zt ?_;refine yy.ins (Zd (a:=8) (b:=13) zb zb) rfl rfl (fun h=>by injection h with h;exact absurd h zb) (fun h=>by injection h with h;exact absurd h zb) rfl ?_;refine yy.one rfl rfl rfl ?_;refine zt ?_;refine yy.one rfl rfl rfl ?_;refine zK (yp 0 0) (by repeat (first|exact zf.nil|refine zf.cons zd ?_)) rfl rfl ?_;refine zI.nil ?_;refine yy.one rfl rfl rfl ?_;refine zt ?_;refine yy.ins (Zd (a:=8) (b:=14) zb zb) rfl rfl (fun h=>by injection h with h;exact absurd h zb) (fun h=>by injection h with h;exact absurd h zb) rfl ?_;refine yy.hold zb rfl ?_;refine yy.one rfl rfl rfl ?_;refine zt ?_;refine yy.nil ⟨by kernel_rfl,rfl,fun es hp=>?_⟩;unfold ae.mp;refine FW.le (s':=⟨[(1,.omap 100 0)],[(100,⟨0,.bl,69,0,es⟩)]⟩) ?_ (au.cv [⟨100,some 6,1,⟨0,.bl,69,0,es⟩⟩] zm zq);refine za ?_;refine zC (es:=[[.int .i64 2],[.int .i64 3],[.int .i64 4]]) rfl rfl rfl (by refine zY.int rfl rfl ?_;refine zY.int rfl rfl ?_;refine zY.int rfl rfl ?_;exact zY.nil) rfl rfl rfl rfl rfl ?_;refine za ?_;refine FW.loop (fun p:Nat×List (List FV)=>⟨[(1,.omap 100 0),(71,.list 1 [[.int .i64 2],[.int .i64 3],[.int .i64 4]]),(72,.int .i64 3),(73,.int .i64 (p.1:Nat))],[(100,⟨0,.bl,69,0,p.2⟩)]⟩) (fun p=>p.1≤3∧p.2.Perm ((UQ++(([2,3,4]:List Int).take p.1).map VC).map Vd)) (fun p=>3 - p.1) (0,es) ⟨zB _,by simpa using hp⟩ ?_ ?_
 ·exact (au.cv [⟨100,some 100,0,⟨0,.bl,69,0,es⟩⟩] zm zq)
 clear hp es;rintro ⟨i,es⟩ ⟨hi,hp⟩;replace hi:i≤3:=hi;dsimp only at hp;obtain rfl|rfl|rfl|rfl:i=0∨i=1∨i=2∨i=3:=by omega
 ·refine za ?_;refine Ze XX (UD hp zb) (Zd (a:=2) (b:=0) zb zb) (ZW (vf:=(VC 2).2.2) hp zb) rfl rfl rfl rfl rfl rfl rfl ?_;refine za ?_;refine ⟨(1,es++[Vd (VC 2)]),⟨(by show 1≤3;decide),ZX hp (by rw [ye];rfl)⟩,(by show 3 - 1<3 - 0;decide),?_⟩;exact (au.cv [⟨100,some 100,0,⟨0,.bl,69,0,es++[Vd (VC 2)]⟩⟩] zm zq)
 ·refine za ?_;refine Ze XX (UD hp zb) (Zd (a:=3) (b:=0) zb zb) (ZW (vf:=(VC 3).2.2) hp zb) rfl rfl rfl rfl rfl rfl rfl ?_;refine za ?_;refine ⟨(2,es++[Vd (VC 3)]),⟨(by show 2≤3;decide),ZX hp (by rw [ye];rfl)⟩,(by show 3 - 2<3 - 1;decide),?_⟩;exact (au.cv [⟨100,some 100,0,⟨0,.bl,69,0,es++[Vd (VC 3)]⟩⟩] zm zq)
 ·refine za ?_;refine Ze XX (UD hp zb) (Zd (a:=4) (b:=0) zb zb) (ZW (vf:=(VC 4).2.2) hp zb) rfl rfl rfl rfl rfl rfl rfl ?_;refine za ?_;refine ⟨(3,es++[Vd (VC 4)]),⟨(by show 3≤3;decide),ZX hp (by rw [ye];rfl)⟩,(by show 3 - 3<3 - 2;decide),?_⟩;exact (au.cv [⟨100,some 100,0,⟨0,.bl,69,0,es++[Vd (VC 4)]⟩⟩] zm zq)
 refine za ?_;refine zC (es:=[[.int .i64 2],[.int .i64 3],[.int .i64 4],[.int .i64 5]]) rfl rfl rfl (by refine zY.int rfl rfl ?_;refine zY.int rfl rfl ?_;refine zY.int rfl rfl ?_;refine zY.int rfl rfl ?_;exact zY.nil) rfl rfl rfl rfl rfl ?_;refine za ?_;refine FW.loop (fun p:Nat×List (List FV)=>⟨[(1,.omap 100 0),(82,.list 1 [[.int .i64 2],[.int .i64 3],[.int .i64 4],[.int .i64 5]]),(83,.int .i64 4),(84,.int .i64 (p.1:Nat))],[(100,⟨0,.bl,69,0,p.2⟩)]⟩) (fun p=>p.1≤4∧p.2.Perm ((UQ++([2,3,4]:List Int).map VC++(([2,3,4,5]:List Int).take p.1).map WZ).map Vd)) (fun p=>4 - p.1) (0,es) ⟨zB _,by simpa using hp⟩ ?_ ?_
 ·exact (au.cv [⟨100,some 100,0,⟨0,.bl,69,0,es⟩⟩] zm zq)
 clear hp es;rintro ⟨i,es⟩ ⟨hi,hp⟩;replace hi:i≤4:=hi;dsimp only at hp;obtain rfl|rfl|rfl|rfl|rfl:i=0∨i=1∨i=2∨i=3∨i=4:=by omega
 ·refine za ?_;refine zX (yp 1 0) (by repeat (first|exact zf.nil|refine zf.cons zd ?_)) rfl rfl ?_;refine za ?_;refine Ze XX (UD hp zb) (Zd (a:=2) (b:=2) zb zb) (ZW (vf:=(WZ 2).2.2) hp zb) rfl rfl rfl rfl rfl rfl rfl ?_;refine za ?_;refine ⟨(1,es++[Vd (WZ 2)]),⟨(by show 1≤4;decide),ZX hp (by rw [ye];rfl)⟩,(by show 4 - 1<4 - 0;decide),?_⟩;exact (au.cv [⟨100,some 100,0,⟨0,.bl,69,0,es++[Vd (WZ 2)]⟩⟩] zm zq)
 ·refine za ?_;refine zX (yp 1 0) (by repeat (first|exact zf.nil|refine zf.cons zd ?_)) rfl rfl ?_;refine za ?_;refine Ze XX (UD hp zb) (Zd (a:=3) (b:=2) zb zb) (ZW (vf:=(WZ 3).2.2) hp zb) rfl rfl rfl rfl rfl rfl rfl ?_;refine za ?_;refine ⟨(2,es++[Vd (WZ 3)]),⟨(by show 2≤4;decide),ZX hp (by rw [ye];rfl)⟩,(by show 4 - 2<4 - 1;decide),?_⟩;exact (au.cv [⟨100,some 100,0,⟨0,.bl,69,0,es++[Vd (WZ 3)]⟩⟩] zm zq)
 ·refine za ?_;refine zX (yp 1 0) (by repeat (first|exact zf.nil|refine zf.cons zd ?_)) rfl rfl ?_;refine za ?_;refine Ze XX (UD hp zb) (Zd (a:=4) (b:=2) zb zb) (ZW (vf:=(WZ 4).2.2) hp zb) rfl rfl rfl rfl rfl rfl rfl ?_;refine za ?_;refine ⟨(3,es++[Vd (WZ 4)]),⟨(by show 3≤4;decide),ZX hp (by rw [ye];rfl)⟩,(by show 4 - 3<4 - 2;decide),?_⟩;exact (au.cv [⟨100,some 100,0,⟨0,.bl,69,0,es++[Vd (WZ 4)]⟩⟩] zm zq)
 ·refine za ?_;refine zX (yp 1 0) (by repeat (first|exact zf.nil|refine zf.cons zd ?_)) rfl rfl ?_;refine za ?_;refine Ze XX (UD hp zb) (Zd (a:=5) (b:=2) zb zb) (ZW (vf:=(WZ 5).2.2) hp zb) rfl rfl rfl rfl rfl rfl rfl ?_;refine za ?_;refine ⟨(4,es++[Vd (WZ 5)]),⟨(by show 4≤4;decide),ZX hp (by rw [ye];rfl)⟩,(by show 4 - 4<4 - 3;decide),?_⟩;exact (au.cv [⟨100,some 100,0,⟨0,.bl,69,0,es++[Vd (WZ 5)]⟩⟩] zm zq)
 refine za ?_;refine FW.le ?_ (au.ka 0 rfl rfl);refine FW.le ?_ (au.dP 0 rfl hp);exact FW.ret ⟨.inl rfl,.sh (.cons (.tmp 0 rfl rfl) .nil) rfl rfl⟩
end
section
open Go.RowKit Go.Maps
section
variable {c:Ctx} {w0 w:World} {J:JJ} {s:ae} {a:Act} {β:Nat→Option Nat}
theorem Da {dst:Option Nat} {ty:TypeId} {g:Option (Nat×Bool)} (hT:(c.ty T).k=.av fs) (hf:fs[i]? = some (off,ft)) (dR:(c.ty ft).k.aX = some false) (x:Operand) {us:List Value} {u:Value}
  (ex:a.eval x=.agg us.toArray) (hu:us[off]? = some u):(execOp a.eval ⟨dst,.field T x i,ty,pos,af,g⟩).run c.P w=.ok (.value u) w:=by
 obtain ⟨d,ii,z,ht⟩:=c.get hT zg;have hd:=ht.k;rw [hT] at hd;obtain ⟨gs,rfl,jf,_⟩:=XH hd;rw [jf,yK] at hf;cases hg:gs.toList[i]? with
 | none => rw [hg] at hf; cases hf
 | some fl =>
  rw [hg] at hf;simp only [xU,yh,xb] at hf;obtain ⟨rfl,rfl⟩:=hf;have kD : gs[i]? = some fl:=by simpa using hg
  have ha:=Xt (c:=c) dR w;simp [execOp,Instr.field,run_underlying ht.u,kD,ex,asAgg,part,ha,hu,Result.andThen]
theorem ax.jx (hT:(c.ty T).k=.av fs) (hf:fs[i]? = some (off,ft)) (dR:(c.ty ft).k.aX = some false) (x:Operand) (ex:s.ev x=.agg cs) (hc:cs[off]? = some f) (hn:f.hand=none):ax c s d (.field T x i) f []:=by
 refine .ext rfl (fun h=>by rcases h with ⟨_,_,_,h⟩|⟨_,_,_,_,h⟩ <;> cases h) fun s' h1 _ w0 J a w β ty pos after g bn hF K' Q hK=>?_;have z7 : s'.ev x=.agg cs:=(h1 x zp).trans ex;have hr:=hF.bg z7 rfl;generalize hx:a.eval x=v at hr;cases hr with
 | agg us fs hl hr =>
  have az:off<us.length:=by rw [hl];exact (yq.1 hc).1
  have hu:us[off]? = some us[off]:=by simp [az]
  have hG:xz c w0 J s' a ⟨some d,.field T x i,ty,pos,after,g⟩ w f []:=.rd hF (Da hT hf dR x hx hu) (hr off _ _ hu hc) hn;exact hG.wp (fun d' h=>by injection h with h;subst h;exact bn) hK
variable {ops:Array Oper} {rest:List Oper} {t:List (Nat×FV)} {ob:List (Nat×zL)} {ty:TypeId} {pos:String} {af:Array Edge} {g:Option (Nat×Bool)} {d:Nat} {tr:List Rec} {Q:ae→Prop} {QD:ae→List Rec→Prop}
theorem uY (hx:(⟨t,ob⟩:ae).ev x=.agg cs) (hT:(c.ty T).k=.av fs) (hf:fs[i]? = some (off,ft)) (dR:(c.ty ft).k.aX = some false) (hc:cs[off]? = some f) (hn:f.hand=none) (hd:Nat.blt d c.N=true)
  (hw:ZC ops ⟨t,ob⟩ ⟨some d,.field T x i,ty,pos,af,g⟩ true) (k:zn c ops rest ⟨(d,f)::t,ob⟩ Q):zn c ops (⟨some d,.field T x i,ty,pos,af,g⟩::rest) ⟨t,ob⟩ Q:=
 zn.cons (f:=f) (wr:=[]) (d:=d) (VD hd (ax.jx hT hf dR x hx hc hn)) hw rfl k
theorem EG (hx:(⟨t,ob⟩:ae).ev x=.agg cs) (hT:(c.ty T).k=.av fs) (hf:fs[i]? = some (off,ft)) (dR:(c.ty ft).k.aX = some false) (hc:cs[off]? = some f) (hn:f.hand=none) (hd:Nat.blt d c.N=true)
  (hw:ZC ops ⟨t,ob⟩ ⟨some d,.field T x i,ty,pos,af,g⟩ true) (k:zI c ops rest ⟨(d,f)::t,ob⟩ (tr++[⟨⟨some d,.field T x i,ty,pos,af,g⟩,f,[],Xa ⟨t,ob⟩ d (.field T x i)⟩]) QD):zI c ops (⟨some d,.field T x i,ty,pos,af,g⟩::rest) ⟨t,ob⟩ tr QD:=
 zI.cons (f:=f) (wr:=[]) (d:=d) (VD hd (ax.jx hT hf dR x hx hc hn)) hw rfl rfl k
end
end
section
open Go.RowKit
theorem qq {α:Type} [Inhabited α] {l:List α} {f:α→Bool}:l.any f=true↔∃ i,i<l.length∧f (nth l i)=true:=by
 rw [Yb];constructor
 ·rintro ⟨x,hx,h⟩;obtain ⟨i,hi,rfl⟩:=yS hx;exact ⟨i,hi,by rw [xI hi];exact h⟩
 ·rintro ⟨i,hi,h⟩;exact ⟨_,yn hi,h⟩
def ly (p:Int→Bool) (l:List Int):Int:=if l.any p=true then (l.findIdx p:Nat) else -1
theorem wO {l:List Int} (az:i<l.length) (h:p (nth l i)=true) (hf:∀ j,j<i→p (nth l j)=false):ly p l=i:=by
 unfold ly;rw [if_pos (qq.2 ⟨i,az,h⟩),(List.findIdx_eq az).2 ⟨by rw [← xI az];exact h,fun j hj=>by rw [← xI (show j<l.length by omega)];exact hf j hj⟩]
theorem wQ {l:List Int} (hf:∀ j,j<l.length→p (nth l j)=false):ly p l = -1:=by
 unfold ly;rw [if_neg];intro h;obtain ⟨j,h1,h2⟩:=qq.1 h;rw [hf j h1] at h2;cases h2
theorem wP {l:List Int}:decide (ly p l≥0)=l.any p:=by
 unfold ly;cases h:l.any p with
 | true => rw [if_pos rfl]; exact decide_eq_true (Xx _)
 | false => rw [if_neg zb]; rfl
theorem UB (l:List Int) (cf:Nat) (aF:List FV) (p:Int→Bool) (hl:l.length≤1000000000) (hp:∀ o∈l,zP Tryz.prog cf ([.int .i64 o]++aF) .fr (.bool (p o))):zP Tryz.prog 120 [.list 1 (l.map yQ),.fn cf aF] .fr (.int .i64 (ly p l)):=by
 refine zj 19 Tryz.func120 Tryz.ntmps120 rfl ?_;change FW _ _ _ ⟨[(0,.list 1 (l.map yQ)),(1,.fn cf aF)],[]⟩;refine za ?_;refine FW.loop (fun i:Nat=>⟨[(0,.list 1 (l.map yQ)),(1,.fn cf aF),(7,.int .i64 l.length),(8,.int .i64 i)],[]⟩) (fun i=>i≤l.length∧∀ j,j<i→p (nth l j)=false) (fun i=>l.length - i) 0 ⟨zB _,fun j hj=>by omega⟩ (au.cv [] Zb zq) ?_;rintro i ⟨hi,hf⟩;refine za ?_;refine FW.cond rfl (fun h=>?_) (fun h=>?_)
 ·have az:i<l.length:=by simpa using h
  clear h;refine za ?_;refine Yk rfl (hp (nth l i) (yn az)) (by repeat (first|exact zf.nil|refine zf.cons zd ?_)) rfl rfl ?_;refine za ?_;refine FW.cond rfl (fun h=>?_) (fun h=>?_)
  ·refine za ?_;exact FW.ret ⟨.inl rfl,zh rfl rfl (congrArg (FV.int .i64) (wO az h hf).symm) rfl⟩
  ·refine za ?_;refine ⟨i+1,⟨by omega,fun j hj=>?_⟩,by omega,(au.cv [] Zb zq)⟩;rcases yJ j i with h1|h1
   ·exact hf j h1
   ·have:j=i:=by omega
    subst this;exact h
 ·obtain rfl:i=l.length:=by simp at h;omega
  refine za ?_;exact FW.ret ⟨.inl rfl,zh rfl rfl (by rw [wQ hf];rfl) rfl⟩
theorem Zq (l:List Int) (cf:Nat) (aF:List FV) (p:Int→Bool) (hl:l.length≤1000000000) (hp:∀ o∈l,zP Tryz.prog cf ([.int .i64 o]++aF) .fr (.bool (p o))):zP Tryz.prog 66 [.list 1 (l.map yQ),.fn cf aF] .fr (.bool (l.any p)):=by
 refine zj 9 Tryz.func66 Tryz.ntmps66 rfl ?_;change FW _ _ _ ⟨[(0,.list 1 (l.map yQ)),(1,.fn cf aF)],[]⟩;refine za ?_;refine zw (UB l cf aF p hl hp) (by repeat (first|exact zf.nil|refine zf.cons zd ?_)) rfl rfl ?_;refine za ?_;exact FW.ret ⟨.inl rfl,zh rfl rfl (congrArg FV.bool wP) rfl⟩
theorem Cu (l:List Int) (v:Int) (hl:l.length≤1000000):zP Tryz.prog 85 [.list 1 (l.map yQ),.int .i64 v] .fr (.int .i64 (ly (fun x=>decide (v=x)) l)):=by
 refine zj 19 Tryz.func85 Tryz.ntmps85 rfl ?_;change FW _ _ _ ⟨[(0,.list 1 (l.map yQ)),(1,.int .i64 v)],[]⟩;refine za ?_;refine FW.loop (fun j:Nat=>⟨[(0,.list 1 (l.map yQ)),(1,.int .i64 v),(4,.int .i64 0),(7,.int .i64 l.length),(8,.int .i64 j)],[]⟩) (fun j=>j≤l.length∧∀ i,i<j→decide (v=nth l i)=false) (fun j=>l.length - j) 0 ⟨zB _,fun j hj=>by omega⟩ (au.cv [] Zb zq) ?_;rintro j ⟨hj,hf⟩;refine za ?_;refine FW.cond rfl (fun h=>?_) (fun h=>?_)
 ·have az:j<l.length:=by simpa using h
  clear h;have tO:=wO (p:=fun x=>decide (v=x)) az;obtain ⟨x,hx⟩:∃ x,nth l j=x:=⟨_,rfl⟩
  rw [hx] at tO;refine za ?_;rw [hx];skip;refine FW.cond rfl (fun h2=>?_) (fun h2=>?_)
  ·refine za ?_;exact FW.ret ⟨.inl rfl,zh rfl rfl (congrArg (FV.int .i64) (tO h2 hf).symm) rfl⟩
  ·refine za ?_;refine ⟨j+1,⟨by omega,fun i hi=>?_⟩,by omega,(au.cv [] Zb zq)⟩;rcases yJ i j with h1|h1
   ·exact hf i h1
   ·have:i=j:=by omega
    subst this;rw [hx];exact h2
 ·obtain rfl:j=l.length:=by simp at h;omega
  refine za ?_;exact FW.ret ⟨.inl rfl,zh rfl rfl (by rw [wQ hf];rfl) rfl⟩
theorem Bw (l:List Int) (v:Int) (hl:l.length≤1000000):zP Tryz.prog 37 [.list 1 (l.map yQ),.int .i64 v] .fr (.bool (l.any fun x=>decide (v=x))):=by
 refine zj 9 Tryz.func37 Tryz.ntmps37 rfl ?_;change FW _ _ _ ⟨[(0,.list 1 (l.map yQ)),(1,.int .i64 v)],[]⟩;refine za ?_;refine zw (Cu l v hl) (by repeat (first|exact zf.nil|refine zf.cons zd ?_)) rfl rfl ?_;refine za ?_;exact FW.ret ⟨.inl rfl,zh rfl rfl (congrArg FV.bool wP) rfl⟩
def jb (k:Int):List Int:=if k=2∨k=5∨k=6 then [0,1] else if k=3∨k=4 then [0,2] else if k=7 then [3,4] else []
def lL (k:Int):FV:=if jb k=[] then .nil else .list 1 ((jb k).map yQ)
theorem Um (k:Int) (h1:1≤k) (h2:k≤8):zP Tryz.prog 19 [.int .i64 k] .sh (lL k):=by
 obtain rfl|rfl|rfl|rfl|rfl|rfl|rfl|rfl:k=1∨k=2∨k=3∨k=4∨k=5∨k=6∨k=7∨k=8:=by omega
 ·change zP Tryz.prog 19 [.int .i64 1] .sh .nil;refine zj 16 Tryz.func19 Tryz.ntmps19 rfl ?_;change FW _ _ _ ⟨[(0,.int .i64 1)],[]⟩;refine za ?_;exact FW.ret ⟨.inl rfl,.sh (.cons (.tmp 2 rfl rfl) .nil) rfl rfl⟩
 ·change zP Tryz.prog 19 [.int .i64 2] .sh (.list 1 [[.int .i64 0],[.int .i64 1]]);refine zj 16 Tryz.func19 Tryz.ntmps19 rfl ?_;change FW _ _ _ ⟨[(0,.int .i64 2)],[]⟩;refine za ?_;refine zC (es:=[[.int .i64 0],[.int .i64 1]]) rfl rfl rfl (by refine zY.int rfl rfl ?_;refine zY.int rfl rfl ?_;exact zY.nil) rfl rfl rfl rfl rfl ?_;refine za ?_;exact FW.ret ⟨.inl rfl,.sh (.cons (.tmp 2 rfl rfl) .nil) rfl rfl⟩
 ·change zP Tryz.prog 19 [.int .i64 3] .sh (.list 1 [[.int .i64 0],[.int .i64 2]]);refine zj 16 Tryz.func19 Tryz.ntmps19 rfl ?_;change FW _ _ _ ⟨[(0,.int .i64 3)],[]⟩;refine za ?_;refine zC (es:=[[.int .i64 0],[.int .i64 2]]) rfl rfl rfl (by refine zY.int rfl rfl ?_;refine zY.int rfl rfl ?_;exact zY.nil) rfl rfl rfl rfl rfl ?_;refine za ?_;exact FW.ret ⟨.inl rfl,.sh (.cons (.tmp 2 rfl rfl) .nil) rfl rfl⟩
 ·change zP Tryz.prog 19 [.int .i64 4] .sh (.list 1 [[.int .i64 0],[.int .i64 2]]);refine zj 16 Tryz.func19 Tryz.ntmps19 rfl ?_;change FW _ _ _ ⟨[(0,.int .i64 4)],[]⟩;refine za ?_;refine zC (es:=[[.int .i64 0],[.int .i64 2]]) rfl rfl rfl (by refine zY.int rfl rfl ?_;refine zY.int rfl rfl ?_;exact zY.nil) rfl rfl rfl rfl rfl ?_;refine za ?_;exact FW.ret ⟨.inl rfl,.sh (.cons (.tmp 2 rfl rfl) .nil) rfl rfl⟩
 ·change zP Tryz.prog 19 [.int .i64 5] .sh (.list 1 [[.int .i64 0],[.int .i64 1]]);refine zj 16 Tryz.func19 Tryz.ntmps19 rfl ?_;change FW _ _ _ ⟨[(0,.int .i64 5)],[]⟩;refine za ?_;refine zC (es:=[[.int .i64 0],[.int .i64 1]]) rfl rfl rfl (by refine zY.int rfl rfl ?_;refine zY.int rfl rfl ?_;exact zY.nil) rfl rfl rfl rfl rfl ?_;refine za ?_;exact FW.ret ⟨.inl rfl,.sh (.cons (.tmp 2 rfl rfl) .nil) rfl rfl⟩
 ·change zP Tryz.prog 19 [.int .i64 6] .sh (.list 1 [[.int .i64 0],[.int .i64 1]]);refine zj 16 Tryz.func19 Tryz.ntmps19 rfl ?_;change FW _ _ _ ⟨[(0,.int .i64 6)],[]⟩;refine za ?_;refine zC (es:=[[.int .i64 0],[.int .i64 1]]) rfl rfl rfl (by refine zY.int rfl rfl ?_;refine zY.int rfl rfl ?_;exact zY.nil) rfl rfl rfl rfl rfl ?_;refine za ?_;exact FW.ret ⟨.inl rfl,.sh (.cons (.tmp 2 rfl rfl) .nil) rfl rfl⟩
 ·change zP Tryz.prog 19 [.int .i64 7] .sh (.list 1 [[.int .i64 3],[.int .i64 4]]);refine zj 16 Tryz.func19 Tryz.ntmps19 rfl ?_;change FW _ _ _ ⟨[(0,.int .i64 7)],[]⟩;refine za ?_;refine zC (es:=[[.int .i64 3],[.int .i64 4]]) rfl rfl rfl (by refine zY.int rfl rfl ?_;refine zY.int rfl rfl ?_;exact zY.nil) rfl rfl rfl rfl rfl ?_;refine za ?_;exact FW.ret ⟨.inl rfl,.sh (.cons (.tmp 2 rfl rfl) .nil) rfl rfl⟩
 ·change zP Tryz.prog 19 [.int .i64 8] .sh .nil;refine zj 16 Tryz.func19 Tryz.ntmps19 rfl ?_;change FW _ _ _ ⟨[(0,.int .i64 8)],[]⟩;refine za ?_;exact FW.ret ⟨.inl rfl,.sh (.cons (.tmp 2 rfl rfl) .nil) rfl rfl⟩
def lD (o:aN):Bool:=decide (o.k=1) || decide (o.k=2) || decide (o.k=3)
def nx (o:aN):Bool:=o.done && (decide (o.k=0) || decide (o.k=2) || decide (o.k=4))
theorem Ws (o:aN):zP Tryz.prog 38 [.agg o.fv] .fr (.bool (lD o)):=by
 obtain ⟨p,k,ke,ar,re,ca,rt,dn⟩:=o;refine zj 16 Tryz.func38 Tryz.ntmps38 rfl ?_;change FW _ _ _ ⟨[(0,.agg (aN.fv ⟨p,k,ke,ar,re,ca,rt,dn⟩))],[]⟩;unfold lD aN.fv;dsimp only;refine za ?_;refine yc (fun h1=>?_) (fun h1=>?_)
 ·rw [h1];refine za ?_;exact FW.ret ⟨.inl rfl,zh rfl rfl rfl rfl⟩
 ·rw [h1];refine za ?_;refine yc (fun h2=>?_) (fun h2=>?_)
  ·rw [h2];refine za ?_;exact FW.ret ⟨.inl rfl,zh rfl rfl rfl rfl⟩
  ·rw [h2];refine za ?_;exact FW.ret ⟨.inl rfl,zh rfl rfl rfl rfl⟩
theorem YR (o:aN):zP Tryz.prog 92 [.agg o.fv] .fr (.bool (nx o)):=by
 obtain ⟨p,k,ke,ar,re,ca,rt,dn⟩:=o;refine zj 20 Tryz.func92 Tryz.ntmps92 rfl ?_;change FW _ _ _ ⟨[(0,.agg (aN.fv ⟨p,k,ke,ar,re,ca,rt,dn⟩))],[]⟩;unfold nx aN.fv;dsimp only;refine za ?_;refine yc (fun h1=>?_) (fun h1=>?_)
 ·subst h1;refine za ?_;refine yc (fun h2=>?_) (fun h2=>?_)
  ·rw [h2];refine za ?_;exact FW.ret ⟨.inl rfl,zh rfl rfl rfl rfl⟩
  ·rw [h2];refine za ?_;refine yc (fun h3=>?_) (fun h3=>?_)
   ·rw [h3];refine za ?_;exact FW.ret ⟨.inl rfl,zh rfl rfl rfl rfl⟩
   ·rw [h3];refine za ?_;exact FW.ret ⟨.inl rfl,zh rfl rfl rfl rfl⟩
 ·subst h1;refine za ?_;exact FW.ret ⟨.inl rfl,zh rfl rfl rfl rfl⟩
end
end Go.Proofs.YtedkppfghdipdaaGreatDoor
