/-
  Lemmas, in parts.
-/
import Derived.Test.YtedkppfghdipdaaGreatDoorZB
import Derived.Test.YtedkppfghdipdaaGreatDoorZC
import Derived.Lib.SliceRun
namespace Go.Proofs.YtedkppfghdipdaaGreatDoor
set_option linter.unusedVariables false
set_option maxHeartbeats 16000000
open Go.RowKit
variable {ob:List (Nat×yb)} {E T j o sz aa:Nat} {r row:List FV} {f:FV} {x:Operand} {es:List (List FV)} {t:List (Nat×FV)}
section
variable {c:Ctx} {w0:World} {J:JJ} {ops:Array Oper} {Q:Exit→Act→World→Prop}
theorem sj {s0:ab} {tr:List Rec} (F:(Nat→Bool)→ab→Act→World→Prop) (hlen:tr.length=ops.size) (eV:∀ k,k<ops.size→(tr.getD k default).o=ops.toList.getD k default) (df:ZD ops tr=true)
  (k8:∀ S s s2 a w,(∀ t,s2.get t=s.get t)→(∀ id,s2.ob id=s.ob id)→F S s a w→F S s2 a w)
  (lG:∀ (S:Nat→Bool) (s:ab) (a:Act) (w:World) (i:Nat) (o:Oper),ops[i]? = some o→S i=false→(∀ e∈o.after.toList,Region.binds .any e=true→S e.on=true)→(∀ t∈o.looksAt ops,s.get t=(sig tr s0 (fun _=>true) i).get t)→(∀ id∈(tr.getD i default).ft,s.ob id=(sig tr s0 (fun _=>true) i).ob id)→F S s a w→
   ∀ K:Act→World→Prop,(∀ a' w',F (fun k=>k == i || S k) (s.gB (tr.getD i default)) a' w'→K a' w')→wpOp c.P ops Q i K a w)
  (hQ:∀ S a w,(∀ k,k<ops.size→S k=true)→F S (sig tr s0 (fun _=>true) ops.size) a w→Q .normal a w) :
  ∀ (fuel:Nat) (listed:Array Bool) (a:Act) (w:World),listed.size=ops.size→(∀ i,i<ops.size→listed.getD i false=true→∀ e∈(ops.toList.getD i default).after.toList,Region.binds .any e=true→listed.getD e.on false=true)→
   fw (fun k=>listed.getD k false) ops.size≤fuel→F (fun k=>listed.getD k false) (sig tr s0 (fun k=>listed.getD k false) ops.size) a w→wpAny c.P .any ops Q fuel listed a w:=by
 unfold ZD at df;rw [zC] at df;obtain ⟨dE,cJ⟩:=df;have cI : ∀ i,i<ops.size→∀ e∈(ops.toList.getD i default).after.toList,Region.binds .any e=true→e.on<i:=by
  intro i hi e he hb;unfold n3 at dE;rw [zG] at dE;have:=dE i (by simpa using hi);rw [zG] at this;have:=this e he;simpa [hb] using this
 have cV : ∀ i,i<ops.size→∀ j,j<i→j∈(gv ops.toList []).getD i []∨yH ops (tr.getD j default) (tr.getD i default)=true:=by
  intro i hi j hj;unfold n4 at cJ;rw [zG] at cJ;have:=cJ i (by simp [hlen];exact hi);rw [zG] at this;have:=this j (by simpa using hj);rw [Vj] at this;exact this.imp (fun h=>by simpa using h) id
 have ff:∀ (listed:Array Bool) (i:Nat),i<listed.size→listed.getD i true=listed.getD i false:=fun listed i hi=>by simp [hi]
 have gO:∀ (listed:Array Bool) (a:Act) (w:World),(∀ k,k<ops.size→listed.getD k false=true)→F (fun k=>listed.getD k false) (sig tr s0 (fun k=>listed.getD k false) ops.size) a w→Q .normal a w:=by
  intro listed a w bA hF;refine hQ _ a w bA (k8 _ _ _ _ _ (fun k=>?_) (fun k=>?_) hF)
  ·rw [yA,yA];exact yC _ _ _ _ _ (fun k hk _=>(bA k hk).symm)
  ·rw [xm,xm];exact yC _ _ _ _ _ (fun k hk _=>(bA k hk).symm)
 have dZ:∀ (listed:Array Bool),listed.size=ops.size→Region.ready .any ops listed=[]→∀ k,k<ops.size→listed.getD k false=true:=by
  intro listed aF hr k
  induction k using Nat.strongRecOn with
  | _ k ih=>
   intro hk;cases hl:listed.getD k false with
   | true => rfl
   | false=>
    exfalso;have:k∈Region.ready .any ops listed:=by
     rw [mem_ready];refine ⟨by rw [ff listed k zc];exact hl,ops.toList.getD k default,by simp [hk],fun e he hb=>?_⟩;have aM:=cI k hk e (by simpa using he) hb;exact ih e.on aM zc
    rw [hr] at this;simp at this
 intro fuel
 induction fuel with
 | zero=>
  intro listed a w aF cb jN hF;have bA:=XT (S:=fun k=>listed.getD k false) ops.size zc;refine ⟨?_,gO listed a w bA hF⟩;cases hr:Region.ready .any ops listed with
  | nil => rfl
  | cons i l =>
   exfalso;have:i∈Region.ready .any ops listed:=by rw [hr];simp
   rw [mem_ready] at this;obtain ⟨h0,o,ho,_⟩:=this;have hi:i<ops.size:=(yQ.1 ho).1;rw [ff listed i zc,bA i hi] at h0;cases h0
 | succ fuel ih=>
  intro listed a w aF cb jN hF;refine ⟨fun hr=>gO listed a w (dZ listed aF hr) hF,fun i hi=>?_⟩;rw [mem_ready] at hi;obtain ⟨h0,o,ho,bA⟩:=hi;have dc:i<ops.size:=(yQ.1 ho).1;rw [ff listed i zc] at h0;have jV:ops.toList.getD i default=o:=by simp [yE,ho]
  have eW:=eV i dc;rw [jV] at eW;have cr : ∀ k,k<ops.size→(k == i || listed.getD k false)=true→∀ e∈(ops.toList.getD k default).after.toList,Region.binds .any e=true→(e.on == i || listed.getD e.on false)=true:=by
   intro k hk hS e he hb;by_cases fU:k=i
   ·subst fU;rw [jV] at he;rw [bA e (by simpa using he) hb,Xm]
   ·have:(k == i)=false:=by simpa using fU
    rw [this,yU] at hS;rw [cb k hk hS e he hb,Xm]
  have jJ:∀ j∈(gv ops.toList []).getD i [],(j == i || listed.getD j false)=true:=
   XN (fun k=>k == i || listed.getD k false) ops.toList [] (fun i hi=>by simp at hi) (fun k hk hS e he hb=>cr k (by simpa using hk) (by simpa using hS) e he hb) (fun k hk e he hb=>by simpa using cI k (by simpa using hk) e he hb) i (by simpa using dc) zd
  have gJ:∀ k,listed.getD k false=true→k<ops.size→∀ j∈(gv ops.toList []).getD k [],listed.getD j false=true:=fun k hS hk=>
   XN (fun k=>listed.getD k false) ops.toList [] (fun i hi=>by simp at hi) (fun k hk hS e he hb=>cb k (by simpa using hk) (by simpa using hS) e he hb) (fun k hk e he hb=>by simpa using cI k (by simpa using hk) e he hb) k (by simpa using hk) hS
  have jK:∀ k,k<ops.size→∀ j∈(gv ops.toList []).getD k [],j<k∨j=k→True:=fun _ _ _ _ _=>trivial;have cQ:∀ k,k<i→yH ops (tr.getD k default) (tr.getD i default)=true∨listed.getD k false=true:=by
   intro k hk;rcases cV i dc k hk with h|h
   ·have:=jJ k h;have bM:(k == i)=false:=by simp;omega
    rw [bM,yU] at this;exact .inr this
   ·exact .inl h
  have bP:∀ k,i<k→k<ops.size→listed.getD k false=true→yH ops (tr.getD i default) (tr.getD k default)=true:=by
   intro k hk dY hS;rcases cV k dY i hk with h|h
   ·rw [gJ k hS dY i h] at h0;cases h0
   ·exact h
  have fQ:∀ {r q:Rec},yH ops r q=true→(∀ d,r.o.dst=some d→d∉q.o.looksAt ops)∧(∀ d,r.o.dst=some d→q.o.dst≠some d)∧(∀ d,q.o.dst=some d→d∉r.o.looksAt ops)∧
    (∀ id,(yR r.wr id).isSome→id∉q.ft∧yR q.wr id=none)∧(∀ id,(yR q.wr id).isSome→id∉r.ft):=by
   intro r q h;unfold yH at h;rw [zC,zC] at h;obtain ⟨⟨h1,h2⟩,h3⟩:=h;obtain ⟨k1,k2,k3⟩:=Oper.apart_spec h1;rw [zG] at h2 h3;refine ⟨k1,k2,k3,fun id hid=>?_,fun id hid=>?_⟩
   ·obtain ⟨p,hp,rfl⟩:=zM.1 (xi hid);have:=h2 p hp;rw [zC] at this;refine ⟨by simpa using this.1,?_⟩;cases hl:yR q.wr p.1 with
    | none => rfl
    | some b =>
     have hm:=xi (l:=q.wr) (id:=p.1) (by rw [hl];rfl);have h4:=this.2;simp only [Vi,Vk,decide_eq_false_iff_not] at h4;exact absurd hm h4
   ·obtain ⟨p,hp,rfl⟩:=zM.1 (xi hid);have:=h3 p hp;simpa using this
  have cG:∀ t∈(tr.getD i default).o.looksAt ops,(sig tr s0 (fun k=>listed.getD k false) ops.size).get t=(sig tr s0 (fun _=>true) i).get t:=by
   intro t ht;rw [yA,yA];obtain ⟨m,hm⟩:∃ m,ops.size=i+m:=⟨ops.size - i,by omega⟩
   rw [hm,yO _ _ _ i m]
   ·refine yC _ _ _ _ _ (fun k hk hu=>?_);rcases cQ k hk with h|h
    ·exfalso;unfold VQ at hu;split at hu
     ·rename_i hd;exact (fQ h).1 t hd ht
     ·simp at hu
    ·exact h
   ·intro k c0 dY hS;rcases XB c0 with e|aM
    ·subst e;rw [h0] at hS;cases hS
    ·unfold VQ;rw [if_neg];intro hd;exact (fQ (bP k aM zc hS)).2.2.1 t hd ht
  have fW:∀ id∈(tr.getD i default).ft,(sig tr s0 (fun k=>listed.getD k false) ops.size).ob id=(sig tr s0 (fun _=>true) i).ob id:=by
   intro id hid;rw [xm,xm];obtain ⟨m,hm⟩:∃ m,ops.size=i+m:=⟨ops.size - i,by omega⟩
   rw [hm,yO _ _ _ i m]
   ·refine yC _ _ _ _ _ (fun k hk hu=>?_);rcases cQ k hk with h|h
    ·exact absurd hid ((fQ h).2.2.2.1 id hu).1
    ·exact h
   ·intro k c0 dY hS;rcases XB c0 with e|aM
    ·subst e;rw [h0] at hS;cases hS
    ·cases hl:yR (tr.getD k default).wr id with
     | none => rfl
     | some b => exact absurd hid ((fQ (bP k aM zc hS)).2.2.2.2 id (by rw [hl]; rfl))
  refine lG _ _ a w i o ho h0 (fun e he hb=>bA e (by simpa using he) hb) (by rw [← eW];exact cG) fW hF _ (fun a' w' fP=>?_);have fo:∀ k,(listed.setIfInBounds i true).getD k false=(k == i || listed.getD k false):=by
   intro k;by_cases fU:k=i
   ·subst fU;have:k<listed.size:=by omega
    simp [this]
   ·have bM:(k == i)=false:=by simpa using fU
    rw [bM,yU];simp [pT (fun e=>fU e.symm)]
  have gP:(fun k=>(listed.setIfInBounds i true).getD k false)=(fun k=>k == i || listed.getD k false):=funext fo;refine ih _ a' w' (by simp [aF]) (fun k hk hS e he hb=>?_) ?_ ?_
  ·rw [fo] at hS ⊢;exact cr k hk hS e he hb
  ·rw [gP];have:=Vr (S:=fun k=>listed.getD k false) h0 ops.size dc;omega
  ·rw [gP];refine k8 _ _ _ _ _ (fun t=>?_) (fun id=>?_) fP
   ·rw [ZH,yA,yA];refine YO _ _ _ i h0 ops.size dc (fun k c0 dY hS hu=>?_);cases hJ:VQ (tr.getD i default) t with
    | none => rfl
    | some v=>
     exfalso;unfold VQ at hu hJ;split at hJ
     ·rename_i ku;split at hu
      ·rename_i ja;exact (fQ (bP k c0 dY hS)).2.1 t ku ja
      ·simp at hu
     ·cases hJ
   ·rw [YJ,xm,xm];refine YO _ _ _ i h0 ops.size dc (fun k c0 dY hS hu=>?_);cases hJ:yR (tr.getD i default).wr id with
    | none => rfl
    | some v =>
     exfalso;have:=((fQ (bP k c0 dY hS)).2.2.2.1 id (by rw [hJ];rfl)).2;rw [this] at hu;cases hu
end
section
variable {c:Ctx} {ops:Array Oper} {rest:List Oper} {t:List (Nat×FV)} {ob:List (Nat×yb)} {dst:Option Nat} {ty:TypeId} {pos:String} {af:Array Edge} {gd:Option (Nat×Bool)} {QS:ab→Prop}
end
section
variable {c:Ctx} {w0 w:World} {J:JJ} {s:ab} {a:Act} {β:Nat→Option Nat}
end
section
variable {c:Ctx} {ops:Array Oper} {rest:List Oper} {t:List (Nat×FV)} {ob:List (Nat×yb)} {d:Nat} {ty:TypeId} {pos:String} {af:Array Edge} {gd:Option (Nat×Bool)} {QS:ab→Prop}
end
section
variable {c:Ctx} {ops:Array Oper} {rest:List Oper} {t:List (Nat×FV)} {ob:List (Nat×yb)} {d:Nat} {ty wu:TypeId} {pos rW:String} {af vX:Array Edge} {QS:ab→Prop}
end
section
variable {c:Ctx} {w0 w:World} {J:JJ} {s:ab} {a:Act} {β:Nat→Option Nat} {dst:Option Nat} {ty:TypeId} {pos:String} {after:Array Edge} {g:Option (Nat×Bool)}
end
section
variable {c:Ctx} {ops:Array Oper} {rest:List Oper} {t:List (Nat×FV)} {ob:List (Nat×yb)} {d:Nat} {ty:TypeId} {pos:String} {af:Array Edge} {g:Option (Nat×Bool)} {Q:ab→Prop}
end
theorem uP {w:World} {base:Nat} {I I' : Nat→Prop} {ax:Option Nat} {ob:yb} {u:Value} {n:Nat} (hg:WA w ax ob u o n) (hr:kh w base I ax ob) (hb:∀ b,ax=some b→I' b) (hI:∀ b,I b→I' b):Rd w I' u (.list ob.sz ((ob.es.drop o).take n)):=by
 obtain ⟨A,cc,rfl,e2,e3,e4,e5⟩:=hg.ex;have hw:=hr.wide;have bj:=hr.one;have iy:∀ e∈ob.es.drop o,e.length=ob.sz:=fun e he=>hw e (yK he);have hlen:((ob.es.drop o).take n).length=n:=by simp;omega
 have bJ:((ob.es.drop o).take n).flatten=(ob.es.flatten.drop (o * ob.sz)).take (n * ob.sz):=by rw [Za _ iy,xv _ hw]
 have gZ : ∀ f∈((ob.es.drop o).take n).flatten,f.one=true:=fun f hf=>by rw [bJ] at hf;exact bj f (yK (yF hf))
 cases eL:ax with
 | none =>
  obtain ⟨rfl,rfl⟩:=e4 eL;obtain rfl:n=0:=by omega
  exact .list none 0 0 _ _ [] zd (zm _) zd zd zd zd zd
 | some b=>
  obtain ⟨o',rfl,k2,k3⟩:=e5 b eL;obtain ⟨v',us,r1,r2,r3⟩:=hr.row;have hR:az w I' ((us.drop (o * ob.sz)).take (n * ob.sz)) ((ob.es.drop o).take n).flatten:=by
   rw [bJ];exact ((r3.mono fun b hb=>⟨hI b hb,rfl⟩).drop _).take _
  refine .list _ n cc ob.sz _ _ hlen e2 (fun e he=>iy e (yF he)) gZ (fun h0=>⟨b,o',rfl,hb b eL,fun j u hu=>?_⟩) hR.1 hR.2;have:=k2 (.inl zc);subst this;rw [yr] at hu;split at hu
  ·rw [yV] at hu;have aO:=r1.cells (g:=b) (by rw [r2];exact eL) _ u hu;rwa [yD,zR] at aO
  ·cases hu
theorem Ue {α:Type} {sz:Nat}:∀ (es:List (List α)),(∀ e∈es,e.length=sz)→∀ (j o:Nat) row f,es[j]? = some row→row[o]? = some f→es.flatten[j * sz+o]? = some f
 | [], _, j, o, row, f, h, _ => by simp at h
 | e :: es, he, 0, o, row, f, h, hf => by
  simp at h;subst h;have:=(zK.1 hf).1;rw [xy,zR,zS,xo this];exact hf
 | e :: es, he, j+1, o, row, f, h, hf => by
  have h1:=he e zd;have:=Ue es (fun q hq=>he q (by simp [hq])) j o row f (by simpa using h) hf;rw [zS,xL (by rw [h1,zE];omega),h1,show (j+1) * sz+o - sz=j * sz+o by rw [zE];omega];exact this
theorem Uf {α:Type} {sz:Nat}:∀ (es:List (List α)),(∀ e∈es,e.length=sz)→∀ (j o:Nat) row f,es[j]? = some row→o<row.length→(es.set j (row.set o f)).flatten=es.flatten.set (j * sz+o) f
 | [], _, j, o, row, f, h, _ => by simp at h
 | e :: es, he, 0, o, row, f, h, ho => by
  simp at h;subst h;rw [List.set_cons_zero,zS,zS,xy,zR,List.set_append_left _ _ ho]
 | e :: es, he, j+1, o, row, f, h, ho => by
  have h1:=he e zd;have:=Uf es (fun q hq=>he q (by simp [hq])) j o row f (by simpa using h) ho;rw [List.set_cons_succ,zS,zS,this,List.set_append_right _ _ (by rw [h1,zE];omega),h1,show (j+1) * sz+o - sz=j * sz+o by rw [zE];omega]
section
variable {c:Ctx} {w0 w:World} {J:JJ} {s:ab} {a:Act} {β:Nat→Option Nat} {dst:Option Nat} {ty:TypeId} {pos:String} {after:Array Edge} {g:Option (Nat×Bool)}
theorem sA (h:FR c.N w0 J s a w β) (hk:(c.ty T).k.aQ = some false) (x:Operand) {id:Nat} (ex:s.ev x=.ptr id aa j o) (aW:(s.ob id).ag=.aw) (aA:(s.ob id).aa=aa) (hj:(s.ob id).es[j]? = some row) (ho:row[o]? = some f) :
  yy c w0 J s a ⟨dst,.load T x,ty,pos,after,g⟩ w f []:=by
 have ai:(s.ob id).ag≠.dead:=by rw [aW];decide
 obtain ⟨_,b,hb,hv⟩:=h.bL ex ai aA;obtain ⟨cur,cap,aR,hn,hm,aY,hl,hr⟩:=h.eg aW hb;have hH:=(h.obj id ai).eH (by rw [aW];rfl) (by rw [aW];rfl);have hw:=hH.wide;have ir:=(zK.1 hj).1;have jS:=Ue _ hw j o row f hj ho;obtain ⟨p,hp⟩:∃ p,j * (s.ob id).sz+o=p:=⟨_,rfl⟩
 rw [hp] at jS hv;have ri:p<(s.ob id).es.length * (s.ob id).sz:=by have:=(zK.1 jS).1;rwa [yq hw] at this
 have nv:p<cur.size:=by
  have:(s.ob id).es.length * (s.ob id).sz≤cap * (s.ob id).sz:=Zt _ hn;omega
 have hu:(cur.toList.take ((s.ob id).es.length * (s.ob id).sz))[p]? = some cur[p]:=by
  rw [yr,if_pos ri];simp [nv]
 have aO:w.cell? ⟨b,p,none⟩=some cur[p]:=by
  have:=cell_of_row w b p cur (s.ob id).E (0,0) aR;rw [this];simp [nv]
 refine .pure h (v:=cur[p]) ?_ (hr p _ f hu jS) (fun aN bo e=>hH.cm f (zH jS) aN bo e);have:(loadVar T ⟨b,p,none⟩).run c.P w=.ok cur[p] w:=by simp [loadVar,ZI hk,load,Sem.run,aO]
 simp [execOp,Instr.loadAt,hv,Instr.sureAddr,this]
theorem Uq (h:FR c.N w0 J s a w β) (hk:(c.ty T).k≠.other) (hz:(c.ty T).size=1) (x y:Operand) {id:Nat} (ex:s.ev x=.ptr id aa j o) (aW:(s.ob id).ag=.aw) (aA:(s.ob id).aa=aa) {iO:List FV} (ey:s.ev y=f)
  (hf:UV s f) (hj:(s.ob id).es[j]? = some iO) (ho:o<iO.length) :
  ∃ w',(execOp a.eval ⟨dst,.store T x y,ty,pos,after,g⟩).run c.P w=.ok .skip w'∧FR c.N w0 J (s.wr [(id,{ s.ob id with es:=(s.ob id).es.set j (iO.set o f) })]) a w' β:=by
 have ai:(s.ob id).ag≠.dead:=by rw [aW];decide
 obtain ⟨_,b,hb,jt⟩:=h.bL ex ai aA;obtain ⟨cur,cap,aR,hn,hm,aY,hl,hr⟩:=h.eg aW hb;have hH:=(h.obj id ai).eH (by rw [aW];rfl) (by rw [aW];rfl);have hw:=hH.wide;obtain ⟨eS,fR⟩:=UV.val h ey hf;have hU:=h.ev y;have dV:∀ aN bo,(aN,bo)∈f.hands→bo≤(s.ob aN).aa:=fun aN bo e=>h.cj y (by rw [ey];exact e);rw [ey] at hU;generalize hy:a.eval y=v at eS fR hU;obtain ⟨p,hp⟩:∃ p,j * (s.ob id).sz+o=p:=⟨_,rfl⟩
 have ir:=(zK.1 hj).1;have a9:iO.length=(s.ob id).sz:=hw _ (zH hj);have fH:p<(s.ob id).es.length * (s.ob id).sz:=by
  have:(j+1) * (s.ob id).sz≤(s.ob id).es.length * (s.ob id).sz:=Zt _ ir;rw [zE,Zu] at this;omega
 have nv:p<cur.size:=by
  have:(s.ob id).es.length * (s.ob id).sz≤cap * (s.ob id).sz:=Zt _ hn;omega
 rw [hp] at jt;have bF:=run_storeCells_at c.P b p (s.ob id).E [v] 0 cur w aR zV (by simpa using fR);simp only [xN] at bF;have ky:p<cur.toList.length:=by simp;omega
 obtain ⟨W,hW⟩:∃ W,W=w.setRow b (ah cur.toList p [v]).toArray:=⟨_,rfl⟩
 have fC:W.heap[b]? = some (.cells (cur.toList.set p v).toArray (s.ob id).E (0,0)):=by rw [hW,Vd v ky];exact yj w b _ cur _ aR
 have hg:w.grownBy W (some b):=by
  subst hW;exact ⟨rfl,rfl,rfl,by simp [World.setRow],fun k hk bM=>yB w b k _ (fun e=>bM (by rw [e]))⟩
 have aM:=(h.obj id ai).lt hb;refine ⟨W,?_,?_⟩
 ·have hs:=yl (c:=c) hk w;have g9 : (storeCells ⟨b,p,none⟩ [v]).run c.P w=.ok () W:=by rw [hW];exact bF
  simp [execOp,Instr.storeAt,storeVar,jt,hy,Instr.sureAddr,hs,hz,eS,g9]
 ·have bE:∀ k,(s.wr [(id,{ s.ob id with es:=(s.ob id).es.set j (iO.set o f) })]).ob k=if id=k then { s.ob id with es:=(s.ob id).es.set j (iO.set o f) } else s.ob k:=fun k=>ab.ao s id _ k
  have hI:∀ b',aK J w β s b'→aK J W β (s.wr [(id,{ s.ob id with es:=(s.ob id).es.set j (iO.set o f) })]) b'∧W.heap[b']? = w.heap[b']?:=fun b' aE=>by
   refine ⟨⟨xO aE.1 hg.size,aE.2.1,fun aN bf=>?_⟩,hg.block b' aE.1 (fun e=>aE.2.2 id (by rw [aW];rfl) (by rw [hb];exact e.symm))⟩;rw [bE] at bf;split at bf
   ·rename_i e;subst e;exact aE.2.2 id (by rw [aW];rfl)
   ·exact aE.2.2 aN bf
  refine h.step (C:=fun k=>k=id) h.size h.defers (h.bN.grown hg h.bN.size (fun k hk=>by injection hk with hk;subst hk;exact aM.1)) hI (fun k=>.inl ⟨rfl,rfl⟩) (fun k hC=>?_) (fun k hC=>?_) (fun k hC bc nG=>?_) (fun k hC bc T'=>?_) ?_ (fun b' gV hn=>⟨hg.block b' gV (fun e=>hn id ai (by rw [hb];exact e.symm)),fun k bc=>hn k (by rw [bE] at bc;split at bc;(· rename_i e;subst e;exact ai);(· exact bc))⟩)
  ·refine ⟨by rw [bE,if_neg (fun e=>hC e.symm)],rfl,fun bc b' aE=>hg.block b' ((h.obj k bc).lt aE).2 (fun e=>hC (h.inj k id b' bc ai aE (by rw [hb];exact e.symm)))⟩
  ·subst hC;rw [bE,if_pos rfl];exact zm _
  ·subst hC;refine ⟨ai,rfl,by rw [bE,if_pos rfl],by rw [bE,if_pos rfl],fun v2 o n hL=>?_⟩;rw [bE,if_pos rfl];obtain ⟨A,cc,q1,q2,q3,q4,q5⟩:=hL.ex;refine ⟨hL.row,A,cc,q1,q2,by simpa using q3,q4,fun b2 aE=>?_⟩;obtain ⟨o',k1,k2,k3⟩:=q5 b2 aE;refine ⟨o',k1,k2,fun dT dw=>?_⟩;rw [hb] at aE;injection aE with aE
   subst aE;dsimp only at dw;rw [fC] at dw;injection dw with dw
   injection dw with dw _ _
   rw [← dw];have:=k3 cur aR;simpa using this
  ·subst hC;rw [bE,if_pos rfl];have dK:∀ aN,(s.ob aN).aa≤((s.wr [(k,{ s.ob k with es:=(s.ob k).es.set j (iO.set o f) })]).ob aN).aa:=fun aN=>by
    rw [bE];split
    ·rename_i e;subst e;exact zm _
    ·exact zm _
   have bJ:=Uf _ hw j o iO f hj ho;rw [hp] at bJ;have jQ:(s.ob k).es.flatten.length=(s.ob k).es.length * (s.ob k).sz:=yq hw;refine .lK ⟨fun e he=>?_,fun f' bw aN bo e=>?_,.slice (some ⟨b,0,none⟩) (s.ob k).es.length cap,(cur.toList.take ((s.ob k).es.length * (s.ob k).sz)).set p v,?_,by rw [hb];rfl,?_,fun i u f' hu bw=>?_⟩ aW
   ·rcases ZN he with h'|h'
    ·exact hw e h'
    ·subst h';rw [ym];exact a9
   ·dsimp only at bw;rw [bJ] at bw;refine yZ ?_ (dK aN);rcases ZN bw with h'|h'
    ·exact hH.cm f' h' aN bo e
    ·subst h';exact dV aN bo e
   ·simp only [ym];refine ⟨by rw [ym,hl,jQ],.inr ⟨b,cap,_,rfl,aM.1,fC,hn,hm,by simpa using aY,?_⟩⟩;simp only [List.take_set]
   ·dsimp only;rw [ym,hl,bJ,ym]
   ·dsimp only at bw;rw [bJ] at bw;rw [Xr] at hu bw;by_cases im:p=i
    ·subst im;rw [if_pos rfl] at hu bw;split at hu
     ·split at bw
      ·injection hu with hu
       injection bw with bw
       subst hu;subst bw;exact T' _ _ hU dV
      ·cases bw
     ·cases hu
    ·rw [if_neg im] at hu bw;exact T' _ _ (hr i u f' hu bw) (hH.cm f' (zH bw))
  ·intro k k' b' bc cu e e';refine h.inj k k' b' ?_ ?_ e e'
   ·rw [bE] at bc;split at bc
    ·rename_i e;subst e;exact ai
    ·exact bc
   ·rw [bE] at cu;split at cu
    ·rename_i e;subst e;exact ai
    ·exact cu
end
section
variable {c:Ctx} {ops:Array Oper} {rest:List Oper} {t:List (Nat×FV)} {ob:List (Nat×yb)} {d:Nat} {ty:TypeId} {pos:String} {af:Array Edge} {gd:Option (Nat×Bool)} {QS:ab→Prop}
end
section
variable {c:Ctx} {w0 w:World} {J:JJ} {s:ab} {a:Act} {β:Nat→Option Nat} {dst:Option Nat} {ty:TypeId} {pos:String} {after:Array Edge} {g:Option (Nat×Bool)}
end
section
variable {c:Ctx} {ops:Array Oper} {rest:List Oper} {t:List (Nat×FV)} {ob:List (Nat×yb)} {d:Nat} {ty:TypeId} {pos:String} {af:Array Edge} {gd:Option (Nat×Bool)} {tr:List Rec} {QD:ab→List Rec→Prop}
theorem u3 {op:Op} {wr:List (Nat×yb)} (bF:YX op=false) (cU:¬ Vg op) (hd:Nat.blt d c.N=true) (hw:xk ops ⟨t,ob⟩ (⟨some d,op,ty,pos,af,gd⟩:Oper) true)
  (hg:∀ s' : ab,(∀ x∈op.operands.toList,s'.ev x=(⟨t,ob⟩:ab).ev x)→(∀ id∈Zr ⟨t,ob⟩ d op,s'.ob id=(⟨t,ob⟩:ab).ob id)→∀ (w0:World) (J:JJ) (a:Act) (w:World) (β:Nat→Option Nat) (ty:TypeId) (pos:String) (after:Array Edge) (g:Option (Nat×Bool)),
   FR c.N w0 J s' a w β→yy c w0 J s' a ⟨some d,op,ty,pos,after,g⟩ w f wr)
  (k:zB c ops rest (((⟨t,ob⟩:ab).wr wr).put d f) (tr++[⟨(⟨some d,op,ty,pos,af,gd⟩:Oper),f,wr,Zr ⟨t,ob⟩ d op⟩]) QD):zB c ops ((⟨some d,op,ty,pos,af,gd⟩:Oper)::rest) ⟨t,ob⟩ tr QD:=
 zB.cons (f:=f) (wr:=wr) (d:=d) ⟨.inl rfl,(fun _ e=>by injection e with e;subst e;exact yn hd),.ext bF cU fun s' h1 h2 w0 J a w β ty pos after g aZ hF K Q hK=>
  yy.wp (hg s' h1 h2 w0 J a w β ty pos after g hF) (fun d' e=>by injection e with e;subst e;exact aZ) hK⟩ hw rfl rfl k
theorem uY:¬ Vg (.load T x):=by rintro (⟨_,_,_,e⟩|⟨_,_,_,_,e⟩) <;> cases e
theorem UE {id:Nat} (hx:(⟨t,ob⟩:ab).ev x=.ptr id aa j o) (hk:(c.ty T).k.aQ = some false) (hb:(⟨t,ob⟩:ab).ob id=⟨aa,.aw,E,sz,es⟩) (hj:es[j]? = some row) (ho:row[o]? = some f) (hd:Nat.blt d c.N=true) (hw:xk ops ⟨t,ob⟩ (⟨some d,.load T x,ty,pos,af,gd⟩:Oper) true)
  (k:zB c ops rest ⟨(d,f)::t,ob⟩ (tr++[⟨(⟨some d,.load T x,ty,pos,af,gd⟩:Oper),f,[],Zr ⟨t,ob⟩ d (.load T x)⟩]) QD):zB c ops ((⟨some d,.load T x,ty,pos,af,gd⟩:Oper)::rest) ⟨t,ob⟩ tr QD:=
 u3 (wr:=[]) rfl uY hd hw (fun s' h1 h2 w0 J a w β ty pos after g hF=>by
  have e1:=(h1 x zf).trans hx;have e2:=(h2 id (XG (x:=x) rfl zf (by rw [hx];rfl))).trans hb;exact sA hF hk x e1 (by rw [e2]) (by rw [e2]) (by rw [e2];exact hj) ho) k
theorem WX {id:Nat} {y:Operand} (hx:(⟨t,ob⟩:ab).ev x=.ptr id aa j o) (hy:(⟨t,ob⟩:ab).ev y=f) (hf:∃ i v n,f=.own i v 0 n) (bF:(⟨t,ob⟩:ab).live id aa) (bJ:∀ i v n,f=.own i v 0 n→(⟨t,ob⟩:ab).live i v) (hk:(c.ty T).k.known=true) (hz:(c.ty T).size=1) (hb:(⟨t,ob⟩:ab).ob id=⟨aa,.aw,E,sz,es⟩) (hj:es[j]? = some row) (ho:o<row.length) (hd:Nat.blt d c.N=true) (hw:xk ops ⟨t,ob⟩ (⟨none,.store T x y,ty,pos,af,gd⟩:Oper) true)
  (k:zB c ops rest ⟨t,(id,⟨aa,.aw,E,sz,es.set j (row.set o f)⟩)::ob⟩ (tr++[⟨(⟨none,.store T x y,ty,pos,af,gd⟩:Oper),.undef,[(id,⟨aa,.aw,E,sz,es.set j (row.set o f)⟩)],Zr ⟨t,ob⟩ d (.store T x y)⟩]) QD):zB c ops ((⟨none,.store T x y,ty,pos,af,gd⟩:Oper)::rest) ⟨t,ob⟩ tr QD:=by
 refine zB.cons (f:=.undef) (wr:=[(id,⟨aa,.aw,E,sz,es.set j (row.set o f)⟩)]) (d:=d) ⟨.inr ⟨rfl,.inl ⟨_,_,_,rfl⟩⟩,(fun _ e=>by cases e),.fN rfl (.inl ⟨_,_,_,rfl⟩) fun s' h1 h2 w0 J a w β dst ty pos after g hF=>?_⟩ hw rfl rfl k;have e1:=(h1 x zf).trans hx;have e2:=(h1 y zf).trans hy;have m1:id∈Zr ⟨t,ob⟩ d (.store T x y):=XG (x:=x) rfl zf (aa:=aa) (by rw [hx];rfl);have e3:=(h2 id m1).trans hb;obtain ⟨i,v,n,rfl⟩:=hf;have m2:i∈Zr ⟨t,ob⟩ d (.store T x y):=XG (x:=y) rfl zf (aa:=v) (by rw [hy];rfl);have bc:s'.live i v:=by
  have:=bJ i v n rfl;unfold ab.live at this ⊢;rw [h2 i m2];exact this
 have:=Uq (dst:=dst) (ty:=ty) (pos:=pos) (after:=after) (g:=g) hF (TK.aD hk) hz x y e1 (by rw [e3]) (by rw [e3]) e2 (.inr (.inl ⟨_,_,_,_,rfl,bc⟩)) (by rw [e3];exact hj) ho;rw [e3] at this;exact this
end
theorem aC.kT (id k p:Nat) {w q E2 v:Nat} (hid:id≠k) (hq:r.length=q) (h:look {} ob id=⟨w,.aw,E2,q,[r]⟩) (hp:r[p]? = some (.own k v 0 es.length)) (bj:∀ i f,r[i]? = some f→i≠p→f.one=true)
  (hf:look {} ob k=⟨v,.own,E,sz,es⟩):aC ⟨t,ob⟩ ⟨t,(id,⟨w,.own,E2,q,[r.set p (.list sz es)]⟩)::(k,⟨v,.dead,E,sz,es⟩)::ob⟩:=by
 intro N w0 J a wd β hF;refine ⟨β,?_⟩;have ho:(⟨t,ob⟩:ab).ob id=⟨w,.aw,E2,q,[r]⟩:=h;have df:(⟨t,ob⟩:ab).ob k=⟨v,.own,E,sz,es⟩:=hf;have ai:((⟨t,ob⟩:ab).ob id).ag≠.dead:=by rw [ho];exact (by decide:yT.aw≠.dead)
 have jg:((⟨t,ob⟩:ab).ob k).ag≠.dead:=by rw [df];exact (by decide:yT.own≠.dead)
 obtain ⟨s',jn⟩:∃ s' : ab,s'=⟨t,(id,⟨w,.own,E2,q,[r.set p (.list sz es)]⟩)::(k,⟨v,.dead,E,sz,es⟩)::ob⟩:=⟨_,rfl⟩
 rw [← jn];have bE:∀ i,s'.ob i=if id=i then ⟨w,.own,E2,q,[r.set p (.list sz es)]⟩ else if k=i then ⟨v,.dead,E,sz,es⟩ else (⟨t,ob⟩:ab).ob i:=fun i=>by
  rw [jn];show look ({}:yb) _ i=_;rw [zA,zA];split
  ·rfl
  ·split <;> rfl
 have cK:∀ i,(s'.ob i).ag≠.dead→((⟨t,ob⟩:ab).ob i).ag≠.dead:=fun i hl=>by
  rw [bE] at hl;split at hl
  ·rename_i e;subst e;exact ai
  ·split at hl
   ·exact absurd rfl hl
   ·exact hl
 have lq:∀ i,(s'.ob i).ag.eD=true→((⟨t,ob⟩:ab).ob i).ag.eD=true:=fun i hl=>by
  rw [bE] at hl;split at hl
  ·rename_i e;subst e;rw [ho];rfl
  ·split at hl
   ·cases hl
   ·exact hl
 have hI:∀ b,aK J wd β ⟨t,ob⟩ b→aK J wd β s' b:=fun b hb=>⟨hb.1,hb.2.1,fun i hl=>hb.2.2 i (lq i hl)⟩
 have aA:∀ i,(s'.ob i).aa=((⟨t,ob⟩:ab).ob i).aa:=fun i=>by
  rw [bE];split
  ·rename_i e;subst e;rw [ho]
  ·split
   ·rename_i e;subst e;rw [df]
   ·rfl
 refine hF.step (C:=fun i=>i=id∨i=k) hF.size hF.defers hF.bN (fun b hb=>⟨hI b hb,rfl⟩) (fun i=>.inl ⟨rfl,by rw [jn];rfl⟩) (fun i hC=>?_) (fun i _=>Nat.le_of_eq (aA i).symm) (fun i hC hl _=>?_) (fun i hC hl T=>?_) (fun i i' b hl bf e e'=>hF.inj i i' b (cK i hl) (cK i' bf) e e') (fun b _ hn=>⟨rfl,fun i hl=>hn i (cK i hl)⟩)
 ·refine ⟨?_,rfl,fun _ _ _=>rfl⟩;rw [bE,if_neg (fun e=>hC (.inl e.symm)),if_neg (fun e=>hC (.inr e.symm))]
 ·rcases hC with rfl|rfl
  ·refine ⟨ai,rfl,by rw [bE,if_pos rfl,ho],by rw [bE,if_pos rfl,ho];rfl,fun v o m hv=>?_⟩;rw [ho] at hv;obtain ⟨A,c,k1,k2,k3,k4,k5⟩:=hv.ex;rw [bE,if_pos rfl];exact ⟨rfl,A,c,k1,k2,by simpa using k3,k4,k5⟩
  ·exfalso;rw [bE,if_neg hid,if_pos rfl] at hl;exact hl rfl
 ·rcases hC with rfl|rfl
  ·rw [bE,if_pos rfl];have hH:=(hF.obj i ai).eH (by rw [ho];rfl) (by rw [ho];rfl);rw [ho] at hH;obtain ⟨v1,us,r1,r2,r3,r4⟩:=hH.row;dsimp only at r1 r3 r4;rw [show ([r]:List (List FV)).flatten=r by simp] at r3 r4;refine .ofRow ⟨fun e he=>?_,fun f bw=>?_,v1,us,?_,r2,?_,fun j u f hu e6=>?_⟩ (.own rfl) rfl
   ·rw [yg.1 he,ym];exact hq
   ·dsimp only at bw;rw [show ([r.set p (.list sz es)]:List (List FV)).flatten=r.set p (.list sz es) by simp] at bw;obtain ⟨j,hj,rfl⟩:=yu bw;rw [ym] at hj;rw [Vm];split
    ·rfl
    ·rename_i bM;exact bj j _ (by simp [hj]) fun e=>bM e.symm
   ·exact r1
   ·dsimp only;rw [show ([r.set p (.list sz es)]:List (List FV)).flatten=r.set p (.list sz es) by simp,ym];exact r3
   ·dsimp only at e6;rw [show ([r.set p (.list sz es)]:List (List FV)).flatten=r.set p (.list sz es) by simp,Xr] at e6;by_cases m8:p=j
    ·subst m8;rw [if_pos rfl] at e6;have fH:p<r.length:=(zK.1 hp).1;rw [if_pos fH] at e6;injection e6 with e6
     subst e6;have hv:=r4 p u _ hu hp;have rh:=hv jg (by rw [df]);have hO:=hF.obj k jg;have iw:=hO.bl (by rw [df];rfl);have:=uP (I':=aK J wd β s') rh iw (fun b hb=>?_) hI
     ·rw [df] at this;dsimp only at this;rwa [Xp,ZO] at this
     ·have aM:=hO.lt hb;refine ⟨aM.2,hF.fresh b aM.1 (.inr ⟨_,jg,hb⟩),fun k' bf e=>?_⟩;have:=hF.inj k k' b jg (cK k' (yT.bg bf)) hb e;subst this;rw [bE,if_neg hid,if_pos rfl] at bf;cases bf
    ·rw [if_neg m8] at e6;have hv:=r4 j u f hu e6;have h1:=bj j f e6 fun e=>m8 e.symm;have hn:f.hand=none:=by cases f <;> first|rfl|(simp [FV.one] at h1)
     exact (VR.rd hv hn).mono fun b hb=>⟨hI b hb,rfl⟩
  ·exfalso;rw [bE,if_neg hid,if_pos rfl] at hl;exact hl rfl
theorem aC.e9 (id k p:Nat) {w q E2 v:Nat} (hid:id≠k) (hq:r.length=q) (h:look {} ob id=⟨w,.aw,E2,q,[r]⟩) (hp:r[p]? = some (.own k v 0 es.length)) (bj:(r.set p (.bool true)).all FV.one=true)
  (hf:look {} ob k=⟨v,.own,E,sz,es⟩):aC ⟨t,ob⟩ ⟨t,(id,⟨w,.own,E2,q,[r.set p (.list sz es)]⟩)::(k,⟨v,.dead,E,sz,es⟩)::ob⟩:=
 aC.kT id k p hid hq h hp (fun i f hi bM=>zG.1 bj f (zH (i:=i) (by rw [List.getElem?_set_ne (fun e=>bM e.symm)];exact hi))) hf
end Go.Proofs.YtedkppfghdipdaaGreatDoor
