/-
  Lemmas, in parts.
-/
import Derived.Test.YtedkppfghdipdaaDoorZB
import Derived.Test.YtedkppfghdipdaaDoorZC
import Derived.Lib.SliceRun
namespace Go.Proofs.YtedkppfghdipdaaDoor
set_option linter.unusedVariables false
set_option maxHeartbeats 16000000
section
open Go.RowKit
section
variable {c:Ctx} {w0:World} {J:JJ} {ops:Array Oper} {Q:Exit→Act→World→Prop}
theorem UL {s0:ab} {tr:List Rec} (F:(Nat→Bool)→ab→Act→World→Prop) (hlen:tr.length=ops.size) (eA:∀ k,k<ops.size→(tr.getD k default).o=ops.toList.getD k default) (dC:Za ops tr=true)
  (kg:∀ S s s2 a w,(∀ t,s2.get t=s.get t)→(∀ id,s2.ob id=s.ob id)→F S s a w→F S s2 a w)
  (kF:∀ (S:Nat→Bool) (s:ab) (a:Act) (w:World) (i:Nat) (o:Oper),ops[i]? = some o→S i=false→(∀ e∈o.after.toList,Region.binds .any e=true→S e.on=true)→(∀ t∈o.looksAt ops,s.get t=(sig tr s0 (fun _=>true) i).get t)→(∀ id∈(tr.getD i default).ft,s.ob id=(sig tr s0 (fun _=>true) i).ob id)→F S s a w→
   ∀ K:Act→World→Prop,(∀ a' w',F (fun k=>k == i || S k) (s.fG (tr.getD i default)) a' w'→K a' w')→wpOp c.P ops Q i K a w)
  (hQ:∀ S a w,(∀ k,k<ops.size→S k=true)→F S (sig tr s0 (fun _=>true) ops.size) a w→Q .normal a w) :
  ∀ (fuel:Nat) (listed:Array Bool) (a:Act) (w:World),listed.size=ops.size→(∀ i,i<ops.size→listed.getD i false=true→∀ e∈(ops.toList.getD i default).after.toList,Region.binds .any e=true→listed.getD e.on false=true)→
   Uw (fun k=>listed.getD k false) ops.size≤fuel→F (fun k=>listed.getD k false) (sig tr s0 (fun k=>listed.getD k false) ops.size) a w→wpAny c.P .any ops Q fuel listed a w:=by
 unfold Za at dC;rw [zD] at dC;obtain ⟨dp,cC⟩:=dC;have cB : ∀ i,i<ops.size→∀ e∈(ops.toList.getD i default).after.toList,Region.binds .any e=true→e.on<i:=by
  intro i hi e he hb;unfold UI at dp;rw [zC] at dp;have:=dp i (by simpa using hi);rw [zC] at this;have:=this e he;simpa [hb] using this
 have cM : ∀ i,i<ops.size→∀ j,j<i→j∈(fD ops.toList []).getD i []∨yq ops (tr.getD j default) (tr.getD i default)=true:=by
  intro i hi j hj;unfold UJ at cC;rw [zC] at cC;have:=cC i (by simp [hlen];exact hi);rw [zC] at this;have:=this j (by simpa using hj);rw [Bool.or_eq_true] at this;exact this.imp (fun h=>by simpa using h) id
 have eM:∀ (listed:Array Bool) (i:Nat),i<listed.size→listed.getD i true=listed.getD i false:=fun listed i hi=>by simp [hi]
 have fT:∀ (listed:Array Bool) (a:Act) (w:World),(∀ k,k<ops.size→listed.getD k false=true)→F (fun k=>listed.getD k false) (sig tr s0 (fun k=>listed.getD k false) ops.size) a w→Q .normal a w:=by
  intro listed a w bz hF;refine hQ _ a w bz (kg _ _ _ _ _ (fun k=>?_) (fun k=>?_) hF)
  ·rw [ye,ye];exact yg _ _ _ _ _ (fun k hk _=>(bz k hk).symm)
  ·rw [yX,yX];exact yg _ _ _ _ _ (fun k hk _=>(bz k hk).symm)
 have dH:∀ (listed:Array Bool),listed.size=ops.size→Region.ready .any ops listed=[]→∀ k,k<ops.size→listed.getD k false=true:=by
  intro listed aA hr k
  induction k using Nat.strongRecOn with
  | _ k ih=>
   intro hk;cases hl:listed.getD k false with
   | true => rfl
   | false=>
    exfalso;have:k∈Region.ready .any ops listed:=by
     rw [mem_ready];refine ⟨by rw [eM listed k zc];exact hl,ops.toList.getD k default,by simp [hk],fun e he hb=>?_⟩;have aK:=cB k hk e (by simpa using he) hb;exact ih e.on aK zc
    rw [hr] at this;simp at this
 intro fuel
 induction fuel with
 | zero=>
  intro listed a w aA bQ iV hF;have bz:=Xq (S:=fun k=>listed.getD k false) ops.size zc;refine ⟨?_,fT listed a w bz hF⟩;cases hr:Region.ready .any ops listed with
  | nil => rfl
  | cons i l =>
   exfalso;have:i∈Region.ready .any ops listed:=by rw [hr];simp
   rw [mem_ready] at this;obtain ⟨h0,o,ho,_⟩:=this;have hi:i<ops.size:=(yC.1 ho).1;rw [eM listed i zc,bz i hi] at h0;cases h0
 | succ fuel ih=>
  intro listed a w aA bQ iV hF;refine ⟨fun hr=>fT listed a w (dH listed aA hr) hF,fun i hi=>?_⟩;rw [mem_ready] at hi;obtain ⟨h0,o,ho,bz⟩:=hi;have cW:i<ops.size:=(yC.1 ho).1;rw [eM listed i zc] at h0;have je:ops.toList.getD i default=o:=by simp [yj,ho]
  have eB:=eA i cW;rw [je] at eB;have cb : ∀ k,k<ops.size→(k == i || listed.getD k false)=true→∀ e∈(ops.toList.getD k default).after.toList,Region.binds .any e=true→(e.on == i || listed.getD e.on false)=true:=by
   intro k hk hS e he hb;by_cases fe:k=i
   ·subst fe;rw [je] at he;rw [bz e (by simpa using he) hb,YQ]
   ·have:(k == i)=false:=by simpa using fe
    rw [this,yI] at hS;rw [bQ k hk hS e he hb,YQ]
  have iR:∀ j∈(fD ops.toList []).getD i [],(j == i || listed.getD j false)=true:=
   Xl (fun k=>k == i || listed.getD k false) ops.toList [] (fun i hi=>by simp at hi) (fun k hk hS e he hb=>cb k (by simpa using hk) (by simpa using hS) e he hb) (fun k hk e he hb=>by simpa using cB k (by simpa using hk) e he hb) i (by simpa using cW) zd
  have fO:∀ k,listed.getD k false=true→k<ops.size→∀ j∈(fD ops.toList []).getD k [],listed.getD j false=true:=fun k hS hk=>
   Xl (fun k=>listed.getD k false) ops.toList [] (fun i hi=>by simp at hi) (fun k hk hS e he hb=>bQ k (by simpa using hk) (by simpa using hS) e he hb) (fun k hk e he hb=>by simpa using cB k (by simpa using hk) e he hb) k (by simpa using hk) hS
  have iT:∀ k,k<ops.size→∀ j∈(fD ops.toList []).getD k [],j<k∨j=k→True:=fun _ _ _ _ _=>trivial;have cI:∀ k,k<i→yq ops (tr.getD k default) (tr.getD i default)=true∨listed.getD k false=true:=by
   intro k hk;rcases cM i cW k hk with h|h
   ·have:=iR k h;have bK:(k == i)=false:=by simp;omega
    rw [bK,yI] at this;exact .inr this
   ·exact .inl h
  have bB:∀ k,i<k→k<ops.size→listed.getD k false=true→yq ops (tr.getD i default) (tr.getD k default)=true:=by
   intro k hk dG hS;rcases cM k dG i hk with h|h
   ·rw [fO k hS dG i h] at h0;cases h0
   ·exact h
  have e9:∀ {r q:Rec},yq ops r q=true→(∀ d,r.o.dst=some d→d∉q.o.looksAt ops)∧(∀ d,r.o.dst=some d→q.o.dst≠some d)∧(∀ d,q.o.dst=some d→d∉r.o.looksAt ops)∧
    (∀ id,(yE r.wr id).isSome→id∉q.ft∧yE q.wr id=none)∧(∀ id,(yE q.wr id).isSome→id∉r.ft):=by
   intro r q h;unfold yq at h;rw [zD,zD] at h;obtain ⟨⟨h1,h2⟩,h3⟩:=h;obtain ⟨k1,k2,k3⟩:=Oper.apart_spec h1;rw [zC] at h2 h3;refine ⟨k1,k2,k3,fun id hid=>?_,fun id hid=>?_⟩
   ·obtain ⟨p,hp,rfl⟩:=zK.1 (yU hid);have:=h2 p hp;rw [zD] at this;refine ⟨by simpa using this.1,?_⟩;cases hl:yE q.wr p.1 with
    | none => rfl
    | some b =>
     have hm:=yU (l:=q.wr) (id:=p.1) (by rw [hl];rfl);have h4:=this.2;simp only [WD,WF,decide_eq_false_iff_not] at h4;exact absurd hm h4
   ·obtain ⟨p,hp,rfl⟩:=zK.1 (yU hid);have:=h3 p hp;simpa using this
  have cz:∀ t∈(tr.getD i default).o.looksAt ops,(sig tr s0 (fun k=>listed.getD k false) ops.size).get t=(sig tr s0 (fun _=>true) i).get t:=by
   intro t ht;rw [ye,ye];obtain ⟨m,hm⟩:∃ m,ops.size=i+m:=⟨ops.size - i,by omega⟩
   rw [hm,yA _ _ _ i m]
   ·refine yg _ _ _ _ _ (fun k hk hu=>?_);rcases cI k hk with h|h
    ·exfalso;unfold Vm at hu;split at hu
     ·rename_i hd;exact (e9 h).1 t hd ht
     ·simp at hu
    ·exact h
   ·intro k cR dG hS;rcases Xd cR with e|aK
    ·subst e;rw [h0] at hS;cases hS
    ·unfold Vm;rw [if_neg];intro hd;exact (e9 (bB k aK zc hS)).2.2.1 t hd ht
  have fg:∀ id∈(tr.getD i default).ft,(sig tr s0 (fun k=>listed.getD k false) ops.size).ob id=(sig tr s0 (fun _=>true) i).ob id:=by
   intro id hid;rw [yX,yX];obtain ⟨m,hm⟩:∃ m,ops.size=i+m:=⟨ops.size - i,by omega⟩
   rw [hm,yA _ _ _ i m]
   ·refine yg _ _ _ _ _ (fun k hk hu=>?_);rcases cI k hk with h|h
    ·exact absurd hid ((e9 h).2.2.2.1 id hu).1
    ·exact h
   ·intro k cR dG hS;rcases Xd cR with e|aK
    ·subst e;rw [h0] at hS;cases hS
    ·cases hl:yE (tr.getD k default).wr id with
     | none => rfl
     | some b => exact absurd hid ((e9 (bB k aK zc hS)).2.2.2.2 id (by rw [hl]; rfl))
  refine kF _ _ a w i o ho h0 (fun e he hb=>bz e (by simpa using he) hb) (by rw [← eB];exact cz) fg hF _ (fun a' w' eK=>?_);have eQ:∀ k,(listed.setIfInBounds i true).getD k false=(k == i || listed.getD k false):=by
   intro k;by_cases fe:k=i
   ·subst fe;have:k<listed.size:=by omega
    simp [this]
   ·have bK:(k == i)=false:=by simpa using fe
    rw [bK,yI];simp [n2 (fun e=>fe e.symm)]
  have fV:(fun k=>(listed.setIfInBounds i true).getD k false)=(fun k=>k == i || listed.getD k false):=funext eQ;refine ih _ a' w' (by simp [aA]) (fun k hk hS e he hb=>?_) ?_ ?_
  ·rw [eQ] at hS ⊢;exact cb k hk hS e he hb
  ·rw [fV];have:=WO (S:=fun k=>listed.getD k false) h0 ops.size cW;omega
  ·rw [fV];refine kg _ _ _ _ _ (fun t=>?_) (fun id=>?_) eK
   ·rw [Zd,ye,ye];refine Ys _ _ _ i h0 ops.size cW (fun k cR dG hS hu=>?_);cases gx:Vm (tr.getD i default) t with
    | none => rfl
    | some v=>
     exfalso;unfold Vm at hu gx;split at gx
     ·rename_i jJ;split at hu
      ·rename_i ie;exact (e9 (bB k cR dG hS)).2.1 t jJ ie
      ·simp at hu
     ·cases gx
   ·rw [Ym,yX,yX];refine Ys _ _ _ i h0 ops.size cW (fun k cR dG hS hu=>?_);cases gx:yE (tr.getD i default).wr id with
    | none => rfl
    | some v =>
     exfalso;have:=((e9 (bB k cR dG hS)).2.2.2.1 id (by rw [gx];rfl)).2;rw [this] at hu;cases hu
end
section
variable {c:Ctx} {ops:Array Oper} {rest:List Oper} {t:List (Nat×FV)} {ob:List (Nat×zS)} {dst:Option Nat} {ty:TypeId} {pos:String} {af:Array Edge} {gd:Option (Nat×Bool)} {QS:ab→Prop}
end
section
variable {c:Ctx} {w0 w:World} {J:JJ} {s:ab} {a:Act} {β:Nat→Option Nat}
end
section
variable {c:Ctx} {ops:Array Oper} {rest:List Oper} {t:List (Nat×FV)} {ob:List (Nat×zS)} {d:Nat} {ty:TypeId} {pos:String} {af:Array Edge} {gd:Option (Nat×Bool)} {QS:ab→Prop}
end
section
variable {c:Ctx} {ops:Array Oper} {rest:List Oper} {t:List (Nat×FV)} {ob:List (Nat×zS)} {d:Nat} {ty s5:TypeId} {pos qa:String} {af sS:Array Edge} {QS:ab→Prop}
end
section
variable {c:Ctx} {w0 w:World} {J:JJ} {s:ab} {a:Act} {β:Nat→Option Nat} {dst:Option Nat} {ty:TypeId} {pos:String} {after:Array Edge} {g:Option (Nat×Bool)}
end
section
variable {c:Ctx} {ops:Array Oper} {rest:List Oper} {t:List (Nat×FV)} {ob:List (Nat×zS)} {d:Nat} {ty:TypeId} {pos:String} {af:Array Edge} {g:Option (Nat×Bool)} {Q:ab→Prop}
end
section
variable {c:Ctx} {w0 w:World} {J:JJ} {s:ab} {a:Act} {β:Nat→Option Nat} {dst:Option Nat} {ty:TypeId} {pos:String} {after:Array Edge} {g:Option (Nat×Bool)}
end
section
variable {c:Ctx} {ops:Array Oper} {rest:List Oper} {t:List (Nat×FV)} {ob:List (Nat×zS)} {d:Nat} {ty:TypeId} {pos:String} {af:Array Edge} {gd:Option (Nat×Bool)} {QS:ab→Prop}
end
section
variable {c:Ctx} {w0 w:World} {J:JJ} {s:ab} {a:Act} {β:Nat→Option Nat} {dst:Option Nat} {ty:TypeId} {pos:String} {after:Array Edge} {g:Option (Nat×Bool)}
end
section
variable {c:Ctx} {ops:Array Oper} {rest:List Oper} {t:List (Nat×FV)} {ob:List (Nat×zS)} {d:Nat} {ty:TypeId} {pos:String} {af:Array Edge} {gd:Option (Nat×Bool)} {tr:List Rec} {QD:ab→List Rec→Prop}
end
end
section
open Go.RowKit Go.ChangeMaps Go.MapKept
open Go.Maps (Keyed)
section
variable {c:Ctx} {w0 w:World} {J:JJ} {s:ab} {a:Act} {β:Nat→Option Nat} {dst:Option Nat} {ty:TypeId} {pos:String} {after:Array Edge} {g:Option (Nat×Bool)}
end
section
variable {c:Ctx} {ops:Array Oper} {rest:List Oper} {t:List (Nat×FV)} {ob:List (Nat×zS)} {d:Nat} {ty:TypeId} {pos:String} {af:Array Edge} {gd:Option (Nat×Bool)} {tr:List Rec} {QD:ab→List Rec→Prop} {QS:ab→Prop}
end
end
section
open Go.RowKit
section
variable {c:Ctx} {ops:Array Oper} {rest:List Oper} {t:List (Nat×FV)} {ob:List (Nat×zS)} {ty:TypeId} {pos:String} {af:Array Edge} {gd:Option (Nat×Bool)} {QS:ab→Prop}
end
end
end Go.Proofs.YtedkppfghdipdaaDoor
