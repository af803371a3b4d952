/-
  Lemmas, in parts.
-/
import Derived.Test.YtedkppfghdipdaaGreatDoorZB
import Derived.Test.YtedkppfghdipdaaGreatDoorZC
import Derived.Lib.SliceRun
namespace Go.Proofs.YtedkppfghdipdaaGreatDoor
set_option linter.unusedVariables false
set_option maxHeartbeats 16000000
section
open Go.RowKit
section
variable {c:Ctx} {w0:World} {J:JJ} {ops:Array Oper} {Q:Exit→Act→World→Prop}
theorem Cc {s0:ab} {tr:List Rec} (F:(Nat→Bool)→ab→Act→World→Prop) (hlen:tr.length=ops.size) (gi:∀ k,k<ops.size→(tr.getD k default).o=ops.toList.getD k default) (cW:Ym ops tr=true)
  (nM:∀ S s s2 a w,(∀ t,s2.get t=s.get t)→(∀ id,s2.ob id=s.ob id)→F S s a w→F S s2 a w)
  (aM:∀ (S:Nat→Bool) (s:ab) (a:Act) (w:World) (i:Nat) (o:Oper),ops[i]? = some o→S i=false→(∀ e∈o.after.toList,Region.binds .any e=true→S e.on=true)→(∀ t∈o.looksAt ops,s.get t=(sig tr s0 (fun _=>true) i).get t)→(∀ id∈(tr.getD i default).ft,s.ob id=(sig tr s0 (fun _=>true) i).ob id)→F S s a w→
   ∀ K:Act→World→Prop,(∀ a' w',F (fun k=>k == i || S k) (s.je (tr.getD i default)) a' w'→K a' w')→wpOp c.P ops Q i K a w)
  (hQ:∀ S a w,(∀ k,k<ops.size→S k=true)→F S (sig tr s0 (fun _=>true) ops.size) a w→Q .normal a w) :
  ∀ (fuel:Nat) (listed:Array Bool) (a:Act) (w:World),listed.size=ops.size→(∀ i,i<ops.size→listed.getD i false=true→∀ e∈(ops.toList.getD i default).after.toList,Region.binds .any e=true→listed.getD e.on false=true)→
   gZ (fun k=>listed.getD k false) ops.size≤fuel→F (fun k=>listed.getD k false) (sig tr s0 (fun k=>listed.getD k false) ops.size) a w→wpAny c.P .any ops Q fuel listed a w:=by
 unfold Ym at cW;rw [zA] at cW;obtain ⟨et,dg⟩:=cW;have dc : ∀ i,i<ops.size→∀ e∈(ops.toList.getD i default).after.toList,Region.binds .any e=true→e.on<i:=by
  intro i hi e he hb;unfold rS at et;rw [zI] at et;have:=et i (by simpa using hi);rw [zI] at this;have:=this e he;simpa [hb] using this
 have dA : ∀ i,i<ops.size→∀ j,j<i→j∈(iZ ops.toList []).getD i []∨yS ops (tr.getD j default) (tr.getD i default)=true:=by
  intro i hi j hj;unfold rT at dg;rw [zI] at dg;have:=dg i (by simp [hlen];exact hi);rw [zI] at this;have:=this j (by simpa using hj);rw [ZG] at this;exact this.imp (fun h=>by simpa using h) id
 have gO:∀ (listed:Array Bool) (i:Nat),i<listed.size→listed.getD i true=listed.getD i false:=fun listed i hi=>by simp [hi]
 have jz:∀ (listed:Array Bool) (a:Act) (w:World),(∀ k,k<ops.size→listed.getD k false=true)→F (fun k=>listed.getD k false) (sig tr s0 (fun k=>listed.getD k false) ops.size) a w→Q .normal a w:=by
  intro listed a w bG hF;refine hQ _ a w bG (nM _ _ _ _ _ (fun k=>?_) (fun k=>?_) hF)
  ·rw [yI,yI];exact yJ _ _ _ _ _ (fun k hk _=>(bG k hk).symm)
  ·rw [xM,xM];exact yJ _ _ _ _ _ (fun k hk _=>(bG k hk).symm)
 have eT:∀ (listed:Array Bool),listed.size=ops.size→Region.ready .any ops listed=[]→∀ k,k<ops.size→listed.getD k false=true:=by
  intro listed az hr k
  induction k using Nat.strongRecOn with
  | _ k ih=>
   intro hk;cases hl:listed.getD k false with
   | true => rfl
   | false=>
    exfalso;have:k∈Region.ready .any ops listed:=by
     rw [mem_ready];refine ⟨by rw [gO listed k za];exact hl,ops.toList.getD k default,by simp [hk],fun e he hb=>?_⟩;have aD:=dc k hk e (by simpa using he) hb;exact ih e.on aD za
    rw [hr] at this;simp at this
 intro fuel
 induction fuel with
 | zero=>
  intro listed a w az cq l6 hF;have bG:=WY (S:=fun k=>listed.getD k false) ops.size za;refine ⟨?_,jz listed a w bG hF⟩;cases hr:Region.ready .any ops listed with
  | nil => rfl
  | cons i l =>
   exfalso;have:i∈Region.ready .any ops listed:=by rw [hr];simp
   rw [mem_ready] at this;obtain ⟨h0,o,ho,_⟩:=this;have hi:i<ops.size:=(yy.1 ho).1;rw [gO listed i za,bG i hi] at h0;cases h0
 | succ fuel ih=>
  intro listed a w az cq l6 hF;refine ⟨fun hr=>jz listed a w (eT listed az hr) hF,fun i hi=>?_⟩;rw [mem_ready] at hi;obtain ⟨h0,o,ho,bG⟩:=hi;have dM:i<ops.size:=(yy.1 ho).1;rw [gO listed i za] at h0;have mj:ops.toList.getD i default=o:=by simp [yC,ho]
  have gm:=gi i dM;rw [mj] at gm;have cG : ∀ k,k<ops.size→(k == i || listed.getD k false)=true→∀ e∈(ops.toList.getD k default).after.toList,Region.binds .any e=true→(e.on == i || listed.getD e.on false)=true:=by
   intro k hk hS e he hb;by_cases iG:k=i
   ·subst iG;rw [mj] at he;rw [bG e (by simpa using he) hb,Ws]
   ·have:(k == i)=false:=by simpa using iG
    rw [this,xw] at hS;rw [cq k hk hS e he hb,Ws]
  have lV:∀ j∈(iZ ops.toList []).getD i [],(j == i || listed.getD j false)=true:=
   WT (fun k=>k == i || listed.getD k false) ops.toList [] (fun i hi=>by simp at hi) (fun k hk hS e he hb=>cG k (by simpa using hk) (by simpa using hS) e he hb) (fun k hk e he hb=>by simpa using dc k (by simpa using hk) e he hb) i (by simpa using dM) zd
  have js:∀ k,listed.getD k false=true→k<ops.size→∀ j∈(iZ ops.toList []).getD k [],listed.getD j false=true:=fun k hS hk=>
   WT (fun k=>listed.getD k false) ops.toList [] (fun i hi=>by simp at hi) (fun k hk hS e he hb=>cq k (by simpa using hk) (by simpa using hS) e he hb) (fun k hk e he hb=>by simpa using dc k (by simpa using hk) e he hb) k (by simpa using hk) hS
  have lW:∀ k,k<ops.size→∀ j∈(iZ ops.toList []).getD k [],j<k∨j=k→True:=fun _ _ _ _ _=>trivial;have dw:∀ k,k<i→yS ops (tr.getD k default) (tr.getD i default)=true∨listed.getD k false=true:=by
   intro k hk;rcases dA i dM k hk with h|h
   ·have:=lV k h;have aZ:(k == i)=false:=by simp;omega
    rw [aZ,xw] at this;exact .inr this
   ·exact .inl h
  have bR:∀ k,i<k→k<ops.size→listed.getD k false=true→yS ops (tr.getD i default) (tr.getD k default)=true:=by
   intro k hk ew hS;rcases dA k ew i hk with h|h
   ·rw [js k hS ew i h] at h0;cases h0
   ·exact h
  have iA:∀ {r q:Rec},yS ops r q=true→(∀ d,r.o.dst=some d→d∉q.o.looksAt ops)∧(∀ d,r.o.dst=some d→q.o.dst≠some d)∧(∀ d,q.o.dst=some d→d∉r.o.looksAt ops)∧
    (∀ id,(xq r.wr id).isSome→id∉q.ft∧xq q.wr id=none)∧(∀ id,(xq q.wr id).isSome→id∉r.ft):=by
   intro r q h;unfold yS at h;rw [zA,zA] at h;obtain ⟨⟨h1,h2⟩,h3⟩:=h;obtain ⟨k1,k2,k3⟩:=Oper.apart_spec h1;rw [zI] at h2 h3;refine ⟨k1,k2,k3,fun id hid=>?_,fun id hid=>?_⟩
   ·obtain ⟨p,hp,rfl⟩:=zL.1 (xJ hid);have:=h2 p hp;rw [zA] at this;refine ⟨by simpa using this.1,?_⟩;cases hl:xq q.wr p.1 with
    | none => rfl
    | some b =>
     have hm:=xJ (l:=q.wr) (id:=p.1) (by rw [hl];rfl);have h4:=this.2;simp only [Wr,UM,decide_eq_false_iff_not] at h4;exact absurd hm h4
   ·obtain ⟨p,hp,rfl⟩:=zL.1 (xJ hid);have:=h3 p hp;simpa using this
  have c6:∀ t∈(tr.getD i default).o.looksAt ops,(sig tr s0 (fun k=>listed.getD k false) ops.size).get t=(sig tr s0 (fun _=>true) i).get t:=by
   intro t ht;rw [yI,yI];obtain ⟨m,hm⟩:∃ m,ops.size=i+m:=⟨ops.size - i,by omega⟩
   rw [hm,xj _ _ _ i m]
   ·refine yJ _ _ _ _ _ (fun k hk hu=>?_);rcases dw k hk with h|h
    ·exfalso;unfold fJ at hu;split at hu
     ·rename_i hd;exact (iA h).1 t hd ht
     ·simp at hu
    ·exact h
   ·intro k df ew hS;rcases WG df with e|aD
    ·subst e;rw [h0] at hS;cases hS
    ·unfold fJ;rw [if_neg];intro hd;exact (iA (bR k aD za hS)).2.2.1 t hd ht
  have iI:∀ id∈(tr.getD i default).ft,(sig tr s0 (fun k=>listed.getD k false) ops.size).ob id=(sig tr s0 (fun _=>true) i).ob id:=by
   intro id hid;rw [xM,xM];obtain ⟨m,hm⟩:∃ m,ops.size=i+m:=⟨ops.size - i,by omega⟩
   rw [hm,xj _ _ _ i m]
   ·refine yJ _ _ _ _ _ (fun k hk hu=>?_);rcases dw k hk with h|h
    ·exact absurd hid ((iA h).2.2.2.1 id hu).1
    ·exact h
   ·intro k df ew hS;rcases WG df with e|aD
    ·subst e;rw [h0] at hS;cases hS
    ·cases hl:xq (tr.getD k default).wr id with
     | none => rfl
     | some b => exact absurd hid ((iA (bR k aD za hS)).2.2.2.2 id (by rw [hl]; rfl))
  refine aM _ _ a w i o ho h0 (fun e he hb=>bG e (by simpa using he) hb) (by rw [← gm];exact c6) iI hF _ (fun a' w' iz=>?_);have gS:∀ k,(listed.setIfInBounds i true).getD k false=(k == i || listed.getD k false):=by
   intro k;by_cases iG:k=i
   ·subst iG;have:k<listed.size:=by omega
    simp [this]
   ·have aZ:(k == i)=false:=by simpa using iG
    rw [aZ,xw];simp [u4 (fun e=>iG e.symm)]
  have jC:(fun k=>(listed.setIfInBounds i true).getD k false)=(fun k=>k == i || listed.getD k false):=funext gS;refine ih _ a' w' (by simp [az]) (fun k hk hS e he hb=>?_) ?_ ?_
  ·rw [gS] at hS ⊢;exact cG k hk hS e he hb
  ·rw [jC];have:=UU (S:=fun k=>listed.getD k false) h0 ops.size dM;omega
  ·rw [jC];refine nM _ _ _ _ _ (fun t=>?_) (fun id=>?_) iz
   ·rw [Yq,yI,yI];refine XN _ _ _ i h0 ops.size dM (fun k df ew hS hu=>?_);cases jY:fJ (tr.getD i default) t with
    | none => rfl
    | some v=>
     exfalso;unfold fJ at hu jY;split at jY
     ·rename_i iE;split at hu
      ·rename_i jw;exact (iA (bR k df ew hS)).2.1 t iE jw
      ·simp at hu
     ·cases jY
   ·rw [XI,xM,xM];refine XN _ _ _ i h0 ops.size dM (fun k df ew hS hu=>?_);cases jY:xq (tr.getD i default).wr id with
    | none => rfl
    | some v =>
     exfalso;have:=((iA (bR k df ew hS)).2.2.2.1 id (by rw [jY];rfl)).2;rw [this] at hu;cases hu
end
section
variable {c:Ctx} {ops:Array Oper} {rest:List Oper} {t:List (Nat×FV)} {ob:List (Nat×yo)} {dst:Option Nat} {ty:TypeId} {pos:String} {af:Array Edge} {gd:Option (Nat×Bool)} {QS:ab→Prop}
end
section
variable {c:Ctx} {w0 w:World} {J:JJ} {s:ab} {a:Act} {β:Nat→Option Nat}
end
section
variable {c:Ctx} {ops:Array Oper} {rest:List Oper} {t:List (Nat×FV)} {ob:List (Nat×yo)} {d:Nat} {ty:TypeId} {pos:String} {af:Array Edge} {gd:Option (Nat×Bool)} {QS:ab→Prop}
end
section
variable {c:Ctx} {ops:Array Oper} {rest:List Oper} {t:List (Nat×FV)} {ob:List (Nat×yo)} {d:Nat} {ty E8:TypeId} {pos AE:String} {af Ez:Array Edge} {QS:ab→Prop}
end
section
variable {c:Ctx} {w0 w:World} {J:JJ} {s:ab} {a:Act} {β:Nat→Option Nat} {dst:Option Nat} {ty:TypeId} {pos:String} {after:Array Edge} {g:Option (Nat×Bool)}
end
section
variable {c:Ctx} {ops:Array Oper} {rest:List Oper} {t:List (Nat×FV)} {ob:List (Nat×yo)} {d:Nat} {ty:TypeId} {pos:String} {af:Array Edge} {g:Option (Nat×Bool)} {Q:ab→Prop}
end
section
variable {c:Ctx} {w0 w:World} {J:JJ} {s:ab} {a:Act} {β:Nat→Option Nat} {dst:Option Nat} {ty:TypeId} {pos:String} {after:Array Edge} {g:Option (Nat×Bool)}
end
section
variable {c:Ctx} {ops:Array Oper} {rest:List Oper} {t:List (Nat×FV)} {ob:List (Nat×yo)} {d:Nat} {ty:TypeId} {pos:String} {af:Array Edge} {gd:Option (Nat×Bool)} {QS:ab→Prop}
end
section
variable {c:Ctx} {w0 w:World} {J:JJ} {s:ab} {a:Act} {β:Nat→Option Nat} {dst:Option Nat} {ty:TypeId} {pos:String} {after:Array Edge} {g:Option (Nat×Bool)}
end
section
variable {c:Ctx} {ops:Array Oper} {rest:List Oper} {t:List (Nat×FV)} {ob:List (Nat×yo)} {d:Nat} {ty:TypeId} {pos:String} {af:Array Edge} {gd:Option (Nat×Bool)} {tr:List Rec} {QD:ab→List Rec→Prop}
end
end
section
open Go.RowKit Go.ChangeMaps Go.MapKept
open Go.Maps (Keyed)
section
variable {c:Ctx} {w0 w:World} {J:JJ} {s:ab} {a:Act} {β:Nat→Option Nat} {dst:Option Nat} {ty:TypeId} {pos:String} {after:Array Edge} {g:Option (Nat×Bool)}
end
section
variable {c:Ctx} {ops:Array Oper} {rest:List Oper} {t:List (Nat×FV)} {ob:List (Nat×yo)} {d:Nat} {ty:TypeId} {pos:String} {af:Array Edge} {gd:Option (Nat×Bool)} {tr:List Rec} {QD:ab→List Rec→Prop} {QS:ab→Prop}
end
end
section
open Go.RowKit
section
variable {c:Ctx} {ops:Array Oper} {rest:List Oper} {t:List (Nat×FV)} {ob:List (Nat×yo)} {ty:TypeId} {pos:String} {af:Array Edge} {gd:Option (Nat×Bool)} {QS:ab→Prop}
end
end
end Go.Proofs.YtedkppfghdipdaaGreatDoor
