/-
  Some texts as one: SetPlain, LinExt, NewPlain, FmSet, FmOrd, FmRng, FmBack, FmNew, FmLinear.
-/
import Derived.Test.YtmnmakhpjgjdaaaZDA
import Derived.Test.YtmnmakhpjgjdaaaZD
import Derived.Test.YtmnmakhpjgjdaaaZC
import Derived.RangeFuncLeaves
import Derived.RangeFuncRecord
import Derived.Test.YtmnmakhpjgjdaaaZR
namespace Go.Proofs.Ytmnmakhpjgjdaaa
set_option linter.unusedVariables false
set_option maxHeartbeats 16000000
section
variable (R:Nat→Nat→Bool) (n:Nat)
end
section
variable {R:Nat→Nat→Bool} {n:Nat}
end
abbrev Prs:=List (Nat×Nat)
section
variable {P:Prs} {n:Nat}
end
section
open Go.RowKit
section
variable {N:Nat} {w0 w:World} {J:JJ} {s:FSt} {a:Act} {β:Nat→Option Nat}
def JJ.turn (J:JJ) (D:Nat) (o:Obj):JJ:={ J with h0:=fun b=>if b=D then some o else J.h0 b }
theorem FR.putK (h:FR N w0 J s a w β) {D:Nat} (hK:J.K D) (hok:¬ J.ok D) (hD:w0.heap.size≤D) (o:Obj):FR N w0 (J.turn D o) s a (w.putObj D o) β:=by
 have hne:∀ b,b≠D→(w.putObj D o).heap[b]? = w.heap[b]?:=fun b hb=>World.putObj_heap_other hb;have hI:∀ b,Imm J w β s b→Imm (J.turn D o) (w.putObj D o) β s b∧(w.putObj D o).heap[b]? = w.heap[b]?:=fun b hb=>
  ⟨⟨by rw [World.putObj_size];exact hb.1,hb.2.1,hb.2.2⟩,hne b fun e=>hok (e▸hb.2.1)⟩
 have hown:∀ id,(s.ob id).life≠.dead→∀ b,β id=some b→(w.putObj D o).heap[b]? = w.heap[b]?:=fun id hl b hb=>hne b fun e=>(h.kept D hK).2.1 id hl (e▸hb);have T:∀ v f,VR w (Imm J w β s) β s v f→VR (w.putObj D o) (Imm (J.turn D o) (w.putObj D o) β s) β s v f:=fun v f hv=>
  hv.mono hI fun id ver _ h1 h2=>⟨h1,h2,rfl,rfl,rfl,fun v o n hv=>hv.mono (hown id h1)⟩
 exact { size:=h.size,defers:=h.defers,bel:=⟨h.bel.os,h.bel.tape,h.bel.output,by rw [World.putObj_size];exact h.bel.size,fun k hk=>(hne k za).trans (h.bel.block k hk)⟩,
         fresh0:=h.fresh0,slot:=fun d=>T _ _ (h.slot d),vers:=h.vers,
         obj:=fun id hl=>(h.obj id hl).mono hI (hown id hl) (fun v f hv _=>T v f hv) (fun _=>Nat.le_refl _),inj:=h.inj,
         kept:=fun b hb=>by
          obtain ⟨k1,k2,k3⟩:=h.kept b hb;refine ⟨by rw [World.putObj_size];exact k1,k2,?_⟩;show _=if b=D then some o else J.h0 b
          by_cases e:b=D
          ·subst e;rw [if_pos rfl];exact World.putObj_heap_same k1
          ·rw [if_neg e,hne b e];exact k3
         gh:=fun v f hg=>⟨T v f (h.gh v f hg).1,(h.gh v f hg).2⟩ }
def JJ.lay (J:JJ) (D:Nat) (o:Obj):JJ:={ J with ok:=fun b=>J.ok b∧b≠D,K:=fun b=>J.K b∨b=D,h0:=fun b=>if b=D then some o else J.h0 b }
theorem FR.layK (h:FR N w0 J s a w β) (o:Obj):FR N w0 (J.lay w.heap.size o) s a (w.alloc o) β:=by
 have hlt:∀ b,b<w.heap.size→(w.alloc o).heap[b]? = w.heap[b]?:=fun b hb=>Below.heap_alloc w o b hb;have hsz:(w.alloc o).heap.size=w.heap.size+1:=World.size_alloc ..;have hI:∀ b,Imm J w β s b→Imm (J.lay w.heap.size o) (w.alloc o) β s b∧(w.alloc o).heap[b]? = w.heap[b]?:=fun b hb=>
  ⟨⟨by rw [hsz];have:=hb.1;omega,⟨hb.2.1,by have:=hb.1;omega⟩,hb.2.2⟩,hlt b hb.1⟩
 have hown:∀ id,(s.ob id).life≠.dead→∀ b,β id=some b→(w.alloc o).heap[b]? = w.heap[b]?:=fun id hl b hb=>hlt b ((h.obj id hl).lt hb).2;have T:∀ v f,VR w (Imm J w β s) β s v f→VR (w.alloc o) (Imm (J.lay w.heap.size o) (w.alloc o) β s) β s v f:=fun v f hv=>
  hv.mono hI fun id ver _ h1 h2=>⟨h1,h2,rfl,rfl,rfl,fun v o n hv=>hv.mono (hown id h1)⟩
 exact { size:=h.size,defers:=h.defers,bel:=h.bel.alloc h.bel.size o,
         fresh0:=fun b hb=>by
          by_cases e:b=w.heap.size
          ·exact .inr (.inr e)
          ·exact (h.fresh0 b hb).imp (fun q=>⟨q,e⟩) .inl
         slot:=fun d=>T _ _ (h.slot d),vers:=h.vers,
         obj:=fun id hl=>(h.obj id hl).mono hI (hown id hl) (fun v f hv _=>T v f hv) (fun _=>Nat.le_refl _),inj:=h.inj,
         kept:=fun b hb=>by
          show _∧_∧_=if b=w.heap.size then some o else J.h0 b
          rcases hb with hb|hb
          ·obtain ⟨k1,k2,k3⟩:=h.kept b hb;exact ⟨by rw [hsz];omega,k2,by rw [if_neg za,hlt b k1];exact k3⟩
          ·subst hb;refine ⟨by rw [hsz];omega,fun id hl e=>?_,by rw [if_pos rfl];exact World.alloc_heap_new w o⟩;have:=((h.obj id hl).lt e).2;omega
         gh:=fun v f hg=>⟨T v f (h.gh v f hg).1,(h.gh v f hg).2⟩ }
end
def GW (c:Ctx) (w0:World) (J:JJ) (code:Code) (QQ:Exit→Act→World→Prop) (s:FSt):Prop:=∀ (a:Act) (w:World) (β:Nat→Option Nat),FR c.N w0 J s a w β→code.wp c.P QQ a w
def zpB (c:Ctx) (w0:World) (J:JJ) (QQ:Exit→Act→World→Prop) (e:Exit) (s:FSt):Prop:=∀ (a:Act) (w:World) (β:Nat→Option Nat),FR c.N w0 J s a w β→QQ e a w
section
variable {c:Ctx} {w0:World} {J:JJ} {QQ:Exit→Act→World→Prop} {s:FSt}
theorem GW.seq {x y:Code} (h:FW c x (znf (GW c w0 J y QQ) (zpB c w0 J QQ)) s):GW c w0 J (.seq x y) QQ s:=fun a w β hF=>
 wp_seq (wp_mono (Xo c.mixed (h w0 J a w β hF)) fun e a w ⟨s',β',q,f⟩=>by
  cases e <;> exact q a w β' f)
theorem GW.seqG {x y:Code} (h:GW c w0 J x (Exit.then (y.wp c.P QQ) QQ) s):GW c w0 J (.seq x y) QQ s:=fun a w β hF=>wp_seq (h a w β hF)
theorem GW.le {code:Code} {s' : FSt} (h:GW c w0 J code QQ s') (hs:FLe s s'):GW c w0 J code QQ s:=fun a w β hF=>let ⟨β',h1⟩:=hs _ _ _ _ _ _ hF;h a w β' h1
end
section
variable {c:Ctx} {w0:World} {J:JJ} {QQ:Exit→Act→World→Prop}
end
section
variable {P:Program} {n:Nat}
end
section
variable {R:Nat→Nat→Bool} {n:Nat}
end
end
end Go.Proofs.Ytmnmakhpjgjdaaa
