/-
  For every input the law SerialOwn returns true, and each argument reads afterwards as it read before: no condition.
-/
import Derived.Test.YtlnehfplfoikaaaRows
import Derived.Test.YtlnehfplfoikaaaZD
import Derived.Test.YtlnehfplfoikaaaZFmAgt
namespace Go.Proofs.Ytlnehfplfoikaaa
set_option linter.unusedVariables false
set_option maxHeartbeats 16000000
set_option maxRecDepth 100000
open Go.ChangeShapes Go.WideShapes Go.ChangeAt Go.RowKit
theorem zaP:ownKnob Try.prog.godebug=none:=by kernel_rfl
theorem YH:laidOutB Try.prog=true:=by kernel_rfl
set_option maxRecDepth 100000 in
theorem WA (os:Os) (started:os.Started) (H:Type) (enc:TypeId×Value→H) :
  ReturnsInHanded {} Try.checked os 3 .any (Rows.serialOwnSpec.pre6 enc Try.prog Try.f3 Rows.serialOwnRow.domain false) (Rows.serialOwnSpec.post enc Try.prog Try.f3 false true false false):=by
 refine returnsInHanded_of_change (C:=Try.checked) zaP started zA Try.func3
  (ChangeSpec.witness6 (enc:=enc) (C:=Try.checked) false ⟨#[],#[.slice none 0 0,.bool false],[]⟩ 8 zA zA zA zA) ?_
 intro W base args ds gs before hval0 hW _ _;have hval:∀ (j:Nat) t v,Try.f3.params[j]? = some t→args[j]? = some v→Value.okWide Try.prog W .any base t v:=hval0;have hW':=hW;obtain ⟨p,q,hA0,hV,rfl,_,_⟩:=hW;have hA:DataW.TrodAll enc Try.prog W 0 (fun _=>true) true Try.f3.params.toList args.toList ds p:=hA0;rw [Try.params3] at hA hval;obtain ⟨v0,vs0,d0,ds0,p0,q0,hargs,rfl,rfl,h0,r0⟩:=trodAll_cons hA;obtain ⟨v1,vs1,d1,ds1,p1,q1,rfl,rfl,rfl,h1,r1⟩:=trodAll_cons r0;obtain ⟨rfl,rfl,rfl⟩:=trodAll_nil r1;obtain rfl:args=#[v0,v1]:=by cases args;simp_all
 obtain ⟨rfl,rfl⟩:=trodVars_none hV;have k0:=h0;have lt0:∀ x∈p0,x.block<W.heap.size:=by obtain ⟨m,hm⟩:=k0;exact DataW.trod_lt m _ _ _ hm
 obtain ⟨l0,e0,i0,m0⟩:=zih (hval 0 22 v0 rfl rfl) h0;have k1:=h1;have lt1:∀ x∈p1,x.block<W.heap.size:=by obtain ⟨m,hm⟩:=k1;exact DataW.trod_lt m _ _ _ hm
 obtain ⟨x1,e1⟩:=zig (hval 1 4 v1 rfl rfl) h1;clear hA0 hval0;refine ((Uy l0 x1 i0 m0).law (RdL.cons e0 (RdL.cons e1 RdL.nil))).mono fun e W' ⟨he,bel⟩=>?_;subst he;exact ⟨_,rfl,_,_,_,[],_,[],hW',trodAll_mk1 (shut_bool Try.underlying4 _),(trodAll_cons_mk (Below.trod YH zA (of_decide_eq_true zA) k0 bel lt0) (trodAll_cons_mk (Below.trod YH zA (of_decide_eq_true zA) k1 bel lt1) trodAll_mk0)),rfl,bel.frame _,fun h=>by cases h⟩
theorem serialOwn_holds:Rows.SerialOwnSaid:=
 OpenClaim.holds_of_wide 3 Try.f3 rfl rfl rfl rfl rfl rfl rfl ⟨rfl,rfl,rfl,rfl,rfl⟩ rfl rfl rfl rfl rfl zA Try.func3 zA
  (of_decide_eq_true zA) (by unfold Func.isWrapper;first|(rw [if_pos (by decide +kernel)];kernel_rfl)|(rw [if_neg (by decide +kernel)];exact ⟨rfl,rfl⟩))
  (fun os started H enc _=>WA os started H enc)
#print axioms serialOwn_holds
end Go.Proofs.Ytlnehfplfoikaaa
