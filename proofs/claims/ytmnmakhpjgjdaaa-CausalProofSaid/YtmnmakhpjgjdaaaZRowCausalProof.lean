/-
  For every input the law CausalProof returns true, and each argument reads afterwards as it read before: no condition.
-/
import Derived.Test.YtmnmakhpjgjdaaaRows
import Derived.Test.YtmnmakhpjgjdaaaZR
import Derived.Test.YtmnmakhpjgjdaaaZLawCausalProof
namespace Go.Proofs.Ytmnmakhpjgjdaaa
set_option linter.unusedVariables false
set_option maxHeartbeats 16000000
set_option maxRecDepth 100000
open Go.ChangeShapes Go.WideShapes Go.ChangeAt Go.RowKit
theorem UD:ownKnob Try.prog.godebug=none:=by kernel_rfl
theorem Ua:laidOutB Try.prog=true:=by kernel_rfl
set_option maxRecDepth 100000 in
theorem Wn (os:Os) (started:os.Started) (H:Type) (enc:TypeId×Value→H) :
  ReturnsInHanded {} Try.checked os 7 .any (Rows.causalProofSpec.pre6 enc Try.prog Try.f7 Rows.causalProofRow.domain false) (Rows.causalProofSpec.post enc Try.prog Try.f7 false true false false):=by
 refine returnsInHanded_of_change (C:=Try.checked) UD started zi Try.func7
  (ChangeSpec.witness6 (enc:=enc) (C:=Try.checked) false ⟨#[],#[.slice none 0 0],[]⟩ 8 zi zi zi zi) ?_
 intro W base args ds gs before hval0 hW _ _
 have hval:∀ (j:Nat) t v,Try.f7.params[j]? = some t→args[j]? = some v→Value.okWide Try.prog W .any base t v:=hval0
 have hW':=hW
 obtain ⟨p,q,hA0,hV,rfl,_,_⟩:=hW
 have hA:DataW.TrodAll enc Try.prog W 0 (fun _=>true) true Try.f7.params.toList args.toList ds p:=hA0
 rw [Try.params7] at hA hval
 obtain ⟨v0,vs0,d0,ds0,p0,q0,hargs,rfl,rfl,h0,r0⟩:=trodAll_cons hA
 obtain ⟨rfl,rfl,rfl⟩:=trodAll_nil r0
 obtain rfl:args=#[v0]:=by cases args;simp_all
 obtain ⟨rfl,rfl⟩:=trodVars_none hV
 have k0:=h0
 have lt0:∀ x∈p0,x.block<W.heap.size:=by obtain ⟨m,hm⟩:=k0;exact DataW.trod_lt m _ _ _ hm
 obtain ⟨l0,e0,i0,m0⟩:=zlw (hval 0 22 v0 rfl rfl) h0
 clear hA0 hval0
 refine ((Ub l0 i0 m0).law (RdL.cons e0 RdL.nil)).mono fun e W' ⟨he,bel⟩=>?_
 subst he
 exact ⟨_,rfl,_,_,_,[],_,[],hW',trodAll_mk1 (shut_bool Try.underlying4 _),(trodAll_cons_mk (Below.trod Ua zi (of_decide_eq_true zi) k0 bel lt0) trodAll_mk0),rfl,bel.frame _,fun h=>by cases h⟩
theorem causalProof_holds:Rows.CausalProofSaid:=
 OpenClaim.holds_of_wide 7 Try.f7 rfl rfl rfl rfl rfl rfl rfl ⟨rfl,rfl,rfl,rfl,rfl⟩ rfl rfl rfl rfl rfl zi Try.func7 zi
  (of_decide_eq_true zi) (by unfold Func.isWrapper;first|(rw [if_pos (by decide +kernel)];kernel_rfl)|(rw [if_neg (by decide +kernel)];exact ⟨rfl,rfl⟩))
  (fun os started H enc _=>Wn os started H enc)
#print axioms causalProof_holds
end Go.Proofs.Ytmnmakhpjgjdaaa
