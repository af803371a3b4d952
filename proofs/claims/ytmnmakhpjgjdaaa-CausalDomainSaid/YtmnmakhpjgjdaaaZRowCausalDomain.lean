/-
  For every input the law CausalDomain returns true, and each argument reads afterwards as it read before: no condition.
-/
import Derived.Test.YtmnmakhpjgjdaaaRows
import Derived.Test.YtmnmakhpjgjdaaaZR
import Derived.Test.YtmnmakhpjgjdaaaZFmCr7
namespace Go.Proofs.Ytmnmakhpjgjdaaa
set_option linter.unusedVariables false
set_option maxHeartbeats 16000000
set_option maxRecDepth 100000
open Go.ChangeShapes Go.WideShapes Go.ChangeAt Go.RowKit
theorem UO:ownKnob Try.prog.godebug=none:=by kernel_rfl
theorem YA:laidOutB Try.prog=true:=by kernel_rfl
set_option maxRecDepth 100000 in
theorem WM (os:Os) (started:os.Started) (H:Type) (enc:TypeId×Value→H) :
  ReturnsInHanded {} Try.checked os 4 .any (Rows.causalDomainSpec.pre6 enc Try.prog Try.f4 Rows.causalDomainRow.domain false) (Rows.causalDomainSpec.post enc Try.prog Try.f4 false true false false):=by
 refine returnsInHanded_of_change (C:=Try.checked) UO started zj Try.func4
  (ChangeSpec.witness6 (enc:=enc) (C:=Try.checked) false ⟨#[],#[.slice none 0 0,.slice none 0 0],[]⟩ 8 zj zj zj zj) ?_
 intro W base args ds gs before hval0 hW _ _;have hval:∀ (j:Nat) t v,Try.f4.params[j]? = some t→args[j]? = some v→Value.okWide Try.prog W .any base t v:=hval0;have hW':=hW;obtain ⟨p,q,hA0,hV,rfl,_,_⟩:=hW;have hA:DataW.TrodAll enc Try.prog W 0 (fun _=>true) true Try.f4.params.toList args.toList ds p:=hA0;rw [Try.params4] at hA hval;obtain ⟨v0,vs0,d0,ds0,p0,q0,hargs,rfl,rfl,h0,r0⟩:=trodAll_cons hA;obtain ⟨v1,vs1,d1,ds1,p1,q1,rfl,rfl,rfl,h1,r1⟩:=trodAll_cons r0;obtain ⟨rfl,rfl,rfl⟩:=trodAll_nil r1;obtain rfl:args=#[v0,v1]:=by cases args;simp_all
 obtain ⟨rfl,rfl⟩:=trodVars_none hV;have k0:=h0;have lt0:∀ x∈p0,x.block<W.heap.size:=by obtain ⟨m,hm⟩:=k0;exact DataW.trod_lt m _ _ _ hm
 obtain ⟨l0,e0,i0,m0⟩:=znL (hval 0 22 v0 rfl rfl) h0;have k1:=h1;have lt1:∀ x∈p1,x.block<W.heap.size:=by obtain ⟨m,hm⟩:=k1;exact DataW.trod_lt m _ _ _ hm
 obtain ⟨l1,e1,i1,m1⟩:=zoJ (hval 1 23 v1 rfl rfl) h1;clear hA0 hval0;refine ((VT l0 l1 i0 m0 i1 m1).law (RdL.cons e0 (RdL.cons e1 RdL.nil))).mono fun e W' ⟨he,bel⟩=>?_;subst he;exact ⟨_,rfl,_,_,_,[],_,[],hW',trodAll_mk1 (shut_bool Try.underlying4 _),(trodAll_cons_mk (Below.trod YA zj (of_decide_eq_true zj) k0 bel lt0) (trodAll_cons_mk (Below.trod YA zj (of_decide_eq_true zj) k1 bel lt1) trodAll_mk0)),rfl,bel.frame _,fun h=>by cases h⟩
theorem causalDomain_holds:Rows.CausalDomainSaid:=
 OpenClaim.holds_of_wide 4 Try.f4 rfl rfl rfl rfl rfl rfl rfl ⟨rfl,rfl,rfl,rfl,rfl⟩ rfl rfl rfl rfl rfl zj Try.func4 zj
  (of_decide_eq_true zj) (by unfold Func.isWrapper;first|(rw [if_pos (by decide +kernel)];kernel_rfl)|(rw [if_neg (by decide +kernel)];exact ⟨rfl,rfl⟩))
  (fun os started H enc _=>WM os started H enc)
#print axioms causalDomain_holds
end Go.Proofs.Ytmnmakhpjgjdaaa
