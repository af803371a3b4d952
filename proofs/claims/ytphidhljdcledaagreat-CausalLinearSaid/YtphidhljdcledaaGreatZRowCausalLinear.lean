/-
  For every input the law CausalLinear returns true, and each argument reads afterwards as it read before: no condition.
-/
import Derived.Test.YtphidhljdcledaaGreatRows
import Derived.Test.YtphidhljdcledaaGreatZD
import Derived.Test.YtphidhljdcledaaGreatZF
namespace Go.Proofs.YtphidhljdcledaaGreat
set_option linter.unusedVariables false
set_option maxHeartbeats 16000000
set_option maxRecDepth 100000
open Go.ChangeShapes Go.WideShapes Go.ChangeAt Go.RowKit
theorem zeJ:ownKnob Tryz.prog.godebug=none:=by kernel_rfl
theorem zdU:laidOutB Tryz.prog=true:=by kernel_rfl
set_option maxRecDepth 100000 in
theorem zb7 (os:Os) (started:os.Started) (H:Type) (enc:TypeId×Value→H) :
  ReturnsInHanded {} Tryz.checked os 3 .any (Rows.causalLinearSpec.pre6 enc Tryz.prog Tryz.f3 Rows.causalLinearRow.domain false) (Rows.causalLinearSpec.post enc Tryz.prog Tryz.f3 false true false false):=by
 refine returnsInHanded_of_change (C:=Tryz.checked) zeJ started zw Tryz.func3
  (ChangeSpec.witness6 (enc:=enc) (C:=Tryz.checked) false ⟨#[],#[.slice none 0 0],[]⟩ 8 zw zw zw zw) ?_
 intro W base args ds gs before wH hW _ _;have hval:∀ (j:Nat) t v,Tryz.f3.params[j]? = some t→args[j]? = some v→Value.okWide Tryz.prog W .any base t v:=wH;have hW':=hW;obtain ⟨p,q,iU,hV,rfl,_,_⟩:=hW;have hA:DataW.TrodAll enc Tryz.prog W 0 (fun _=>true) true Tryz.f3.params.toList args.toList ds p:=iU;rw [Tryz.params3] at hA hval;obtain ⟨v0,vs0,d0,ds0,p0,q0,Ts,rfl,rfl,h0,r0⟩:=trodAll_cons hA;obtain ⟨rfl,rfl,rfl⟩:=trodAll_nil r0;obtain rfl:args=#[v0]:=by cases args;simp_all
 obtain ⟨rfl,rfl⟩:=trodVars_none hV;have k0:=h0;have lt0:∀ x∈p0,x.block<W.heap.size:=by obtain ⟨m,hm⟩:=k0;exact DataW.trod_lt m _ _ _ hm
 obtain ⟨l0,e0,i0,m0⟩:=zvX (hval 0 22 v0 rfl rfl) h0;clear iU wH;refine ((zdV l0 i0 m0).law (aS.cons e0 aS.nil)).mono fun e W' ⟨he,bB⟩=>?_;subst he;exact ⟨_,rfl,_,_,_,[],_,[],hW',trodAll_mk1 (shut_bool Tryz.underlying4 _),(trodAll_cons_mk (Below.trod zdU zw (of_decide_eq_true zw) k0 bB lt0) trodAll_mk0),rfl,bB.frame _,fun h=>by cases h⟩
theorem causalLinear_holds:Rows.CausalLinearSaid:=
 OpenClaim.holds_of_wide 3 Tryz.f3 rfl rfl rfl rfl rfl rfl rfl ⟨rfl,rfl,rfl,rfl,rfl⟩ rfl rfl rfl rfl rfl zw Tryz.func3 zw
  (of_decide_eq_true zw) (by unfold Func.isWrapper;first|(rw [if_pos (by decide +kernel)];kernel_rfl)|(rw [if_neg (by decide +kernel)];exact ⟨rfl,rfl⟩))
  (fun os started H enc _=>zb7 os started H enc)
#print axioms causalLinear_holds
end Go.Proofs.YtphidhljdcledaaGreat
