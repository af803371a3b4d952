/-
  For every input the law CausalVerdicts returns true, and each argument reads afterwards as it read before: no condition.
-/
import Derived.Test.YtmnmakhpjgjdaaaRows
import Derived.Test.YtmnmakhpjgjdaaaZR
import Derived.Test.YtmnmakhpjgjdaaaZFmCr7
namespace Go.Proofs.Ytmnmakhpjgjdaaa
set_option linter.unusedVariables false
set_option maxHeartbeats 16000000
set_option maxRecDepth 100000
open Go.ChangeShapes Go.WideShapes Go.ChangeAt Go.RowKit
theorem Vd:ownKnob Try.prog.godebug=none:=by kernel_rfl
theorem yT:laidOutB Try.prog=true:=by kernel_rfl
set_option maxRecDepth 100000 in
theorem Xw (os:Os) (started:os.Started) (H:Type) (enc:TypeId×Value→H) :
  ReturnsInHanded {} Try.checked os 3 .any (Rows.causalVerdictsSpec.pre6 enc Try.prog Try.f3 Rows.causalVerdictsRow.domain false) (Rows.causalVerdictsSpec.post enc Try.prog Try.f3 false true false false):=by
 refine returnsInHanded_of_change (C:=Try.checked) Vd started zi Try.func3
  (ChangeSpec.witness6 (enc:=enc) (C:=Try.checked) false ⟨#[],#[.slice none 0 0,.int .i64 0,.int .i64 0,.int .i64 0],[]⟩ 8 zi zi zi zi) ?_
 intro W base args ds gs before hval0 hW _ _;have hval:∀ (j:Nat) t v,Try.f3.params[j]? = some t→args[j]? = some v→Value.okWide Try.prog W .any base t v:=hval0;have hW':=hW;obtain ⟨p,q,hA0,hV,rfl,_,_⟩:=hW;have hA:DataW.TrodAll enc Try.prog W 0 (fun _=>true) true Try.f3.params.toList args.toList ds p:=hA0;rw [Try.params3] at hA hval;obtain ⟨v0,vs0,d0,ds0,p0,q0,hargs,rfl,rfl,h0,r0⟩:=trodAll_cons hA;obtain ⟨v1,vs1,d1,ds1,p1,q1,rfl,rfl,rfl,h1,r1⟩:=trodAll_cons r0;obtain ⟨v2,vs2,d2,ds2,p2,q2,rfl,rfl,rfl,h2,r2⟩:=trodAll_cons r1;obtain ⟨v3,vs3,d3,ds3,p3,q3,rfl,rfl,rfl,h3,r3⟩:=trodAll_cons r2;obtain ⟨rfl,rfl,rfl⟩:=trodAll_nil r3;obtain rfl:args=#[v0,v1,v2,v3]:=by cases args;simp_all
 obtain ⟨rfl,rfl⟩:=trodVars_none hV;have k0:=h0;have lt0:∀ x∈p0,x.block<W.heap.size:=by obtain ⟨m,hm⟩:=k0;exact DataW.trod_lt m _ _ _ hm
 obtain ⟨l0,e0,i0,m0⟩:=znN (hval 0 22 v0 rfl rfl) h0;have k1:=h1;have lt1:∀ x∈p1,x.block<W.heap.size:=by obtain ⟨m,hm⟩:=k1;exact DataW.trod_lt m _ _ _ hm
 obtain ⟨x1,e1,i1⟩:=zkz (hval 1 3 v1 rfl rfl) h1;have k2:=h2;have lt2:∀ x∈p2,x.block<W.heap.size:=by obtain ⟨m,hm⟩:=k2;exact DataW.trod_lt m _ _ _ hm
 obtain ⟨x2,e2,i2⟩:=zkz (hval 2 3 v2 rfl rfl) h2;have k3:=h3;have lt3:∀ x∈p3,x.block<W.heap.size:=by obtain ⟨m,hm⟩:=k3;exact DataW.trod_lt m _ _ _ hm
 obtain ⟨x3,e3,i3⟩:=zkz (hval 3 3 v3 rfl rfl) h3;clear hA0 hval0;refine ((WI l0 x1 x2 x3 i0 m0 i1 i2 i3).law (RdL.cons e0 (RdL.cons e1 (RdL.cons e2 (RdL.cons e3 RdL.nil))))).mono fun e W' ⟨he,bel⟩=>?_;subst he;exact ⟨_,rfl,_,_,_,[],_,[],hW',trodAll_mk1 (shut_bool Try.underlying4 _),(trodAll_cons_mk (Below.trod yT zi (of_decide_eq_true zi) k0 bel lt0) (trodAll_cons_mk (Below.trod yT zi (of_decide_eq_true zi) k1 bel lt1) (trodAll_cons_mk (Below.trod yT zi (of_decide_eq_true zi) k2 bel lt2) (trodAll_cons_mk (Below.trod yT zi (of_decide_eq_true zi) k3 bel lt3) trodAll_mk0)))),rfl,bel.frame _,fun h=>by cases h⟩
theorem causalVerdicts_holds:Rows.CausalVerdictsSaid:=
 OpenClaim.holds_of_wide 3 Try.f3 rfl rfl rfl rfl rfl rfl rfl ⟨rfl,rfl,rfl,rfl,rfl⟩ rfl rfl rfl rfl rfl zi Try.func3 zi
  (of_decide_eq_true zi) (by unfold Func.isWrapper;first|(rw [if_pos (by decide +kernel)];kernel_rfl)|(rw [if_neg (by decide +kernel)];exact ⟨rfl,rfl⟩))
  (fun os started H enc _=>Xw os started H enc)
#print axioms causalVerdicts_holds
end Go.Proofs.Ytmnmakhpjgjdaaa
