/-
  For every input the law CertifyFailures returns true, and each argument reads afterwards as it read before: one package-level variable is listed, and tied to the program's text by the card.
-/
import Derived.Test.YtedkppfghdipdaaGreatDoorRows
import Derived.Test.YtedkppfghdipdaaGreatDoorCards
import Derived.Test.YtedkppfghdipdaaGreatDoorTie
import Derived.SevenTiedAt
import Derived.LaidMore
import Derived.Test.YtedkppfghdipdaaGreatDoorZC
import Derived.Test.YtedkppfghdipdaaGreatDoorZFmCf2
namespace Go.Proofs.YtedkppfghdipdaaGreatDoor
set_option linter.unusedVariables false
set_option maxHeartbeats 16000000
set_option maxRecDepth 100000
open Go.ChangeShapes Go.WideShapes Go.ChangeAt Go.RowKit
theorem Yi:ownKnob Tryz.prog.godebug=none:=by kernel_rfl
theorem yc:laidOutB Tryz.prog=true:=by kernel_rfl
theorem ZW (os:Os) (args:Array Value):laidMetH Tryz.prog [("simproof/certify.others",Rows.laid_simproof_certify_others)] ((World.doorLaid Tryz.prog 600 os).forCall (fun _ _=>0) ⟨#[],args,[]⟩).memory:=
 laidMetH_of_parts3 (fuel:=8) (laidMet_of_run' 8 zq zq) zq zq
set_option maxRecDepth 100000 in
theorem Zq (os:Os) (started:os.Started) (H:Type) (enc:TypeId×Value→H) :
  ReturnsInHanded {} Tryz.checked os 3 .any (fun w args=>(Rows.certifyFailuresSpec.pre enc Tryz.prog Tryz.f3 [] false w args∧laidMetH Tryz.prog [("simproof/certify.others",Rows.laid_simproof_certify_others)] w)∧sizedMet enc Tryz.prog Tryz.f3 (OpenSpec.ofChange Rows.certifyFailuresSpec) false w args) (Rows.certifyFailuresSpec.post enc Tryz.prog Tryz.f3 false true false false):=by
 refine returnsInHanded_of_change_and (C:=Tryz.checked) (X:=fun w _=>laidMetH Tryz.prog [("simproof/certify.others",Rows.laid_simproof_certify_others)] w) (fun _ _ _ hh h=>h.of_heap hh) Yi started zq Tryz.func3
  (ChangeSpec.witness_shaped (enc:=enc) (C:=Tryz.checked) (os:=os) (X:=fun w _=>laidMetH Tryz.prog [("simproof/certify.others",Rows.laid_simproof_certify_others)] w) false (World.doorLaid Tryz.prog 600 os) #[.slice none 0 0,.int .i64 0,.int .i64 0,.slice none 0 0] 8 rfl (World.shaped_of_RefB zq zq) zq zq zq (ZW os _)) ?_
 intro W base args ds gs before js hW _ _ _ _;have hval:∀ (j:Nat) t v,Tryz.f3.params[j]? = some t→args[j]? = some v→Value.okWide Tryz.prog W .any base t v:=js;have qK:=hW;obtain ⟨p,q,dv,hV,rfl,_,_⟩:=hW;have hA:DataW.TrodAll enc Tryz.prog W 0 (fun _=>true) true Tryz.f3.params.toList args.toList ds p:=dv;rw [Tryz.params3] at hA hval;obtain ⟨v0,wz,d0,vZ,p0,q0,oR,rfl,rfl,h0,r0⟩:=trodAll_cons hA;obtain ⟨v1,wA,d1,v5,p1,q1,rfl,rfl,rfl,h1,r1⟩:=trodAll_cons r0;obtain ⟨v2,wB,d2,v7,p2,q2,rfl,rfl,rfl,h2,r2⟩:=trodAll_cons r1;obtain ⟨v3,wC,d3,v8,p3,q3,rfl,rfl,rfl,h3,r3⟩:=trodAll_cons r2;obtain ⟨rfl,rfl,rfl⟩:=trodAll_nil r3;obtain rfl:args=#[v0,v1,v2,v3]:=by cases args;simp_all
 obtain ⟨rfl,rfl⟩:=trodVars_none hV;have k0:=h0;have rQ:∀ x∈p0,x.block<W.heap.size:=by obtain ⟨m,hm⟩:=k0;exact Xn m _ _ _ hm
 obtain ⟨l0,e0,i0,m0⟩:=pQ (hval 0 22 v0 rfl rfl) h0;have k1:=h1;have rR:∀ x∈p1,x.block<W.heap.size:=by obtain ⟨m,hm⟩:=k1;exact Xn m _ _ _ hm
 obtain ⟨x1,e1,i1⟩:=qf (hval 1 3 v1 rfl rfl) h1;have k2:=h2;have rS:∀ x∈p2,x.block<W.heap.size:=by obtain ⟨m,hm⟩:=k2;exact Xn m _ _ _ hm
 obtain ⟨x2,e2,i2⟩:=qf (hval 2 3 v2 rfl rfl) h2;have k3:=h3;have rT:∀ x∈p3,x.block<W.heap.size:=by obtain ⟨m,hm⟩:=k3;exact Xn m _ _ _ hm
 obtain ⟨l3,e3,i3,m3⟩:=pQ (hval 3 22 v3 rfl rfl) h3;clear dv js;refine ((ZX l0 x1 x2 l3 i0 m0 i1 i2 i3 m3).law (az.cons e0 (az.cons e1 (az.cons e2 (az.cons e3 az.nil))))).mono fun e W' ⟨he,bN⟩=>?_;subst he;exact ⟨_,rfl,_,_,_,[],_,[],qK,trodAll_mk1 (shut_bool Tryz.underlying4 _),(trodAll_cons_mk (Below.trod yc zq (of_decide_eq_true zq) k0 bN rQ) (trodAll_cons_mk (Below.trod yc zq (of_decide_eq_true zq) k1 bN rR) (trodAll_cons_mk (Below.trod yc zq (of_decide_eq_true zq) k2 bN rS) (trodAll_cons_mk (Below.trod yc zq (of_decide_eq_true zq) k3 bN rT) trodAll_mk0)))),rfl,bN.frame _,fun h=>by cases h⟩
theorem certifyFailures_holds:Rows.CertifyFailuresSaid:=
 OpenClaim.holds_of_wide 3 Tryz.f3 rfl rfl rfl rfl rfl rfl rfl ⟨rfl,rfl,rfl,rfl,rfl⟩ rfl rfl rfl rfl rfl zq Tryz.func3 zq
  (of_decide_eq_true zq) (by unfold Func.isWrapper;first|(rw [if_pos (by decide +kernel)];kernel_rfl)|(rw [if_neg (by decide +kernel)];exact ⟨rfl,rfl⟩))
  (fun os started H enc _=>Zq os started H enc)
theorem certifyFailures_card:Rows.CertifyFailuresCardSaid:=
 Claim7.holds_tied_plain_at .later [] [.widerDeep] true (true,"f562bd5e5ab9f97d49b3444d1f44035a2f26ae46313ffa33f9fca5564dc90ebe") false
  certifyFailures_holds (fun _ h=>by cases h) zq (fun _ h=>by cases h) certifyFailures_row_tie rfl ⟨rfl,rfl⟩ zq rfl
  (fun f fn hf qM=>by
   obtain rfl:f=3:=Option.some.inj ((show Tryz.prog.funcNamed "simproof/simprooflaw27.CertifyFailures" = some 3 by kernel_rfl).symm.trans hf) |>.symm;obtain rfl:fn=Tryz.f3:=(Option.some.inj (Tryz.func3.symm.trans qM)).symm;exact ⟨by kernel_rfl,fun j t ht=>by
    rw [Tryz.params3] at ht;have hm:t∈[22,3,3,22]:=by simpa using Array.mem_of_getElem? ht
    have bA:([22,3,3,22].all fun u=>!Tryz.prog.wantsStandIn u)=true:=by kernel_rfl
    exact (show Tryz.prog.wantsStandIn t=false by simpa using zG.1 bA t hm)⟩)
  zq
#print axioms certifyFailures_card
end Go.Proofs.YtedkppfghdipdaaGreatDoor
