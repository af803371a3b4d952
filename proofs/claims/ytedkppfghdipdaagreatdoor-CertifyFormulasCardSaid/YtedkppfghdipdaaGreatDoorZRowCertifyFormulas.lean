/-
  For every input the law CertifyFormulas returns true, and each argument reads afterwards as it read before: one package-level variable is listed, and tied to the program's text by the card.
-/
import Derived.Test.YtedkppfghdipdaaGreatDoorRows
import Derived.Test.YtedkppfghdipdaaGreatDoorCards
import Derived.Test.YtedkppfghdipdaaGreatDoorTie
import Derived.SevenTiedAt
import Derived.LaidMore
import Derived.Test.YtedkppfghdipdaaGreatDoorZC
import Derived.Test.YtedkppfghdipdaaGreatDoorZLawCertifyFormulas
namespace Go.Proofs.YtedkppfghdipdaaGreatDoor
set_option linter.unusedVariables false
set_option maxHeartbeats 16000000
set_option maxRecDepth 100000
open Go.ChangeShapes Go.WideShapes Go.ChangeAt Go.RowKit
theorem We:ownKnob Tryz.prog.godebug=none:=by kernel_rfl
theorem yU:laidOutB Tryz.prog=true:=by kernel_rfl
theorem XQ (os:Os) (args:Array Value):laidMetH Tryz.prog [("simproof/certify.others",Rows.laid_simproof_certify_others)] ((World.doorLaid Tryz.prog 600 os).forCall (fun _ _=>0) ⟨#[],args,[]⟩).memory:=
 laidMetH_of_parts3 (fuel:=8) (laidMet_of_run' 8 zD zD) zD zD
set_option maxRecDepth 100000 in
theorem YZ (os:Os) (started:os.Started) (H:Type) (enc:TypeId×Value→H) :
  ReturnsInHanded {} Tryz.checked os 4 .any (fun w args=>(Rows.certifyFormulasSpec.pre enc Tryz.prog Tryz.f4 [] false w args∧laidMetH Tryz.prog [("simproof/certify.others",Rows.laid_simproof_certify_others)] w)∧sizedMet enc Tryz.prog Tryz.f4 (OpenSpec.ofChange Rows.certifyFormulasSpec) false w args) (Rows.certifyFormulasSpec.post enc Tryz.prog Tryz.f4 false true false false):=by
 refine returnsInHanded_of_change_and (C:=Tryz.checked) (X:=fun w _=>laidMetH Tryz.prog [("simproof/certify.others",Rows.laid_simproof_certify_others)] w) (fun _ _ _ hh h=>h.of_heap hh) We started zD Tryz.func4
  (ChangeSpec.witness_shaped (enc:=enc) (C:=Tryz.checked) (os:=os) (X:=fun w _=>laidMetH Tryz.prog [("simproof/certify.others",Rows.laid_simproof_certify_others)] w) false (World.doorLaid Tryz.prog 600 os) #[.slice none 0 0,.slice none 0 0,.int .i64 0,.int .i64 0] 8 rfl (World.shaped_of_RefB zD zD) zD zD zD (XQ os _)) ?_
 intro W base args ds gs before lr hW _ _ _ _;have hval:∀ (j:Nat) t v,Tryz.f4.params[j]? = some t→args[j]? = some v→Value.okWide Tryz.prog W .any base t v:=lr;have Aj:=hW;obtain ⟨p,q,dY,hV,rfl,_,_⟩:=hW;have hA:DataW.TrodAll enc Tryz.prog W 0 (fun _=>true) true Tryz.f4.params.toList args.toList ds p:=dY;rw [Tryz.params4] at hA hval;obtain ⟨v0,GK,d0,Gs,p0,q0,tF,rfl,rfl,h0,r0⟩:=trodAll_cons hA;obtain ⟨v1,GL,d1,Gt,p1,q1,rfl,rfl,rfl,h1,r1⟩:=trodAll_cons r0;obtain ⟨v2,GM,d2,Gu,p2,q2,rfl,rfl,rfl,h2,r2⟩:=trodAll_cons r1;obtain ⟨v3,GN,d3,Gv,p3,q3,rfl,rfl,rfl,h3,r3⟩:=trodAll_cons r2;obtain ⟨rfl,rfl,rfl⟩:=trodAll_nil r3;obtain rfl:args=#[v0,v1,v2,v3]:=by cases args;simp_all
 obtain ⟨rfl,rfl⟩:=trodVars_none hV;have k0:=h0;have Bl:∀ x∈p0,x.block<W.heap.size:=by obtain ⟨m,hm⟩:=k0;exact VI m _ _ _ hm
 obtain ⟨l0,e0,i0,m0⟩:=wA (hval 0 22 v0 rfl rfl) h0;have k1:=h1;have Bm:∀ x∈p1,x.block<W.heap.size:=by obtain ⟨m,hm⟩:=k1;exact VI m _ _ _ hm
 obtain ⟨l1,e1,i1,m1⟩:=wA (hval 1 22 v1 rfl rfl) h1;have k2:=h2;have Bn:∀ x∈p2,x.block<W.heap.size:=by obtain ⟨m,hm⟩:=k2;exact VI m _ _ _ hm
 obtain ⟨x2,e2,i2⟩:=wM (hval 2 3 v2 rfl rfl) h2;have k3:=h3;have Bo:∀ x∈p3,x.block<W.heap.size:=by obtain ⟨m,hm⟩:=k3;exact VI m _ _ _ hm
 obtain ⟨x3,e3,i3⟩:=wM (hval 3 3 v3 rfl rfl) h3;clear dY lr;refine ((XR l0 l1 x2 x3 i0 m0 i1 m1 i2 i3).law (aD.cons e0 (aD.cons e1 (aD.cons e2 (aD.cons e3 aD.nil))))).mono fun e W' ⟨he,bL⟩=>?_;subst he;exact ⟨_,rfl,_,_,_,[],_,[],Aj,trodAll_mk1 (shut_bool Tryz.underlying4 _),(trodAll_cons_mk (Below.trod yU zD (of_decide_eq_true zD) k0 bL Bl) (trodAll_cons_mk (Below.trod yU zD (of_decide_eq_true zD) k1 bL Bm) (trodAll_cons_mk (Below.trod yU zD (of_decide_eq_true zD) k2 bL Bn) (trodAll_cons_mk (Below.trod yU zD (of_decide_eq_true zD) k3 bL Bo) trodAll_mk0)))),rfl,bL.frame _,fun h=>by cases h⟩
theorem certifyFormulas_holds:Rows.CertifyFormulasSaid:=
 OpenClaim.holds_of_wide 4 Tryz.f4 rfl rfl rfl rfl rfl rfl rfl ⟨rfl,rfl,rfl,rfl,rfl⟩ rfl rfl rfl rfl rfl zD Tryz.func4 zD
  (of_decide_eq_true zD) (by unfold Func.isWrapper;first|(rw [if_pos (by decide +kernel)];kernel_rfl)|(rw [if_neg (by decide +kernel)];exact ⟨rfl,rfl⟩))
  (fun os started H enc _=>YZ os started H enc)
theorem certifyFormulas_card:Rows.CertifyFormulasCardSaid:=
 Claim7.holds_tied_plain_at .later [] [.widerDeep] true (true,"f562bd5e5ab9f97d49b3444d1f44035a2f26ae46313ffa33f9fca5564dc90ebe") false
  certifyFormulas_holds (fun _ h=>by cases h) zD (fun _ h=>by cases h) certifyFormulas_row_tie rfl ⟨rfl,rfl⟩ zD rfl
  (fun f fn hf Ao=>by
   obtain rfl:f=4:=Option.some.inj ((show Tryz.prog.funcNamed "simproof/simprooflaw27.CertifyFormulas" = some 4 by kernel_rfl).symm.trans hf) |>.symm;obtain rfl:fn=Tryz.f4:=(Option.some.inj (Tryz.func4.symm.trans Ao)).symm;exact ⟨by kernel_rfl,fun j t ht=>by
    rw [Tryz.params4] at ht;have hm:t∈[22,22,3,3]:=by simpa using Array.mem_of_getElem? ht
    have aP:([22,22,3,3].all fun u=>!Tryz.prog.wantsStandIn u)=true:=by kernel_rfl
    exact (show Tryz.prog.wantsStandIn t=false by simpa using zV.1 aP t hm)⟩)
  zD
#print axioms certifyFormulas_card
end Go.Proofs.YtedkppfghdipdaaGreatDoor
