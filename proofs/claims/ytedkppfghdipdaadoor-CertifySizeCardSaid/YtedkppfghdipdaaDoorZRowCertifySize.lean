/-
  For every input the law CertifySize returns true, and each argument reads afterwards as it read before: one package-level variable is listed, and tied to the program's text by the card.
-/
import Derived.Test.YtedkppfghdipdaaDoorRows
import Derived.Test.YtedkppfghdipdaaDoorCards
import Derived.Test.YtedkppfghdipdaaDoorTie
import Derived.SevenTiedAt
import Derived.LaidMore
import Derived.Test.YtedkppfghdipdaaDoorZC
import Derived.Test.YtedkppfghdipdaaDoorZFmCe7
namespace Go.Proofs.YtedkppfghdipdaaDoor
set_option linter.unusedVariables false
set_option maxHeartbeats 16000000
set_option maxRecDepth 100000
open Go.ChangeShapes Go.WideShapes Go.ChangeAt Go.RowKit
theorem Xp:ownKnob Tryd.prog.godebug=none:=by kernel_rfl
theorem xQ:laidOutB Tryd.prog=true:=by kernel_rfl
theorem YK (os:Os) (args:Array Value):laidMetH Tryd.prog [("simproof/certify.others",Rows.laid_simproof_certify_others)] ((World.doorLaid Tryd.prog 600 os).forCall (fun _ _=>0) ⟨#[],args,[]⟩).memory:=
 laidMetH_of_parts3 (fuel:=8) (laidMet_of_run' 8 zm zm) zm zm
set_option maxRecDepth 100000 in
theorem ZY (os:Os) (started:os.Started) (H:Type) (enc:TypeId×Value→H) :
  ReturnsInHanded {} Tryd.checked os 3 .any (fun w args=>(Rows.certifySizeSpec.pre enc Tryd.prog Tryd.f3 [] false w args∧laidMetH Tryd.prog [("simproof/certify.others",Rows.laid_simproof_certify_others)] w)∧sizedMet enc Tryd.prog Tryd.f3 (OpenSpec.ofChange Rows.certifySizeSpec) false w args) (Rows.certifySizeSpec.post enc Tryd.prog Tryd.f3 false true false false):=by
 refine returnsInHanded_of_change_and (C:=Tryd.checked) (X:=fun w _=>laidMetH Tryd.prog [("simproof/certify.others",Rows.laid_simproof_certify_others)] w) (fun _ _ _ hh h=>h.of_heap hh) Xp started zm Tryd.func3
  (ChangeSpec.witness_shaped (enc:=enc) (C:=Tryd.checked) (os:=os) (X:=fun w _=>laidMetH Tryd.prog [("simproof/certify.others",Rows.laid_simproof_certify_others)] w) false (World.doorLaid Tryd.prog 600 os) #[.int .i64 0,.int .i64 0] 8 rfl (World.shaped_of_RefB zm zm) zm zm zm (YK os _)) ?_
 intro W base args ds gs before iC hW _ _ _ _;have hval:∀ (j:Nat) t v,Tryd.f3.params[j]? = some t→args[j]? = some v→Value.okWide Tryd.prog W .any base t v:=iC;have oW:=hW;obtain ⟨p,q,c9,hV,rfl,_,_⟩:=hW;have hA:DataW.TrodAll enc Tryd.prog W 0 (fun _=>true) true Tryd.f3.params.toList args.toList ds p:=c9;rw [Tryd.params3] at hA hval;obtain ⟨v0,s7,d0,sU,p0,q0,nz,rfl,rfl,h0,r0⟩:=trodAll_cons hA;obtain ⟨v1,s8,d1,sV,p1,q1,rfl,rfl,rfl,h1,r1⟩:=trodAll_cons r0;obtain ⟨rfl,rfl,rfl⟩:=trodAll_nil r1;obtain rfl:args=#[v0,v1]:=by cases args;simp_all
 obtain ⟨rfl,rfl⟩:=trodVars_none hV;have k0:=h0;have pY:∀ x∈p0,x.block<W.heap.size:=by obtain ⟨m,hm⟩:=k0;exact DataW.trod_lt m _ _ _ hm
 obtain ⟨x0,e0,i0⟩:=ot (hval 0 3 v0 rfl rfl) h0;have k1:=h1;have pZ:∀ x∈p1,x.block<W.heap.size:=by obtain ⟨m,hm⟩:=k1;exact DataW.trod_lt m _ _ _ hm
 obtain ⟨x1,e1,i1⟩:=ot (hval 1 3 v1 rfl rfl) h1;clear c9 iC;refine ((YL x0 x1 i0 i1).law (ax.cons e0 (ax.cons e1 ax.nil))).mono fun e W' ⟨he,bF⟩=>?_;subst he;exact ⟨_,rfl,_,_,_,[],_,[],oW,trodAll_mk1 (shut_bool Tryd.underlying4 _),(trodAll_cons_mk (Below.trod xQ zm (of_decide_eq_true zm) k0 bF pY) (trodAll_cons_mk (Below.trod xQ zm (of_decide_eq_true zm) k1 bF pZ) trodAll_mk0)),rfl,bF.frame _,fun h=>by cases h⟩
theorem certifySize_holds:Rows.CertifySizeSaid:=
 OpenClaim.holds_of_wide 3 Tryd.f3 rfl rfl rfl rfl rfl rfl rfl ⟨rfl,rfl,rfl,rfl,rfl⟩ rfl rfl rfl rfl rfl zm Tryd.func3 zm
  (of_decide_eq_true zm) (by unfold Func.isWrapper;first|(rw [if_pos (by decide +kernel)];kernel_rfl)|(rw [if_neg (by decide +kernel)];exact ⟨rfl,rfl⟩))
  (fun os started H enc _=>ZY os started H enc)
theorem certifySize_card:Rows.CertifySizeCardSaid:=
 Claim7.holds_tied_plain_at .later [] [.widerDeep] true (true,"401c9c17e80af530cc6b3181ca16b54baa0deb6358d0d9481888986b8eccc7d9") false
  certifySize_holds (fun _ h=>by cases h) zm (fun _ h=>by cases h) certifySize_row_tie rfl ⟨rfl,rfl⟩ zm rfl
  (fun f fn hf oY=>by
   obtain rfl:f=3:=Option.some.inj ((show Tryd.prog.funcNamed "simproof/simprooflaw27.CertifySize" = some 3 by kernel_rfl).symm.trans hf) |>.symm;obtain rfl:fn=Tryd.f3:=(Option.some.inj (Tryd.func3.symm.trans oY)).symm;exact ⟨by kernel_rfl,fun j t ht=>by
    rw [Tryd.params3] at ht;have hm:t∈[3,3]:=by simpa using Array.mem_of_getElem? ht
    have bz:([3,3].all fun u=>!Tryd.prog.wantsStandIn u)=true:=by kernel_rfl
    exact (show Tryd.prog.wantsStandIn t=false by simpa using zC.1 bz t hm)⟩)
  zm
#print axioms certifySize_card
end Go.Proofs.YtedkppfghdipdaaDoor
