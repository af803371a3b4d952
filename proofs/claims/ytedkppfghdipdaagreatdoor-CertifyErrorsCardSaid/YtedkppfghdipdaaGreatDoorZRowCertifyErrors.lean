/-
  For every input the law CertifyErrors returns true, and each argument reads afterwards as it read before: one package-level variable is listed, and tied to the program's text by the card.
-/
import Derived.Test.YtedkppfghdipdaaGreatDoorRows
import Derived.Test.YtedkppfghdipdaaGreatDoorCards
import Derived.Test.YtedkppfghdipdaaGreatDoorTie
import Derived.SevenTiedAt
import Derived.LaidMore
import Derived.Test.YtedkppfghdipdaaGreatDoorZC
import Derived.Test.YtedkppfghdipdaaGreatDoorZF
namespace Go.Proofs.YtedkppfghdipdaaGreatDoor
set_option linter.unusedVariables false
set_option maxHeartbeats 16000000
set_option maxRecDepth 100000
open Go.ChangeShapes Go.WideShapes Go.ChangeAt Go.RowKit
theorem XR:ownKnob Tryz.prog.godebug=none:=by kernel_rfl
theorem yg:laidOutB Tryz.prog=true:=by kernel_rfl
theorem Xs (os:Os) (args:Array Value):laidMetH Tryz.prog [("simproof/certify.others",Rows.laid_simproof_certify_others)] ((World.doorLaid Tryz.prog 600 os).forCall (fun _ _=>0) ⟨#[],args,[]⟩).memory:=
 laidMetH_of_parts3 (fuel:=8) (laidMet_of_run' 8 zp zp) zp zp
set_option maxRecDepth 100000 in
theorem YJ (os:Os) (started:os.Started) (H:Type) (enc:TypeId×Value→H) :
  ReturnsInHanded {} Tryz.checked os 5 .any (fun w args=>(Rows.certifyErrorsSpec.pre enc Tryz.prog Tryz.f5 [] false w args∧laidMetH Tryz.prog [("simproof/certify.others",Rows.laid_simproof_certify_others)] w)∧sizedMet enc Tryz.prog Tryz.f5 (OpenSpec.ofChange Rows.certifyErrorsSpec) false w args) (Rows.certifyErrorsSpec.post enc Tryz.prog Tryz.f5 false true false false):=by
 refine returnsInHanded_of_change_and (C:=Tryz.checked) (X:=fun w _=>laidMetH Tryz.prog [("simproof/certify.others",Rows.laid_simproof_certify_others)] w) (fun _ _ _ hh h=>h.of_heap hh) XR started zp Tryz.func5
  (ChangeSpec.witness_shaped (enc:=enc) (C:=Tryz.checked) (os:=os) (X:=fun w _=>laidMetH Tryz.prog [("simproof/certify.others",Rows.laid_simproof_certify_others)] w) false (World.doorLaid Tryz.prog 600 os) #[.int .i64 0,.int .i64 0,.int .i64 0,.slice none 0 0,.agg #[.int .i64 0,.int .i64 0,.int .i64 0]] 8 rfl (World.shaped_of_RefB zp zp) zp zp zp (Xs os _)) ?_
 intro W base args ds gs before lD hW _ _ _ _;have hval:∀ (j:Nat) t v,Tryz.f5.params[j]? = some t→args[j]? = some v→Value.okWide Tryz.prog W .any base t v:=lD;have wq:=hW;obtain ⟨p,q,ee,hV,rfl,_,_⟩:=hW;have hA:DataW.TrodAll enc Tryz.prog W 0 (fun _=>true) true Tryz.f5.params.toList args.toList ds p:=ee;rw [Tryz.params5] at hA hval;obtain ⟨v0,Fa,d0,EC,p0,q0,sX,rfl,rfl,h0,r0⟩:=trodAll_cons hA;obtain ⟨v1,Fb,d1,ED,p1,q1,rfl,rfl,rfl,h1,r1⟩:=trodAll_cons r0;obtain ⟨v2,Fc,d2,EE,p2,q2,rfl,rfl,rfl,h2,r2⟩:=trodAll_cons r1;obtain ⟨v3,Fe,d3,EF,p3,q3,rfl,rfl,rfl,h3,r3⟩:=trodAll_cons r2;obtain ⟨v4,Ff,d4,EG,p4,q4,rfl,rfl,rfl,h4,r4⟩:=trodAll_cons r3;obtain ⟨rfl,rfl,rfl⟩:=trodAll_nil r4;obtain rfl:args=#[v0,v1,v2,v3,v4]:=by cases args;simp_all
 obtain ⟨rfl,rfl⟩:=trodVars_none hV;have k0:=h0;have Ap:∀ x∈p0,x.block<W.heap.size:=by obtain ⟨m,hm⟩:=k0;exact Xi m _ _ _ hm
 obtain ⟨x0,e0,i0⟩:=sa (hval 0 3 v0 rfl rfl) h0;have k1:=h1;have Aq:∀ x∈p1,x.block<W.heap.size:=by obtain ⟨m,hm⟩:=k1;exact Xi m _ _ _ hm
 obtain ⟨x1,e1,i1⟩:=sa (hval 1 3 v1 rfl rfl) h1;have k2:=h2;have Ar:∀ x∈p2,x.block<W.heap.size:=by obtain ⟨m,hm⟩:=k2;exact Xi m _ _ _ hm
 obtain ⟨x2,e2,i2⟩:=sa (hval 2 3 v2 rfl rfl) h2;have k3:=h3;have At:∀ x∈p3,x.block<W.heap.size:=by obtain ⟨m,hm⟩:=k3;exact Xi m _ _ _ hm
 obtain ⟨l3,e3,i3,m3⟩:=DY (hval 3 22 v3 rfl rfl) h3;have k4:=h4;have Au:∀ x∈p4,x.block<W.heap.size:=by obtain ⟨m,hm⟩:=k4;exact Xi m _ _ _ hm
 obtain ⟨x4,y4,z4,e4,i4,j4,m4⟩:=DX (hval 4 53 v4 rfl rfl) h4;clear ee lD;refine ((Xt x0 x1 x2 l3 x4 y4 z4 i0 i1 i2 i3 m3 i4 j4 m4).law (ay.cons e0 (ay.cons e1 (ay.cons e2 (ay.cons e3 (ay.cons e4 ay.nil)))))).mono fun e W' ⟨he,bn⟩=>?_;subst he;exact ⟨_,rfl,_,_,_,[],_,[],wq,trodAll_mk1 (shut_bool Tryz.underlying4 _),(trodAll_cons_mk (Xf yg zp (of_decide_eq_true zp) k0 bn Ap) (trodAll_cons_mk (Xf yg zp (of_decide_eq_true zp) k1 bn Aq) (trodAll_cons_mk (Xf yg zp (of_decide_eq_true zp) k2 bn Ar) (trodAll_cons_mk (Xf yg zp (of_decide_eq_true zp) k3 bn At) (trodAll_cons_mk (Xf yg zp (of_decide_eq_true zp) k4 bn Au) trodAll_mk0))))),rfl,bn.frame _,fun h=>by cases h⟩
theorem certifyErrors_holds:Rows.CertifyErrorsSaid:=
 OpenClaim.holds_of_wide 5 Tryz.f5 rfl rfl rfl rfl rfl rfl rfl ⟨rfl,rfl,rfl,rfl,rfl⟩ rfl rfl rfl rfl rfl zp Tryz.func5 zp
  (of_decide_eq_true zp) (by unfold Func.isWrapper;first|(rw [if_pos (by decide +kernel)];kernel_rfl)|(rw [if_neg (by decide +kernel)];exact ⟨rfl,rfl⟩))
  (fun os started H enc _=>YJ os started H enc)
theorem certifyErrors_card:Rows.CertifyErrorsCardSaid:=
 Claim7.holds_tied_plain_at .later [] [.widerDeep] true (true,"f562bd5e5ab9f97d49b3444d1f44035a2f26ae46313ffa33f9fca5564dc90ebe") false
  certifyErrors_holds (fun _ h=>by cases h) zp (fun _ h=>by cases h) certifyErrors_row_tie rfl ⟨rfl,rfl⟩ zp rfl
  (fun f fn hf wz=>by
   obtain rfl:f=5:=Option.some.inj ((show Tryz.prog.funcNamed "simproof/simprooflaw27.CertifyErrors" = some 5 by kernel_rfl).symm.trans hf) |>.symm;obtain rfl:fn=Tryz.f5:=(Option.some.inj (Tryz.func5.symm.trans wz)).symm;exact ⟨by kernel_rfl,fun j t ht=>by
    rw [Tryz.params5] at ht;have hm:t∈[3,3,3,22,53]:=by simpa using Array.mem_of_getElem? ht
    have bG:([3,3,3,22,53].all fun u=>!Tryz.prog.wantsStandIn u)=true:=by kernel_rfl
    exact (show Tryz.prog.wantsStandIn t=false by simpa using zI.1 bG t hm)⟩)
  zp
#print axioms certifyErrors_card
end Go.Proofs.YtedkppfghdipdaaGreatDoor
