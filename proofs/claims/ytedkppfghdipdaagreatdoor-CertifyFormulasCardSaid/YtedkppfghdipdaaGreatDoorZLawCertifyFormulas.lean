/-
  simprooflaw27.CertifyFormulas answers true for every input.
-/
import Derived.Test.YtedkppfghdipdaaGreatDoorZFmFo9
namespace Go.Proofs.YtedkppfghdipdaaGreatDoor
set_option linter.unusedVariables false
set_option maxHeartbeats 16000000
open Go.RowKit
variable {R:Option (Nat×Bool)} {n:Nat}
theorem BS (f:Fo) (aj:List (List Int)) (hf:Sm 0 f) (hn:aj.length≤8) (cl:Int) (bh:cl=0∨cl=13∨cl=14) (O:List Int) (hO:O.length≤1):zP Tryz.prog 9 [(xL f aj cl 0).c,(xL f aj cl 0).e,(xL f aj cl 0).v (bZ O)] .fr (.bool true):=by
 have hP:=YS f aj hf hn cl bh O hO;have hR:=B8 f aj hf hn cl bh O hO;generalize ja (xw (zE f) 0 aj) aj.length cl O=E at hP hR;simp only [bK.c,bK.e,bK.v,bK.x,xL] at hP hR ⊢;generalize aj.map cy=tr at hP hR ⊢;generalize f.ks.map Fo.fv=K at hP hR ⊢;have c0:=fW.bZ O;generalize bZ O=od at c0 hP hR ⊢;rcases c0 with ⟨rfl,_⟩|⟨es,rfl,_⟩
 all_goals (
  refine zj 17 Tryz.func9 Tryz.ntmps9 rfl ?_;change FW _ _ _ ⟨[(0,_),(1,_),(2,_)],[]⟩;refine yO ?_;refine yG hP (by repeat (first|exact zf.nil|refine zf.cons zd ?_)) rfl rfl ?_;refine zt ?_;refine yG hR (by repeat (first|exact zf.nil|refine zf.cons zd ?_)) rfl rfl ?_;refine zt ?_;refine ⟨by kernel_rfl,?_⟩;skip;exact FW.ret ⟨.inl rfl,zh rfl rfl (congrArg FV.bool (decide_eq_true rfl)) rfl⟩)
theorem Ep (n:Int):xy n 3=0∨xy n 3=1∨xy n 3=2:=by
 have:=Wv (n:=n) (aV:=3) zc;have:=Wu (n:=n) (aV:=3) zc;omega
theorem Gd (R:Option (Nat×Bool)):dp R=0∨dp R=13∨dp R=14:=by
 cases R with
 | none => exact .inr (.inr rfl)
 | some p =>
  obtain ⟨q,b⟩:=p;cases b
  ·exact .inr (.inl rfl)
  ·exact .inl rfl
theorem E7 (R:Option (Nat×Bool)):(fR R).length≤1:=by cases R <;> simp [fR]
theorem Dd (h:∀ q b,R=some (q,b)→q≤n):ja R n (dp R) (fR R)=0:=by
 cases R with
 | none => rfl
 | some p=>
  obtain ⟨q,b⟩:=p;have hq:=h q b rfl;have h1:gy (dp (some (q,b))) (fR (some (q,b))).length=true:=by cases b <;> rfl
  have h2:gG n (fR (some (q,b)))=true:=by
   simp only [gG,fR,ZG,YJ,Bool.and_true,zU,decide_eq_true_eq];omega
  have h3:jk (some (q,b)) (dp (some (q,b))) (fR (some (q,b)))=true:=by
   have e:(nth (fR (some (q,b))) 0+1).toNat=q:=by
    show ((q:Int) - 1+1).toNat=q;omega
   rw [jk,if_neg (VT _),e,sq,decide_eq_true rfl];cases b <;> rfl
  rw [ja,if_pos h1,if_pos h2,if_pos h3]
theorem DZ {cl:Int} {O:List Int} (h:ja R n cl O=0):cl=dp R:=by
 unfold ja at h;by_cases h1:gy cl O.length=true
 ·rw [if_pos h1] at h;by_cases h2:gG n O=true
  ·rw [if_pos h2] at h;by_cases h3:jk R cl O=true
   ·unfold jk at h3;by_cases m5:cl=14
    ·rw [if_pos m5] at h3;cases R with
     | none => exact m5
     | some p => cases h3
    ·rw [if_neg m5] at h3;cases R with
     | none => cases h3
     | some p =>
      obtain ⟨q,b⟩:=p;rw [sq,zU,zU] at h3;exact (of_decide_eq_true h3.2.1).symm
   ·rw [if_neg h3] at h;omega
  ·rw [if_neg h2] at h;omega
 ·rw [if_neg h1] at h;omega
theorem XR (l m:List Int) (eu at_:Int) (hl:∀ x∈l,bD x) (hlen:l.length≤9223372036854775807) (hm:∀ x∈m,bD x) (oA:m.length≤9223372036854775807) (l6:bD eu) (lX:bD at_):zP Tryz.prog 4 [.list 1 (l.map yQ),.list 1 (m.map yQ),.int .i64 eu,.int .i64 at_] .fr (.bool true):=by
 have hF:=BI l hl hlen;have hf:=FO l;generalize (gA l 3 0).1=f at hF hf;have hT:=CH m hm oA;have hn:=vL m;generalize gJ m=aj at hT hn;have hC:=uI f aj hf hn;have nY:∀ q b,xw (zE f) 0 aj=some (q,b)→q≤aj.length:=fun q b h=>by have:=pS h;omega
 have hA:=YS f aj hf hn (dp (xw (zE f) 0 aj)) (Gd _) (fR (xw (zE f) 0 aj)) (E7 _);rw [Dd nY] at hA;have h1:=YF eu 3 l6 zb zb;have h2:=YF at_ ((aj.length:Int)+3) lX zc zc
 have c6:=Wv (n:=at_) (aV:=(aj.length:Int)+3) zc;have cI:=Wu (n:=at_) (aV:=(aj.length:Int)+3) zc;obtain ⟨z,hz⟩:∃ z,xy at_ ((aj.length:Int)+3)=z:=⟨_,rfl⟩
 rw [hz] at h2 c6 cI;clear hz;have hP:=fun cl bh O hO=>YS f aj hf hn cl bh O hO;have hG:=fun cl bh O hO=>BS f aj hf hn cl bh O hO;have hZ:=fun (cl:Int) (O:List Int)=>DZ (R:=xw (zE f) 0 aj) (n:=aj.length) (cl:=cl) (O:=O);generalize xw (zE f) 0 aj=R at hC hA hP hZ;have jW:=(fW.bZ (fR R)).ok;rw [yb f] at hF hC;simp only [bK.c,bK.e,bK.v,xL] at hA hP hG;have mz:(aj.map cy).length=aj.length:=zy _;generalize aj.length=q at h2 c6 cI hn nY hP hZ mz;generalize aj.map cy=tr at hT hC hA hP hG mz;generalize f.ks.map Fo.fv=K at hF hC hA hP hG;generalize f.k=fk at hF hC hA hP hG;generalize f.a=fa at hF hC hA hP hG;generalize f.b=fb at hF hC hA hP hG;generalize f.n=fn at hF hC hA hP hG;generalize bZ (fR R)=od at hC hA jW;generalize dp R=C at hC hA hZ;have hV:[FV.int .i64 8,.int .i64 C,.int .i64 0,od,.list 3 []].all FV.one=true:=by simp only [ZG,YJ,show od.one=true from jW];rfl
 subst mz;refine zj 73 Tryz.func4 Tryz.ntmps4 rfl ?_;change FW _ _ _ ⟨[(0,.list 1 (l.map yQ)),(1,.list 1 (m.map yQ)),(2,.int .i64 eu),(3,.int .i64 at_)],[]⟩;refine za ?_;refine zX hF (by repeat (first|exact zf.nil|refine zf.cons zd ?_)) rfl rfl ?_;refine za ?_;refine zX hT (by repeat (first|exact zf.nil|refine zf.cons zd ?_)) rfl rfl ?_;refine za ?_;refine zX hC (by repeat (first|exact zf.nil|refine zf.cons zd ?_)) rfl rfl ?_
 (repeat (first|refine zn.aR (yV rfl rfl rfl rfl rfl) rfl rfl ?_))
 refine zn.aY (zA rfl rfl hV rfl rfl rfl rfl rfl) rfl ?_;refine za ?_;refine zw hA xr rfl rfl ?_;refine za ?_;refine zC (es:=[[.int .i64 0],[.int .i64 13],[.int .i64 14]]) rfl rfl rfl (by refine zY.int rfl rfl ?_;refine zY.int rfl rfl ?_;refine zY.int rfl rfl ?_;exact zY.nil) rfl rfl rfl rfl rfl ?_;rcases Ep eu with e|e|e
 all_goals (
  rw [e] at h1;refine yO ?_;refine yG h1 (by repeat (first|exact zf.nil|refine zf.cons zd ?_)) rfl rfl ?_;refine zt ?_;refine yG h2 (by repeat (first|exact zf.nil|refine zf.cons zd ?_)) rfl rfl ?_
  (repeat (first|refine zI.ab (XV rfl rfl zc) rfl rfl ?_))
  refine ZM (es:=[[.int .i64 (z - 2)]]) rfl rfl rfl (by refine zY.int rfl rfl ?_;exact zY.nil) rfl rfl rfl rfl rfl ?_;refine zt ?_;refine ⟨by kernel_rfl,?_⟩)
 ·have hP:=hP 0 (.inl rfl) [z - 2] zg;have hG:=hG 0 (.inl rfl) [z - 2] zg;have hZ:=hZ 0 [z - 2];rw [show bZ [z - 2]=FV.list 1 [[.int .i64 (z - 2)]] from (by unfold bZ;rw [if_neg zg];rfl)] at hP hG;generalize ja R tr.length 0 [z - 2]=E at hP hZ;clear hF hT hC h1 h2 jW hV nY;refine za ?_;refine zw hG xr rfl rfl ?_;refine za ?_;refine zw hP xr rfl rfl ?_;refine za ?_;refine yc (fun h=>?_) (fun h=>?_)
  ·refine za ?_;refine zw xP xK rfl ⟨_,_,rfl,rfl,rfl⟩ ?_;refine za ?_;exact FW.ret ⟨.inl rfl,zh rfl rfl rfl rfl⟩
  ·have bh:=hZ (Xg h);refine za ?_;refine yc (fun _=>?_) (fun h2=>absurd bh (of_decide_eq_false h2));skip;refine zw xP xK rfl ⟨_,_,rfl,rfl,rfl⟩ ?_;refine za ?_;exact FW.ret ⟨.inl rfl,zh rfl rfl rfl rfl⟩
 ·have hP:=hP 13 (.inr (.inl rfl)) [z - 2] zg;have hG:=hG 13 (.inr (.inl rfl)) [z - 2] zg;have hZ:=hZ 13 [z - 2];rw [show bZ [z - 2]=FV.list 1 [[.int .i64 (z - 2)]] from (by unfold bZ;rw [if_neg zg];rfl)] at hP hG;generalize ja R tr.length 13 [z - 2]=E at hP hZ;clear hF hT hC h1 h2 jW hV nY;refine za ?_;refine zw hG xr rfl rfl ?_;refine za ?_;refine zw hP xr rfl rfl ?_;refine za ?_;refine yc (fun h=>?_) (fun h=>?_)
  ·refine za ?_;refine zw xP xK rfl ⟨_,_,rfl,rfl,rfl⟩ ?_;refine za ?_;exact FW.ret ⟨.inl rfl,zh rfl rfl rfl rfl⟩
  ·have bh:=hZ (Xg h);refine za ?_;refine yc (fun _=>?_) (fun h2=>absurd bh (of_decide_eq_false h2));skip;refine zw xP xK rfl ⟨_,_,rfl,rfl,rfl⟩ ?_;refine za ?_;exact FW.ret ⟨.inl rfl,zh rfl rfl rfl rfl⟩
 ·have hP:=hP 14 (.inr (.inr rfl)) [] zg;have hG:=hG 14 (.inr (.inr rfl)) [] zg;have hZ:=hZ 14 [];rw [show bZ []=FV.nil from rfl] at hP hG;generalize ja R tr.length 14 []=E at hP hZ;clear hF hT hC h1 h2 jW hV nY;refine za ?_;refine zw hG xr rfl rfl ?_;refine za ?_;refine zw hP xr rfl rfl ?_;refine za ?_;refine yc (fun h=>?_) (fun h=>?_)
  ·refine za ?_;refine zw xP xK rfl ⟨_,_,rfl,rfl,rfl⟩ ?_;refine za ?_;exact FW.ret ⟨.inl rfl,zh rfl rfl rfl rfl⟩
  ·have bh:=hZ (Xg h);refine za ?_;refine yc (fun _=>?_) (fun h2=>absurd bh (of_decide_eq_false h2));skip;refine zw xP xK rfl ⟨_,_,rfl,rfl,rfl⟩ ?_;refine za ?_;exact FW.ret ⟨.inl rfl,zh rfl rfl rfl rfl⟩
end Go.Proofs.YtedkppfghdipdaaGreatDoor
