/-
  Lemmas, in parts.
-/
import Derived.Test.YtedkppfghdipdaaGreatDoorZFmCf2
import Derived.Test.YtedkppfghdipdaaGreatDoorZFoPlain
import Derived.Test.YtedkppfghdipdaaGreatDoorZC
namespace Go.Proofs.YtedkppfghdipdaaGreatDoor
set_option linter.unusedVariables false
set_option maxHeartbeats 16000000
variable {g:Nat→Fo×Nat} {A b c d i m:Nat} {R:Option (Nat×Bool)}
section
open Go.RowKit
theorem CT (f:Fo) (vs:List Int) (S:Fo) (hs:∀ X,X=.agg f.fv→zP Tryz.prog 26 [X] .sh (.agg S.fv)):zP Tryz.prog 28 [.agg (Fo.fv (.mk 5 0 0 0 [f])),.list 1 (vs.map yQ)] .sh (.agg S.fv):=by
 have hs:=hs _ rfl;rw [yP,zH,yt];refine zj 93 Tryz.func28 Tryz.ntmps28 rfl ?_;change FW _ _ _ ⟨[(0,_),(1,_)],[]⟩;refine FW.seq ?_;refine FW.region ?_;refine Zp ?_;refine FW.le ?_ (au.aL 2 rfl rfl);refine FW.le ?_ (au.aL 3 rfl rfl);refine YL ?_;refine zn.ab (zJ rfl rfl rfl zb Nat.one_pos rfl (zx _)) rfl rfl ?_;refine zX hs (by repeat (first|exact zf.nil|refine zf.cons zd ?_)) rfl rfl ?_;refine zn.aY (zA rfl rfl (ya _) rfl rfl rfl rfl (zx _)) rfl ?_;refine za ?_;exact FW.ret ⟨.inl rfl,zu rfl rfl rfl rfl zb rfl (zx _)⟩
theorem uu (k kk:Int) (hk:k=7∧kk=3∨k=8∧kk=4) (f:Fo) (vs:List Int) (P S R:Fo)
  (h1:zP Tryz.prog 76 ([.int .i64 (0:Nat)]++[.ay 5 [[.int .i64 k,.int .i64 0,.int .i64 0,.int .i64 0,.list 5 [f.fv]]] 0 0,.ay 1 [[.list 1 (vs.map yQ)]] 0 0]) .sh (.agg P.fv))
  (hs:zP Tryz.prog 26 [.agg [.int .i64 k,.int .i64 0,.int .i64 0,.int .i64 0,.list 5 [f.fv]]] .sh (.agg S.fv))
  (hj:zP Tryz.prog 78 [.int .i64 kk,.list 5 [P.fv,S.fv]] .sh (.agg R.fv)):zP Tryz.prog 28 [.agg (Fo.fv (.mk k 0 0 0 [f])),.list 1 (vs.map yQ)] .sh (.agg R.fv):=by
 rw [yP,zH,yt];rcases hk with ⟨rfl,rfl⟩|⟨rfl,rfl⟩
 all_goals (
  refine zj 93 Tryz.func28 Tryz.ntmps28 rfl ?_;change FW _ _ _ ⟨[(0,_),(1,_)],[]⟩;refine FW.seq ?_;refine FW.region ?_;refine Zp ?_;refine FW.le ?_ (au.aL 2 rfl rfl);refine FW.le ?_ (au.aL 3 rfl rfl);refine yO ?_;refine UP rfl h1 (by repeat (first|exact zf.nil|refine zf.cons zd ?_)) rfl rfl ?_;refine zt ?_;refine zK hs (by repeat (first|exact zf.nil|refine zf.cons zd ?_)) rfl rfl ?_;refine ZM (es:=[P.fv,S.fv]) rfl rfl rfl (by refine zY.agg rfl (ya _) (zx _) ?_;refine zY.agg rfl (ya _) (zx _) ?_;exact zY.nil) rfl rfl rfl rfl rfl ?_;refine zK hj (by repeat (first|exact zf.nil|refine zf.cons zd ?_)) rfl rfl ?_;refine zI.aY (zA rfl rfl (ya _) rfl rfl rfl rfl (zx _)) rfl ?_;refine zt ?_;refine ⟨by kernel_rfl,?_⟩;skip;exact FW.ret ⟨.inl rfl,zu rfl rfl rfl rfl zb rfl (zx _)⟩)
theorem CU (f g:Fo) (vs:List Int) (P Q S R T:Fo)
  (h0:zP Tryz.prog 76 ([.int .i64 (0:Nat)]++[.ay 5 [[.int .i64 6,.int .i64 0,.int .i64 0,.int .i64 0,.list 5 [f.fv,g.fv]]] 0 0,.ay 1 [[.list 1 (vs.map yQ)]] 0 0]) .sh (.agg P.fv))
  (h1:zP Tryz.prog 76 ([.int .i64 (1:Nat)]++[.ay 5 [[.int .i64 6,.int .i64 0,.int .i64 0,.int .i64 0,.list 5 [f.fv,g.fv]]] 0 0,.ay 1 [[.list 1 (vs.map yQ)]] 0 0]) .sh (.agg Q.fv))
  (hs:zP Tryz.prog 26 [.agg [.int .i64 6,.int .i64 0,.int .i64 0,.int .i64 0,.list 5 [f.fv,g.fv]]] .sh (.agg S.fv))
  (hj:zP Tryz.prog 78 [.int .i64 3,.list 5 [P.fv,S.fv]] .sh (.agg R.fv)) (fx:zP Tryz.prog 78 [.int .i64 4,.list 5 [Q.fv,R.fv]] .sh (.agg T.fv)):zP Tryz.prog 28 [.agg (Fo.fv (.mk 6 0 0 0 [f,g])),.list 1 (vs.map yQ)] .sh (.agg T.fv):=by
 rw [yP,zH,zH,yt];refine zj 93 Tryz.func28 Tryz.ntmps28 rfl ?_;change FW _ _ _ ⟨[(0,_),(1,_)],[]⟩;refine FW.seq ?_;refine FW.region ?_;refine Zp ?_;refine FW.le ?_ (au.aL 2 rfl rfl);refine FW.le ?_ (au.aL 3 rfl rfl);refine yO ?_;refine UP rfl h1 (by repeat (first|exact zf.nil|refine zf.cons zd ?_)) rfl rfl ?_;refine zt ?_;refine UP rfl h0 (by repeat (first|exact zf.nil|refine zf.cons zd ?_)) rfl rfl ?_;refine zt ?_;refine zK hs (by repeat (first|exact zf.nil|refine zf.cons zd ?_)) rfl rfl ?_;refine ZM (es:=[P.fv,S.fv]) rfl rfl rfl (by refine zY.agg rfl (ya _) (zx _) ?_;refine zY.agg rfl (ya _) (zx _) ?_;exact zY.nil) rfl rfl rfl rfl rfl ?_;refine zK hj (by repeat (first|exact zf.nil|refine zf.cons zd ?_)) rfl rfl ?_;refine ZM (es:=[Q.fv,R.fv]) rfl rfl rfl (by refine zY.agg rfl (ya _) (zx _) ?_;refine zY.agg rfl (ya _) (zx _) ?_;exact zY.nil) rfl rfl rfl rfl rfl ?_;refine zK fx (by repeat (first|exact zf.nil|refine zf.cons zd ?_)) rfl rfl ?_;refine zI.aY (zA rfl rfl (ya _) rfl rfl rfl rfl (zx _)) rfl ?_;refine zt ?_;refine ⟨by kernel_rfl,?_⟩;skip;exact FW.ret ⟨.inl rfl,zu rfl rfl rfl rfl zb rfl (zx _)⟩
theorem B7 (vs:List Int) (f:Fo) (hw:Wf f) (hB:zW f * (1+4 * bU f)≤1000000000000):zP Tryz.prog 28 [.agg f.fv,.list 1 (vs.map yQ)] .sh (.agg (yw vs f).fv):=by
 induction f using Fo.induct with
 | h k a b n ks ih=>
  have Bj:=fun j (hj:j<ks.length)=>ih (nth ks j) (yn hj) (hw.kids _ (yn hj)) (Fj hB (yn hj));have h1:=fun j (hj:j<ks.length)=>BF k a b n ks vs j hj (yw vs (nth ks j)) (fun X Y hX hY=>by rw [hX,hY];exact Bj j hj);have ee:=VS hB;have ov:ks.length≤1000000000000:=by
   have:=yo ks;rw [zW] at ee;omega
  have qI:zG (ks.map (yw vs))≤1000000000000:=Et (f:=.mk k a b n ks) hB;have n5:=uH (.mk k a b n ks) (ks.map (yw vs)) qI (Kd.of hw (zy _) fun g hg=>by
   obtain ⟨x,hx,rfl⟩:=zM.1 hg;exact vT vs (hw.kids x hx))
  have fP:=YW _ hw ee;rw [yP] at fP;have GG:=YA (.mk k a b n ks);have h2:=Fk (vs:=vs) (f:=.mk k a b n ks);cases hw with
  | var a b n ha hb dc => exact CV a b n vs ha hb dc
  | un k f hk hf=>
   have tY:=h1 0 Nat.one_pos;rcases hk with rfl|rfl|rfl|rfl
   ·exact uv 2 0 0 0 [f] vs (.inl rfl) ov _ (fun X Y hX hY=>by rw [hX,hY];exact n5) h1
   ·exact CT f vs _ fun X hX=>by rw [hX];exact YW f hf (by rw [zW] at ee;simp only [zG] at ee;omega)
   ·have h2:=h2 rfl hB;exact uu 7 3 (.inl ⟨rfl,rfl⟩) f vs _ _ _ tY fP (Xl 3 [yw vs f,zE (.mk 7 0 0 0 [f])] (by
     simp only [Fo.ks,zH,yt,zG] at h2 ⊢;omega))
   ·have h2:=h2 rfl hB;exact uu 8 4 (.inr ⟨rfl,rfl⟩) f vs _ _ _ tY fP (Xl 4 [yw vs f,zE (.mk 8 0 0 0 [f])] (by
     simp only [Fo.ks,zH,yt,zG] at h2 ⊢;omega))
  | bG f g hf hg =>
   have h2:=h2 rfl hB;have AJ:=Yz 3 [yw vs f,zE (.mk 6 0 0 0 [f,g])];simp only [Fo.ks,zH,yt,zG] at h2 AJ;exact CU f g vs _ _ _ _ _ (h1 0 zg) (h1 1 zg) fP (Xl 3 [yw vs f,zE (.mk 6 0 0 0 [f,g])] (by simp only [zG];omega)) (Xl 4 [yw vs g,xA 3 [yw vs f,zE (.mk 6 0 0 0 [f,g])]] (by simp only [zG];omega))
  | many k ks hk kj =>
   have e:yw vs (.mk k 0 0 0 ks)=yM (.mk k 0 0 0 ks) (ks.map (yw vs)):=by rw [ZJ];rcases hk with rfl|rfl <;> rfl
   rw [e];exact uv k 0 0 0 ks vs zc ov _ (fun X Y hX hY=>by rw [hX,hY];exact n5) h1
theorem uF (k a b n:Int) (ks:List Fo) (vs:List Int) (hk:k=2∨k=3∨k=4) (hlen:ks.length≤1000000000000) (bF:∀ X,X=.agg (Fo.fv (.mk k a b n ks))→zP Tryz.prog 161 [X] .fr (.bool false))
  (h1:∀ j,j<ks.length→∀ X,X=.agg (nth ks j).fv→zP Tryz.prog 165 [X,.list 1 (vs.map yQ)] .sh (.agg (yW vs (nth ks j)).fv)) :
  zP Tryz.prog 165 [.agg (Fo.fv (.mk k a b n ks)),.list 1 (vs.map yQ)] .sh (.agg (Fo.fv (.mk k 0 0 0 (ks.map (yW vs))))):=by
 have bF:=bF _ rfl;rw [yP] at bF ⊢;rw [yP];refine zj 85 Tryz.func165 Tryz.ntmps165 rfl ?_;change FW _ _ _ ⟨[(0,_),(1,.list 1 (vs.map yQ))],[]⟩;refine za ?_;refine zw bF (by repeat (first|exact zf.nil|refine zf.cons zd ?_)) rfl rfl ?_;refine za ?_;refine FW.cond rfl (fun h=>absurd (of_decide_eq_true h) zc) (fun _=>?_);refine za ?_;refine FW.cond rfl (fun h=>absurd (of_decide_eq_true h) zc) (fun _=>?_);refine za ?_;refine FW.cond rfl (fun h=>absurd (of_decide_eq_true h) zc) (fun _=>?_);refine za ?_;refine FW.cond rfl (fun h=>absurd (of_decide_eq_true h) zc) (fun _=>?_);refine za ?_;refine FW.cond rfl (fun h=>absurd (of_decide_eq_true h) zc) (fun _=>?_);refine za ?_;refine FW.le ?_ (au.um (i:=5) rfl);refine FW.loop (fun i:Nat=>⟨[(1,.list 1 (vs.map yQ)),(2,.ptr 102 0 0 0),(4,.ptr 104 0 0 0),(5,.ptr 105 0 0 0),(6,.int .i64 i)],[(102,⟨0,.own,34,5,[[.int .i64 k,.int .i64 a,.int .i64 b,.int .i64 n,.list 5 (ks.map Fo.fv)]]⟩),(104,⟨0,.own,34,5,[[.int .i64 0,.int .i64 0,.int .i64 0,.int .i64 0,.nil]]⟩),(105,⟨0,.aw,34,5,[[.int .i64 k,.int .i64 0,.int .i64 0,.int .i64 0,.own 106 0 0 ((ks.take i).map (yW vs)).length]]⟩),(106,⟨0,.own,34,5,((ks.take i).map (yW vs)).map Fo.fv⟩)]⟩) (fun i=>i≤ks.length) (fun i=>ks.length - i) 0 (zB _) ?_ ?_
 ·show au _ ⟨[(1,.list 1 (vs.map yQ)),(2,.ptr 102 0 0 0),(4,.ptr 104 0 0 0),(5,.ptr 105 0 0 0),(6,.int .i64 (0:Nat))],[(102,⟨0,.own,34,5,[[.int .i64 k,.int .i64 a,.int .i64 b,.int .i64 n,.list 5 (ks.map Fo.fv)]]⟩),(104,⟨0,.own,34,5,[[.int .i64 0,.int .i64 0,.int .i64 0,.int .i64 0,.nil]]⟩),(105,⟨0,.aw,34,5,[[.int .i64 k,.int .i64 0,.int .i64 0,.int .i64 0,.own 106 0 0 0]]⟩),(106,⟨0,.own,34,5,[]⟩)]⟩;exact (au.cv [⟨102,some 2,1,⟨0,.own,34,5,[[.int .i64 k,.int .i64 a,.int .i64 b,.int .i64 n,.list 5 (ks.map Fo.fv)]]⟩⟩,⟨104,some 4,1,⟨0,.own,34,5,[[.int .i64 0,.int .i64 0,.int .i64 0,.int .i64 0,.nil]]⟩⟩,⟨105,some 5,1,⟨0,.aw,34,5,[[.int .i64 k,.int .i64 0,.int .i64 0,.int .i64 0,.own 106 0 0 0]]⟩⟩,⟨106,none,0,⟨0,.own,34,5,[]⟩⟩] zm zq)
 intro i hi;have il:=Yj (yW vs) hi;refine za ?_;refine FW.cond rfl (fun h=>?_) (fun h=>?_)
 ·have az:i<ks.length:=by have:=of_decide_eq_true (p:=(i:Int)<ks.length) h;omega
  clear h;have bz:=pX (yW vs) az;have gS:=Yj (yW vs) (show i+1≤ks.length from az);have h1:=h1 i az _ rfl;have hg:=lO az;rw [yb (nth ks i)] at h1;generalize yW vs (nth ks i)=S at h1 bz;generalize nth ks i=f at h1 hg;generalize (ks.take i).map (yW vs)=L at il bz ⊢;refine Wd ?_;refine vw rfl rfl rfl rfl rfl rfl rfl ?_;refine YK ?_;refine zI.ab (zJ rfl rfl rfl zb zF hg rfl) rfl rfl ?_;refine zt ?_;refine zK h1 (by repeat (first|exact zf.nil|refine zf.cons zd ?_)) rfl rfl ?_;refine zI.aR (xN rfl rfl rfl rfl (ya _) (zx _) rfl rfl) rfl rfl ?_;refine zt ?_;refine ux (d:=0) rfl rfl ⟨_,_,_,rfl⟩ (xa rfl zb) (fun i v n e=>by injection e with e1 e2 e3 e4;subst e1;subst e2;exact xa rfl zb) rfl rfl rfl rfl (by show 4<5;decide) rfl rfl ?_;refine zI.nil ⟨by kernel_rfl,?_⟩;refine za ?_;refine ⟨i+1,by omega,by omega,?_⟩;rw [gS,bz];have hx:i+1=L.length+1:=by omega
  rw [hx];exact (au.cv [⟨102,some 102,0,⟨0,.own,34,5,[[.int .i64 k,.int .i64 a,.int .i64 b,.int .i64 n,.list 5 (ks.map Fo.fv)]]⟩⟩,⟨104,some 104,0,⟨0,.own,34,5,[[.int .i64 0,.int .i64 0,.int .i64 0,.int .i64 0,.nil]]⟩⟩,⟨105,some 105,0,⟨0,.aw,34,5,[[.int .i64 k,.int .i64 0,.int .i64 0,.int .i64 0,.own 106 0 0 (L.length+1)]]⟩⟩,⟨106,some 82,0+1,⟨0,.own,34,5,L.map Fo.fv++[S.fv]⟩⟩] zm zq)
 ·have he:i=ks.length:=by have:=of_decide_eq_false (p:=(i:Int)<ks.length) h;omega
  rw [he,yI];generalize ks.map (yW vs)=L;refine FW.le ?_ (au.ju (r:=[.int .i64 k,.int .i64 0,.int .i64 0,.int .i64 0,.own 106 0 0 L.length]) (es:=L.map Fo.fv) 105 106 4 zb rfl rfl (by show some _=some _;rw [zy]) rfl rfl);refine za ?_;exact FW.ret ⟨.inl rfl,zu rfl rfl rfl rfl zb rfl rfl⟩
theorem CG (a:Nat) (b n:Int) (vs:List Int) (hb:0≤b) (dc:b≤2) (bF:∀ X,X=.agg (Fo.fv (.mk 1 a b n []))→zP Tryz.prog 161 [X] .fr (.bool false)):zP Tryz.prog 165 [.agg (Fo.fv (.mk 1 a b n [])),.list 1 (vs.map yQ)] .sh (.agg (Wt (ky b (g9 vs a) n)).fv):=by
 have bF:=bF _ rfl;have hh:=Cy a b n vs hb dc;have hT:=uw;have hF:=Wn;rw [yP] at bF hh ⊢;generalize ky b (g9 vs a) n=e at hh ⊢;cases e
 ·rw [show Wt false=fF from rfl];refine zj 85 Tryz.func165 Tryz.ntmps165 rfl ?_;change FW _ _ _ ⟨[(0,_),(1,.list 1 (vs.map yQ))],[]⟩;refine za ?_;refine zw bF (by repeat (first|exact zf.nil|refine zf.cons zd ?_)) rfl rfl ?_;refine za ?_;refine zw hh (by repeat (first|exact zf.nil|refine zf.cons zd ?_)) rfl rfl ?_;refine za ?_;refine zX hF xK rfl rfl ?_;refine zn.aY (zA rfl rfl (ya _) rfl rfl rfl rfl (zx _)) rfl ?_;refine za ?_;exact FW.ret ⟨.inl rfl,zu rfl rfl rfl rfl zb rfl (zx _)⟩
 ·rw [show Wt true=fT from rfl];refine zj 85 Tryz.func165 Tryz.ntmps165 rfl ?_;change FW _ _ _ ⟨[(0,_),(1,.list 1 (vs.map yQ))],[]⟩;refine za ?_;refine zw bF (by repeat (first|exact zf.nil|refine zf.cons zd ?_)) rfl rfl ?_;refine za ?_;refine zw hh (by repeat (first|exact zf.nil|refine zf.cons zd ?_)) rfl rfl ?_;refine za ?_;refine zX hT xK rfl rfl ?_;refine zn.aY (zA rfl rfl (ya _) rfl rfl rfl rfl (zx _)) rfl ?_;refine za ?_;exact FW.ret ⟨.inl rfl,zu rfl rfl rfl rfl zb rfl (zx _)⟩
theorem CE (f:Fo) (vs:List Int) (bF:∀ X,X=.agg (Fo.fv (.mk 5 0 0 0 [f]))→zP Tryz.prog 161 [X] .fr (.bool false)):zP Tryz.prog 165 [.agg (Fo.fv (.mk 5 0 0 0 [f])),.list 1 (vs.map yQ)] .sh (.agg f.fv):=by
 have bF:=bF _ rfl;rw [yP,zH,yt] at bF ⊢;refine zj 85 Tryz.func165 Tryz.ntmps165 rfl ?_;change FW _ _ _ ⟨[(0,_),(1,.list 1 (vs.map yQ))],[]⟩;refine za ?_;refine zw bF (by repeat (first|exact zf.nil|refine zf.cons zd ?_)) rfl rfl ?_;refine YL ?_;refine zn.ab (zJ rfl rfl rfl zb Nat.one_pos rfl (zx _)) rfl rfl ?_;refine zn.aY (zA rfl rfl (ya _) rfl rfl rfl rfl (zx _)) rfl ?_;refine za ?_;exact FW.ret ⟨.inl rfl,zu rfl rfl rfl rfl zb rfl (zx _)⟩
theorem uE (k kk:Int) (hk:k=7∧kk=3∨k=8∧kk=4) (f:Fo) (vs:List Int) (P:Fo) (bF:∀ X,X=.agg (Fo.fv (.mk k 0 0 0 [f]))→zP Tryz.prog 161 [X] .fr (.bool false))
  (h1:∀ X,X=.agg f.fv→zP Tryz.prog 165 [X,.list 1 (vs.map yQ)] .sh (.agg P.fv)):zP Tryz.prog 165 [.agg (Fo.fv (.mk k 0 0 0 [f])),.list 1 (vs.map yQ)] .sh (.agg (Fo.fv (.mk kk 0 0 0 [P,.mk k 0 0 0 [f]]))):=by
 have bF:=bF _ rfl;have h1:=h1 _ rfl;have hb:=XL kk P (.mk k 0 0 0 [f]);generalize Fo.mk kk 0 0 0 [P,.mk k 0 0 0 [f]]=R at hb ⊢;rw [yP k,zH,yt] at bF hb ⊢;rcases hk with ⟨rfl,rfl⟩|⟨rfl,rfl⟩
 all_goals (
  refine zj 85 Tryz.func165 Tryz.ntmps165 rfl ?_;change FW _ _ _ ⟨[(0,_),(1,.list 1 (vs.map yQ))],[]⟩;refine za ?_;refine zw bF (by repeat (first|exact zf.nil|refine zf.cons zd ?_)) rfl rfl ?_;refine Wd ?_;refine zI.ab (zJ rfl rfl rfl zb Nat.one_pos rfl (zx _)) rfl rfl ?_;refine YK ?_;refine zK h1 (by repeat (first|exact zf.nil|refine zf.cons zd ?_)) rfl rfl ?_;refine zt ?_;refine zK hb (by repeat (first|exact zf.nil|refine zf.cons zd ?_)) rfl rfl ?_;refine zI.aY (zA rfl rfl (ya _) rfl rfl rfl rfl (zx _)) rfl ?_;refine zt ?_;refine ⟨by kernel_rfl,?_⟩;skip;exact FW.ret ⟨.inl rfl,zu rfl rfl rfl rfl zb rfl (zx _)⟩)
theorem CF (f g:Fo) (vs:List Int) (P Q:Fo) (bF:∀ X,X=.agg (Fo.fv (.mk 6 0 0 0 [f,g]))→zP Tryz.prog 161 [X] .fr (.bool false))
  (h0:∀ X,X=.agg f.fv→zP Tryz.prog 165 [X,.list 1 (vs.map yQ)] .sh (.agg P.fv)) (h1:∀ X,X=.agg g.fv→zP Tryz.prog 165 [X,.list 1 (vs.map yQ)] .sh (.agg Q.fv)):zP Tryz.prog 165 [.agg (Fo.fv (.mk 6 0 0 0 [f,g])),.list 1 (vs.map yQ)] .sh (.agg (Fo.fv (.mk 4 0 0 0 [Q,.mk 3 0 0 0 [P,.mk 6 0 0 0 [f,g]]]))):=by
 have bF:=bF _ rfl;have h0:=h0 _ rfl;have h1:=h1 _ rfl;have hb:=XL 3 P (.mk 6 0 0 0 [f,g]);generalize Fo.mk 3 0 0 0 [P,.mk 6 0 0 0 [f,g]]=R at hb ⊢;have dc:=XL 4 Q R;generalize Fo.mk 4 0 0 0 [Q,R]=T at dc ⊢;rw [yP 6,zH,zH,yt] at bF hb ⊢;refine zj 85 Tryz.func165 Tryz.ntmps165 rfl ?_;change FW _ _ _ ⟨[(0,_),(1,.list 1 (vs.map yQ))],[]⟩;refine za ?_;refine zw bF (by repeat (first|exact zf.nil|refine zf.cons zd ?_)) rfl rfl ?_;refine Wd ?_;refine zI.ab (zJ rfl rfl rfl zb (Xd (xT _)) rfl (zx _)) rfl rfl ?_;refine YK ?_;refine zK h1 (by repeat (first|exact zf.nil|refine zf.cons zd ?_)) rfl rfl ?_;refine YK ?_;refine zI.ab (zJ rfl rfl rfl zb (xT _) rfl (zx _)) rfl rfl ?_;refine YK ?_;refine zK h0 (by repeat (first|exact zf.nil|refine zf.cons zd ?_)) rfl rfl ?_;refine zt ?_;refine zK hb (by repeat (first|exact zf.nil|refine zf.cons zd ?_)) rfl rfl ?_;refine zK dc (by repeat (first|exact zf.nil|refine zf.cons zd ?_)) rfl rfl ?_;refine zI.aY (zA rfl rfl (ya _) rfl rfl rfl rfl (zx _)) rfl ?_;refine zt ?_;refine ⟨by kernel_rfl,?_⟩;skip;exact FW.ret ⟨.inl rfl,zu rfl rfl rfl rfl zb rfl (zx _)⟩
theorem CZ (vs:List Int) (f:Fo) (hw:Wf f) (hn:zW f≤1000000000000):zP Tryz.prog 165 [.agg f.fv,.list 1 (vs.map yQ)] .sh (.agg (yW vs f).fv):=by
 induction f using Fo.induct with
 | h k a b n ks ih=>
  have bF:=vv _ hw;have hf:∀ X,X=.agg (Fo.fv (.mk k a b n ks))→zP Tryz.prog 161 [X] .fr (.bool false):=fun X hX=>by rw [hX];exact bF
  rw [zW] at hn;have h1:=fun j (hj:j<ks.length)=>ih (nth ks j) (yn hj) (hw.kids _ (yn hj)) (by have:=yC (yn hj);omega);have ov:ks.length≤1000000000000:=by have:=yo ks;omega
  have kd : ∀ j,j<ks.length→∀ X,X=.agg (nth ks j).fv→zP Tryz.prog 165 [X,.list 1 (vs.map yQ)] .sh (.agg (yW vs (nth ks j)).fv):=fun j hj X hX=>by rw [hX];exact h1 j hj
  cases hw with
  | var a b n ha hb dc =>
   obtain ⟨a,rfl⟩:∃ m:Nat,a=m:=⟨a.toNat,by omega⟩
   exact CG a b n vs hb dc hf
  | un k f hk fN =>
   rcases hk with rfl|rfl|rfl|rfl
   ·exact uF 2 0 0 0 [f] vs (.inl rfl) ov hf kd
   ·exact CE f vs hf
   ·exact uE 7 3 (.inl ⟨rfl,rfl⟩) f vs _ hf (kd 0 Nat.one_pos)
   ·exact uE 8 4 (.inr ⟨rfl,rfl⟩) f vs _ hf (kd 0 Nat.one_pos)
  | bG f g fN hg => exact CF f g vs _ _ hf (kd 0 zg) (kd 1 zg)
  | many k ks hk kj =>
   have e:yW vs (.mk k 0 0 0 ks)=.mk k 0 0 0 (ks.map (yW vs)):=by rw [Ym];rcases hk with rfl|rfl <;> rfl
   rw [e];exact uF k 0 0 0 ks vs zc ov hf kd
theorem BG (vs:List Int) (f:Fo) (hw:Wf f) (hB:zW f * (1+4 * bU f)≤1000000000000):zP Tryz.prog 160 [.agg f.fv,.list 1 (vs.map yQ)] .sh (.agg (yw vs f).fv):=by
 have h1:=CZ vs f hw (VS hB);have h2:=wC (yW vs f) (FD vs hw) (zR (DY vs f) hB);rw [DH vs hw] at h2;generalize yw vs f=R at h2 ⊢;generalize yW vs f=S at h1 h2;rw [yb f] at h1 ⊢;refine zj 9 Tryz.func160 Tryz.ntmps160 rfl ?_;change FW _ _ _ ⟨[(0,_),(1,.list 1 (vs.map yQ))],[]⟩;refine za ?_;refine zX h1 (by repeat (first|exact zf.nil|refine zf.cons zd ?_)) rfl rfl ?_;refine zX h2 (by repeat (first|exact zf.nil|refine zf.cons zd ?_)) rfl rfl ?_;refine zn.aY (zA rfl rfl (ya _) rfl rfl rfl rfl (zx _)) rfl ?_;refine za ?_;exact FW.ret ⟨.inl rfl,zu rfl rfl rfl rfl zb rfl (zx _)⟩
def cy (vs:List Int):List FV:=[.list 1 (vs.map yQ)]
theorem vz (g:Fo) (i:Nat):xw g i []=if g.cst then some (i,decide (g.k=3)) else none:=rfl
theorem u5 {g:Fo} {aj:List (List Int)} (hi:i<aj.length) (hc:g.cst=false):xw g i (aj.drop i)=xw (yw (nth aj i) g) (i+1) (aj.drop (i+1)):=by
 rw [vV hi,xw,if_neg (by rw [hc];decide),xI hi]
def qo (cl:Int) (od:FV):List FV:=[.int .i64 8,.int .i64 cl,.int .i64 0,od,.nil]
theorem D2 (f:Fo) (aj:List (List Int)) (hf:Sm 0 f) (hn:aj.length≤8):zP Tryz.prog 13 [.agg f.fv,.list 1 (aj.map cy)] .sh (.agg (qo (dp (xw (zE f) 0 aj)) (bZ (fR (xw (zE f) 0 aj))))):=by
 have hs:=YW f hf.wf (VS (hf.iD zc));have oi:Sm 0 (zE f):=hf.simp;have hR:xw (zE f) 0 (aj.drop 0)=xw (zE f) 0 aj:=by rw [Zo]
 generalize xw (zE f) 0 aj=R at hR ⊢;rw [yb f] at hs ⊢;generalize f.k=k at hs ⊢;generalize f.a=a at hs ⊢;generalize f.b=b at hs ⊢;generalize f.n=n at hs ⊢;generalize f.ks.map Fo.fv=K at hs ⊢;generalize zE f=g0 at hs oi hR;rw [yb g0] at hs;refine zj 42 Tryz.func13 Tryz.ntmps13 rfl ?_;change FW _ _ _ ⟨[(0,_),(1,_)],[]⟩;refine za ?_;refine FW.scope ?_;refine za ?_;refine zX hs (by repeat (first|exact zf.nil|refine zf.cons zd ?_)) rfl rfl ?_;refine za ?_;refine FW.mono (Q:=fun e s'=>e=.exit 0∧∃ (i:Nat) (g:Fo),(i≤aj.length∧R=if g.cst then some (i,decide (g.k=3)) else none)∧au s' ⟨[(2,.ptr 102 0 0 0),(4,.ptr 104 0 0 0),(5,.ptr 105 0 0 0),(6,.int .i64 ((i:Int) - 1))],[(102,⟨0,.own,34,5,[[.int .i64 g.k,.int .i64 g.a,.int .i64 g.b,.int .i64 g.n,.list 5 (g.ks.map Fo.fv)]]⟩),(104,⟨0,.own,43,5,[[.int .i64 0,.int .i64 0,.int .i64 0,.nil,.nil]]⟩),(105,⟨0,.own,43,5,[[.int .i64 8,.int .i64 14,.int .i64 0,.nil,.nil]]⟩)]⟩) ?_ ?_
 ·refine FW.loop (fun p:Nat×Fo=>⟨[(2,.ptr 102 0 0 0),(4,.ptr 104 0 0 0),(5,.ptr 105 0 0 0),(6,.int .i64 ((p.1:Int) - 1)),(12,.list 1 (aj.map cy)),(13,.int .i64 aj.length),(14,.int .i64 p.1)],[(102,⟨0,.own,34,5,[[.int .i64 p.2.k,.int .i64 p.2.a,.int .i64 p.2.b,.int .i64 p.2.n,.list 5 (p.2.ks.map Fo.fv)]]⟩),(104,⟨0,.own,43,5,[[.int .i64 0,.int .i64 0,.int .i64 0,.nil,.nil]]⟩),(105,⟨0,.own,43,5,[[.int .i64 8,.int .i64 14,.int .i64 0,.nil,.nil]]⟩)]⟩) (fun p=>p.1≤aj.length∧Sm p.1 p.2∧xw p.2 p.1 (aj.drop p.1)=R) (fun p=>aj.length - p.1) (0,g0) ⟨zB _,oi,hR⟩ ?_ ?_
  ·obtain ⟨z,hz⟩:∃ z:Int,((0:Nat):Int) - 1=z:=⟨_,rfl⟩
   show au _ ⟨[(2,.ptr 102 0 0 0),(4,.ptr 104 0 0 0),(5,.ptr 105 0 0 0),(6,.int .i64 (((0:Nat):Int) - 1)),(12,.list 1 (aj.map cy)),(13,.int .i64 aj.length),(14,.int .i64 (0:Nat))],_⟩;rw [hz];have hz:z = -1:=by omega
   subst hz;exact (au.cv [⟨102,some 2,1,⟨0,.own,34,5,[[.int .i64 g0.k,.int .i64 g0.a,.int .i64 g0.b,.int .i64 g0.n,.list 5 (g0.ks.map Fo.fv)]]⟩⟩,⟨104,some 4,1,⟨0,.own,43,5,[[.int .i64 0,.int .i64 0,.int .i64 0,.nil,.nil]]⟩⟩,⟨105,some 5,1,⟨0,.own,43,5,[[.int .i64 8,.int .i64 14,.int .i64 0,.nil,.nil]]⟩⟩] zm zq)
  rintro ⟨i,g⟩ ⟨hi,hg,hr⟩;dsimp only at hi hg hr ⊢;refine za ?_;refine FW.cond rfl (fun h=>?_) (fun h=>?_)
  ·have az:i<aj.length:=by have:=of_decide_eq_true (p:=(i:Int)<aj.length) h;omega
   clear h;have hc:=xm g;rw [yb g] at hc;have hp:=B7 (nth aj i) g hg.wf (hg.iD zc);rw [yb g,yb (yw (nth aj i) g)] at hp;have hd:=u5 (g:=g) az;have kD:=hg.prog (nth aj i);generalize yw (nth aj i) g=g' at hp hd kD;refine za ?_;refine zw hc (by repeat (first|exact zf.nil|refine zf.cons zd ?_)) rfl rfl ?_;cases e7:g.cst with
   | true =>
    refine za ?_;refine ⟨rfl,i,g,⟨hi,?_⟩,?_⟩
    ·rw [← hr,Ua e7,e7,if_pos rfl]
    ·exact (au.cv [⟨102,some 102,0,⟨0,.own,34,5,[[.int .i64 g.k,.int .i64 g.a,.int .i64 g.b,.int .i64 g.n,.list 5 (g.ks.map Fo.fv)]]⟩⟩,⟨104,some 104,0,⟨0,.own,43,5,[[.int .i64 0,.int .i64 0,.int .i64 0,.nil,.nil]]⟩⟩,⟨105,some 105,0,⟨0,.own,43,5,[[.int .i64 8,.int .i64 14,.int .i64 0,.nil,.nil]]⟩⟩] zm zq)
   | false =>
    refine za ?_;refine zX hp (by repeat (first|exact zf.nil|refine zf.cons zd ?_)) rfl rfl ?_;refine za ?_;refine ⟨(i+1,g'),⟨az,kD,by rw [← hd e7];exact hr⟩,by dsimp only;omega,?_⟩;exact (au.cv [⟨102,some 102,0,⟨0,.own,34,5,[[.int .i64 g'.k,.int .i64 g'.a,.int .i64 g'.b,.int .i64 g'.n,.list 5 (g'.ks.map Fo.fv)]]⟩⟩,⟨104,some 104,0,⟨0,.own,43,5,[[.int .i64 0,.int .i64 0,.int .i64 0,.nil,.nil]]⟩⟩,⟨105,some 105,0,⟨0,.own,43,5,[[.int .i64 8,.int .i64 14,.int .i64 0,.nil,.nil]]⟩⟩] zm zq)
  ·have he:i=aj.length:=by have:=of_decide_eq_false (p:=(i:Int)<aj.length) h;omega
   subst he;refine za ?_;refine ⟨rfl,aj.length,g,⟨hi,?_⟩,?_⟩
   ·rw [← hr,List.drop_length,vz]
   ·exact (au.cv [⟨102,some 102,0,⟨0,.own,34,5,[[.int .i64 g.k,.int .i64 g.a,.int .i64 g.b,.int .i64 g.n,.list 5 (g.ks.map Fo.fv)]]⟩⟩,⟨104,some 104,0,⟨0,.own,43,5,[[.int .i64 0,.int .i64 0,.int .i64 0,.nil,.nil]]⟩⟩,⟨105,some 105,0,⟨0,.own,43,5,[[.int .i64 8,.int .i64 14,.int .i64 0,.nil,.nil]]⟩⟩] zm zq)
 ·rintro e s' ⟨rfl,i,g,⟨hi,hR⟩,hle⟩;refine FW.le (s':=⟨[(2,.ptr 102 0 0 0),(4,.ptr 104 0 0 0),(5,.ptr 105 0 0 0),(6,.int .i64 ((i:Int) - 1))],[(102,⟨0,.own,34,5,[[.int .i64 g.k,.int .i64 g.a,.int .i64 g.b,.int .i64 g.n,.list 5 (g.ks.map Fo.fv)]]⟩),(104,⟨0,.own,43,5,[[.int .i64 0,.int .i64 0,.int .i64 0,.nil,.nil]]⟩),(105,⟨0,.own,43,5,[[.int .i64 8,.int .i64 14,.int .i64 0,.nil,.nil]]⟩)]⟩) ?_ hle;clear hle;have hc:=xm g;rw [yb g] at hc;refine za ?_;refine zw hc (by repeat (first|exact zf.nil|refine zf.cons zd ?_)) rfl rfl ?_;cases e7:g.cst with
  | false =>
   rw [e7,if_neg zb] at hR;subst hR;refine za ?_;exact FW.ret ⟨.inl rfl,zu rfl rfl rfl rfl zb rfl rfl⟩
  | true=>
   rw [e7,if_pos rfl] at hR;subst hR;refine za ?_;refine FW.cond rfl (fun h=>?_) (fun h=>?_)
   ·have h:decide (g.k=3)=true:=h;rw [h];refine pR ?_;refine zC (es:=[[.int .i64 ((i:Int) - 1)]]) rfl rfl rfl (by refine zY.int rfl rfl ?_;exact zY.nil) rfl rfl rfl rfl rfl ?_;refine za ?_;exact FW.ret ⟨.inl rfl,zu rfl rfl rfl rfl zb rfl rfl⟩
   ·have h:decide (g.k=3)=false:=h;rw [h];refine pR ?_;refine zC (es:=[[.int .i64 ((i:Int) - 1)]]) rfl rfl rfl (by refine zY.int rfl rfl ?_;exact zY.nil) rfl rfl rfl rfl rfl ?_;refine za ?_;exact FW.ret ⟨.inl rfl,zu rfl rfl rfl rfl zb rfl rfl⟩
theorem uI (f:Fo) (aj:List (List Int)) (hf:Sm 0 f) (hn:aj.length≤8):zP Tryz.prog 13 [.agg f.fv,.list 1 (aj.map cy)] .sh (.agg [.int .i64 8,.int .i64 (dp (xw (zE f) 0 aj)),.int .i64 0,bZ (fR (xw (zE f) 0 aj)),.list 3 []]):=
 (D2 f aj hf hn).weaken (.inr rfl) (.agg (.cons (.refl _) (.cons (.refl _) (.cons (.refl _) (.cons (.refl _) (.cons (.nil _) .nil)))))) rfl
theorem uG (f:Fo) (aj:List (List Int)) (hf:Sm 0 f) (hn:aj.length≤8):zP Tryz.prog 116 [.agg f.fv,.list 1 (aj.map cy)] .fr (.int .i64 (dp (xw (zE f) 0 aj))):=by
 have hc:=uI f aj hf hn;generalize xw (zE f) 0 aj=R at hc ⊢;generalize bZ (fR R)=od at hc;rw [yb f] at hc ⊢;refine zj 9 Tryz.func116 Tryz.ntmps116 rfl ?_;change FW _ _ _ ⟨[(0,_),(1,_)],[]⟩;refine za ?_;refine zX hc (by repeat (first|exact zf.nil|refine zf.cons zd ?_)) rfl rfl ?_;refine uY rfl rfl rfl rfl rfl rfl rfl rfl ?_;refine za ?_;exact FW.ret ⟨.inl rfl,zh rfl rfl rfl rfl⟩
def xL (f:Fo) (aj:List (List Int)) (cl ar:Int):bK:={ k:=8,fk:=f.k,fa:=f.a,fb:=f.b,fn:=f.n,kids:=f.ks.map Fo.fv,tr:=aj.map cy,cl:=cl,ar:=ar }
def UN (R:Option (Nat×Bool)) (m:Nat):Option (Nat×Bool):=match R with
 | none => none
 | some (q, b) => if q ≤ m then some (q, b) else none
theorem sk (g:Fo) (aj:List (List Int)) (m:Nat):xw g 0 (aj.take m)=UN (xw g 0 aj) m:=by
 rw [ES];cases xw g 0 aj with
 | none => rfl
 | some p => simp only [UN, yr]
theorem VT (p:Nat×Bool):dp (some p)≠14:=by
 obtain ⟨q,b⟩:=p;cases b <;> simp [dp]
theorem Di (f:Fo) (aj:List (List Int)) (hf:Sm 0 f) (hn:aj.length≤8) (cl ar:Int) (od:FV) (c0:od.one=true) (m:Nat) (hm:m≤aj.length):zP Tryz.prog 115 ([.int .i64 ((m:Int) - 1)]++[.ay 15 [[.int .i64 8,.int .i64 0,.int .i64 f.k,.int .i64 f.a,.int .i64 f.b,.int .i64 f.n,.list 5 (f.ks.map Fo.fv),.list 8 [],.list 1 (aj.map cy),.list 4 [],.int .i64 8,.int .i64 cl,.int .i64 ar,od,.list 3 []]] 0 0]) .fr (.int .i64 (dp (UN (xw (zE f) 0 aj) m))):=by
 have hv:=uG f (aj.take m) hf (by rw [yE];omega);rw [sk,yb f] at hv;generalize dp (UN (xw (zE f) 0 aj) m)=C at hv ⊢;have ht:(List.drop 0 (aj.map cy)).take (m - 0)=(aj.take m).map cy:=by rw [Zo,Nat.sub_zero,VN]
 rw [← ht] at hv;clear ht;refine zj 14 Tryz.func115 Tryz.ntmps115 rfl ?_;change FW _ _ _ ⟨[(0,.int .i64 ((m:Int) - 1)),(1,_)],[]⟩
 (repeat (first|refine FW.seq ?_|refine FW.region ?_|refine zn.nil ?_|refine zn.ab (yi rfl) rfl rfl ?_|refine FW.draw ?_|refine zI.ab (yN rfl rfl rfl rfl rfl) rfl rfl ?_|refine zI.ab (yF rfl rfl rfl xt rfl rfl rfl) rfl rfl ?_|refine EI rfl rfl rfl rfl xt rfl rfl rfl rfl ?_|refine zI.ab (zS rfl) rfl rfl ?_|refine zI.ab (Vr rfl rfl zc) rfl rfl ?_))
 refine zI.ab (Yv (l:=0) (u:=m) rfl rfl rfl rfl jd.none (jc.lit rfl zc) (zB _) (by rw [zy];exact hm)) rfl rfl ?_;skip;refine yG hv (by repeat (first|exact zf.nil|refine zf.cons zd ?_)) rfl rfl ?_;refine zt ?_;refine ⟨by kernel_rfl,?_⟩;skip;exact FW.ret ⟨.inl rfl,zh rfl rfl rfl rfl⟩
def kA (R:Option (Nat×Bool)) (c:Int) (A:Nat) (ar:Int):Bool:=match R with
 | none => false
 | some (q, b) => decide (q=A) && (decide ((if b then (0:Int) else 13)=c) && decide (ar=0))
theorem D3 {c ar:Int} (hm:m<A) (h:dp (UN R m)≠14):kA R c A ar=false:=by
 cases R with
 | none => rfl
 | some p =>
  obtain ⟨q,b⟩:=p;have hq:q≤m:=VJ fun hq=>h (by rw [UN,if_neg hq];rfl);rw [kA,decide_eq_false zc,YH]
theorem Ge {c ar:Int} (hc:c≠14) (h:∀ j,j<A→dp (UN R j)=14):kA R c A ar=(decide (dp (UN R A)=c) && decide (ar=0)):=by
 cases R with
 | none =>
  rw [show dp (UN none A)=14 from rfl,decide_eq_false (fun e=>hc e.symm)];rfl
 | some p=>
  obtain ⟨q,b⟩:=p;have hq:A≤q:=VJ fun hq=>by
   have:=h q zc;rw [UN,if_pos (zi _)] at this;exact VT _ this
  by_cases he:q=A
  ·subst he;rw [kA,decide_eq_true rfl,Zn,UN,if_pos (zi _)];rfl
  ·rw [kA,decide_eq_false he,YH,UN,if_neg (show ¬ q≤A by omega),show dp none=14 from rfl,decide_eq_false (fun e=>hc e.symm)];rfl
theorem D4 (f:Fo) (aj:List (List Int)) (hf:Sm 0 f) (hn:aj.length≤8) (cl ar c:Int) (hc:c≠14) (A:Nat) (hA:A≤aj.length):zP Tryz.prog 114 ([(xL f aj cl ar).x (.list 1 [[.int .i64 ((A:Int) - 1)]])]++[vc (.int .i64 c)]) .fr (.bool (kA (xw (zE f) 0 aj) c A ar)):=by
 have h1:=fun m (hm:m≤aj.length)=>Di f aj hf hn cl ar (.list 1 [[.int .i64 ((A:Int) - 1)]]) rfl m hm;simp only [bK.x,xL,vc];generalize xw (zE f) 0 aj=R at h1 ⊢;generalize f.k=k at h1 ⊢;generalize f.a=a at h1 ⊢;generalize f.b=b at h1 ⊢;generalize f.n=n at h1 ⊢;generalize f.ks.map Fo.fv=K at h1 ⊢;refine zj 34 Tryz.func114 Tryz.ntmps114 rfl ?_;change FW _ _ _ ⟨[(0,_),(1,_)],[]⟩;refine FW.seq ?_;refine FW.region ?_;refine Zp ?_;refine FW.le ?_ (au.aL 2 rfl rfl);refine za ?_;refine FW.loop (fun m:Nat=>⟨[(1,.ay 1 [[.int .i64 c]] 0 0),(2,.ay 15 [[.int .i64 8,.int .i64 0,.int .i64 k,.int .i64 a,.int .i64 b,.int .i64 n,.list 5 K,.list 8 [],.list 1 (aj.map cy),.list 4 [],.int .i64 8,.int .i64 cl,.int .i64 ar,.list 1 [[.int .i64 ((A:Int) - 1)]],.list 3 []]] 0 0),(4,.int .i64 ((A:Int) - 1)),(5,.fn 115 [.ay 15 [[.int .i64 8,.int .i64 0,.int .i64 k,.int .i64 a,.int .i64 b,.int .i64 n,.list 5 K,.list 8 [],.list 1 (aj.map cy),.list 4 [],.int .i64 8,.int .i64 cl,.int .i64 ar,.list 1 [[.int .i64 ((A:Int) - 1)]],.list 3 []]] 0 0]),(6,.int .i64 ((m:Int) - 1))],[]⟩) (fun m=>m≤A∧∀ j,j<m→dp (UN R j)=14) (fun m=>A - m) 0 ⟨zB _,fun j hj=>absurd hj (ZQ j)⟩ ?_ ?_
 ·obtain ⟨z,hz⟩:∃ z:Int,z = -1:=⟨_,rfl⟩
  rw [show (-1:Int)=z from hz.symm,show (((0:Nat):Int) - 1)=z by omega];exact (au.cv [] Zb zq)
 rintro m ⟨hm,aP⟩;refine za ?_;refine FW.cond rfl (fun h=>?_) (fun h=>?_)
 ·have az:m<A:=by have:=of_decide_eq_true (p:=(m:Int) - 1<(A:Int) - 1) h;omega
  clear h;have h1:=h1 m zc;have he:=D3 (R:=R) (c:=c) (ar:=ar) az;generalize hC:dp (UN R m)=C at h1 he;refine za ?_;refine Yk rfl h1 (by repeat (first|exact zf.nil|refine zf.cons zd ?_)) rfl rfl ?_;refine za ?_;refine FW.cond rfl (fun h=>?_) (fun h=>?_)
  ·rw [he (of_decide_eq_true (p:=C≠14) h)];refine za ?_;exact FW.ret ⟨.inl rfl,zh rfl rfl rfl rfl⟩
  ·have h:C=14:=Xg h;refine za ?_;refine ⟨m+1,⟨by omega,fun j hj=>?_⟩,by omega,(au.cv [] Zb zq)⟩;by_cases iM:j=m
   ·subst iM;rw [hC];exact h
   ·exact aP j zc
 ·have he:m=A:=by have:=of_decide_eq_false (p:=(m:Int) - 1<(A:Int) - 1) h;omega
  subst he;have h1:=h1 m zc;rw [Ge hc aP];generalize dp (UN R m)=C at h1 ⊢;refine yO ?_;refine vy rfl h1 (by repeat (first|exact zf.nil|refine zf.cons zd ?_)) rfl rfl ?_;refine zt ?_;refine sH (fun h=>?_) (fun h=>?_)
  ·have h:decide (C=c)=true:=h;rw [h,Zn];refine zt ?_;refine ⟨by kernel_rfl,?_⟩;skip;exact FW.ret ⟨.inl rfl,zh rfl rfl rfl rfl⟩
  ·have h:decide (C=c)=false:=h;rw [h,YH];refine zt ?_;refine ⟨by kernel_rfl,?_⟩;skip;exact FW.ret ⟨.inl rfl,zh rfl rfl rfl rfl⟩
theorem CJ (f:Fo) (aj:List (List Int)) (hf:Sm 0 f) (hn:aj.length≤8) (cl ar:Int) (od:FV) (c0:od.one=true):zP Tryz.prog 63 ([(xL f aj cl ar).x od]++[]) .fr (.bool ((xw (zE f) 0 aj).isNone && decide (ar=0))):=by
 have h1:=fun m (hm:m≤aj.length)=>uG f (aj.take m) hf (by rw [yE];omega);have hA:=(xL f aj cl ar).one c0;have hle:∀ q b,xw (zE f) 0 aj=some (q,b)→q≤aj.length:=fun q b h=>by have:=pS h;omega
 have ht:∀ m,(List.drop 0 (aj.map cy)).take (m - 0)=(aj.take m).map cy:=fun m=>by rw [Zo,Nat.sub_zero,VN]
 simp only [sk,← ht,yb f] at h1;simp only [bK.x,xL] at hA ⊢;generalize xw (zE f) 0 aj=R at h1 hle ⊢;generalize f.k=k at h1 hA ⊢;generalize f.a=a at h1 hA ⊢;generalize f.b=b at h1 hA ⊢;generalize f.n=n at h1 hA ⊢;generalize f.ks.map Fo.fv=K at h1 hA ⊢;refine zj 27 Tryz.func63 Tryz.ntmps63 rfl ?_;change FW _ _ _ ⟨[(0,_)],[]⟩;refine xf ?_;refine zn.aR (yA rfl rfl hA rfl rfl) rfl rfl ?_;refine za ?_;refine FW.loop (fun m:Nat=>⟨[(1,.ptr 101 0 0 0),(8,.int .i64 ((aj.length:Int)+1)),(9,.int .i64 m)],[(101,⟨0,.own,64,15,[[.int .i64 8,.int .i64 0,.int .i64 k,.int .i64 a,.int .i64 b,.int .i64 n,.list 5 K,.list 8 [],.list 1 (aj.map cy),.list 4 [],.int .i64 8,.int .i64 cl,.int .i64 ar,od,.list 3 []]]⟩)]⟩) (fun m=>m≤aj.length+1∧∀ j,j<m→dp (UN R j)=14) (fun m=>aj.length+1 - m) 0 ⟨zB _,fun j hj=>absurd hj (ZQ j)⟩ ?_ ?_
 ·exact (au.cv [⟨101,some 1,1,⟨0,.own,64,15,[[.int .i64 8,.int .i64 0,.int .i64 k,.int .i64 a,.int .i64 b,.int .i64 n,.list 5 K,.list 8 [],.list 1 (aj.map cy),.list 4 [],.int .i64 8,.int .i64 cl,.int .i64 ar,od,.list 3 []]]⟩⟩] zm zq)
 rintro m ⟨hm,aP⟩;refine za ?_;refine FW.cond rfl (fun h=>?_) (fun h=>?_)
 ·have az:m<aj.length+1:=by have:=of_decide_eq_true (p:=(m:Int)<(aj.length:Int)+1) h;omega
  clear h;have h1:=h1 m zc;generalize hC:dp (UN R m)=C at h1
  (repeat (first|refine FW.seq ?_|refine FW.region ?_|refine FW.block ?_|refine FW.skip ?_|refine zn.nil ?_|refine zn.ab (yi rfl) rfl rfl ?_|refine zn.ab (zS rfl) rfl rfl ?_|refine FW.draw ?_|refine zI.ab (yD rfl rfl rfl rfl rfl rfl zb) rfl rfl ?_|refine zI.ab (xM rfl rfl rfl rfl rfl xt rfl rfl rfl) rfl rfl ?_|refine zI.ab (uR rfl rfl rfl rfl rfl rfl xt rfl rfl) rfl rfl ?_|refine zI.ab (zS rfl) rfl rfl ?_))
  refine zI.ab (Yv (l:=0) (u:=m) rfl rfl rfl rfl jd.none (jc.lit rfl zc) (zB _) (by rw [zy];omega)) rfl rfl ?_;refine yG h1 (by repeat (first|exact zf.nil|refine zf.cons zd ?_)) rfl rfl ?_;refine zt ?_;refine ⟨by kernel_rfl,?_⟩;skip;refine FW.cond rfl (fun h=>?_) (fun h=>?_)
  ·have h:C≠14:=of_decide_eq_true (p:=C≠14) h;have hR:R.isNone=false:=by
    cases R with
    | none => exact absurd hC.symm h
    | some p => rfl
   rw [hR,YH];refine za ?_;exact FW.ret ⟨.inl rfl,zh rfl rfl rfl rfl⟩
  ·have h:C=14:=Xg h;refine za ?_;refine ⟨m+1,⟨by omega,fun j hj=>?_⟩,by omega,(au.cv [⟨101,some 101,0,⟨0,.own,64,15,[[.int .i64 8,.int .i64 0,.int .i64 k,.int .i64 a,.int .i64 b,.int .i64 n,.list 5 K,.list 8 [],.list 1 (aj.map cy),.list 4 [],.int .i64 8,.int .i64 cl,.int .i64 ar,od,.list 3 []]]⟩⟩] zm zq)⟩;by_cases iM:j=m
   ·subst iM;rw [hC];exact h
   ·exact aP j zc
 ·have he:m=aj.length+1:=by have:=of_decide_eq_false (p:=(m:Int)<(aj.length:Int)+1) h;omega
  have hR:R.isNone=true:=by
   cases R with
   | none => rfl
   | some p =>
    obtain ⟨q,b⟩:=p;have h2:=hle q b rfl;have:=aP q zc;rw [UN,if_pos (zi _)] at this;exact absurd this (VT _)
  rw [hR,Zn];refine za ?_;exact FW.ret ⟨.inl rfl,zh rfl rfl rfl rfl⟩
theorem FE {g:Fo} (h:g.cst=true):decide (g.k=4)=!decide (g.k=3):=by
 rw [Fo.cst,zU,VF,decide_eq_true_eq,decide_eq_true_eq] at h;rcases h.1 with h|h <;> rw [h] <;> rfl
theorem CW (f:Fo) (aj:List (List Int)) (hf:Sm 0 f) (hn:aj.length≤8):zP Tryz.prog 151 [.agg f.fv,.list 1 (aj.map cy)] .sh (.agg (qo (dp (xw (zE f) 0 aj)) (bZ (fR (xw (zE f) 0 aj))))):=by
 have hs:=wC f hf.wf (VS (hf.iD zc));have oi:Sm 0 (zE f):=hf.simp;have hR:xw (zE f) 0 (aj.drop 0)=xw (zE f) 0 aj:=by rw [Zo]
 generalize xw (zE f) 0 aj=R at hR ⊢;rw [yb f] at hs ⊢;generalize f.k=k at hs ⊢;generalize f.a=a at hs ⊢;generalize f.b=b at hs ⊢;generalize f.n=n at hs ⊢;generalize f.ks.map Fo.fv=K at hs ⊢;generalize zE f=g0 at hs oi hR;rw [yb g0] at hs;refine zj 41 Tryz.func151 Tryz.ntmps151 rfl ?_;change FW _ _ _ ⟨[(0,_),(1,.list 1 (aj.map cy))],[]⟩;refine za ?_;refine zX hs (by repeat (first|exact zf.nil|refine zf.cons zd ?_)) rfl rfl ?_;refine za ?_;refine FW.loop (fun p:Nat×Fo=>⟨[(1,.list 1 (aj.map cy)),(4,.ptr 104 0 0 0),(5,.ptr 105 0 0 0),(6,.ptr 106 0 0 0),(7,.int .i64 p.1)],[(104,⟨0,.own,43,5,[[.int .i64 0,.int .i64 0,.int .i64 0,.nil,.nil]]⟩),(105,⟨0,.own,43,5,[[.int .i64 8,.int .i64 14,.int .i64 0,.nil,.nil]]⟩),(106,⟨0,.own,34,5,[[.int .i64 p.2.k,.int .i64 p.2.a,.int .i64 p.2.b,.int .i64 p.2.n,.list 5 (p.2.ks.map Fo.fv)]]⟩)]⟩) (fun p=>p.1≤aj.length+1∧(p.1≤aj.length→Sm p.1 p.2∧xw p.2 p.1 (aj.drop p.1)=R)∧(aj.length<p.1→R=none)) (fun p=>aj.length+1 - p.1) (0,g0) ⟨zB _,fun _=>⟨oi,hR⟩,fun h=>absurd h (ZQ _)⟩ ?_ ?_
 ·exact (au.cv [⟨104,some 4,1,⟨0,.own,43,5,[[.int .i64 0,.int .i64 0,.int .i64 0,.nil,.nil]]⟩⟩,⟨105,some 5,1,⟨0,.own,43,5,[[.int .i64 8,.int .i64 14,.int .i64 0,.nil,.nil]]⟩⟩,⟨106,some 6,1,⟨0,.own,34,5,[[.int .i64 g0.k,.int .i64 g0.a,.int .i64 g0.b,.int .i64 g0.n,.list 5 (g0.ks.map Fo.fv)]]⟩⟩] zm zq)
 rintro ⟨i,g⟩ ⟨hi,hg,hr⟩;dsimp only at hi hg hr ⊢;refine za ?_;refine FW.cond rfl (fun h=>?_) (fun h=>?_)
 ·have hle:i≤aj.length:=by have:=of_decide_eq_true (p:=(i:Int)≤aj.length) h;omega
  clear h hr;obtain ⟨hg,hr⟩:=hg hle;have hc:=Zr g;rw [yb g] at hc;refine za ?_;refine zw hc (by repeat (first|exact zf.nil|refine zf.cons zd ?_)) rfl rfl ?_;cases e7:g.cst with
  | true=>
   rw [Ua e7] at hr;subst hr;have hk:=FE e7;refine za ?_;refine FW.cond rfl (fun h=>?_) (fun h=>?_)
   ·have h:decide (g.k=4)=true:=h;have h3:decide (g.k=3)=false:=by rw [h] at hk;simpa using hk.symm
    rw [h3];refine pR ?_;refine zC (es:=[[.int .i64 ((i:Int) - 1)]]) rfl rfl rfl (by refine zY.int rfl rfl ?_;exact zY.nil) rfl rfl rfl rfl rfl ?_;refine za ?_;exact FW.ret ⟨.inl rfl,zu rfl rfl rfl rfl zb rfl rfl⟩
   ·have h:decide (g.k=4)=false:=h;have h3:decide (g.k=3)=true:=by rw [h] at hk;simpa using hk.symm
    rw [h3];refine pR ?_;refine zC (es:=[[.int .i64 ((i:Int) - 1)]]) rfl rfl rfl (by refine zY.int rfl rfl ?_;exact zY.nil) rfl rfl rfl rfl rfl ?_;refine za ?_;exact FW.ret ⟨.inl rfl,zu rfl rfl rfl rfl zb rfl rfl⟩
  | false=>
   refine za ?_;refine FW.cond rfl (fun h=>?_) (fun h=>?_)
   ·have az:i<aj.length:=by have:=of_decide_eq_true (p:=(i:Int)<aj.length) h;omega
    clear h;have hp:=BG (nth aj i) g hg.wf (hg.iD zc);rw [yb g,yb (yw (nth aj i) g)] at hp;have hd:=u5 (g:=g) az e7;have kD:=hg.prog (nth aj i);generalize yw (nth aj i) g=g' at hp hd kD;refine yO ?_;refine zK hp (by repeat (first|exact zf.nil|refine zf.cons zd ?_)) rfl rfl ?_;refine zt ?_;refine ⟨by kernel_rfl,?_⟩;refine za ?_;refine ⟨(i+1,g'),⟨by dsimp only;omega,fun _=>⟨kD,by rw [← hd];exact hr⟩,fun h=>by dsimp only at h;omega⟩,by dsimp only;omega,?_⟩;exact (au.cv [⟨104,some 104,0,⟨0,.own,43,5,[[.int .i64 0,.int .i64 0,.int .i64 0,.nil,.nil]]⟩⟩,⟨105,some 105,0,⟨0,.own,43,5,[[.int .i64 8,.int .i64 14,.int .i64 0,.nil,.nil]]⟩⟩,⟨106,some 106,0,⟨0,.own,34,5,[[.int .i64 g'.k,.int .i64 g'.a,.int .i64 g'.b,.int .i64 g'.n,.list 5 (g'.ks.map Fo.fv)]]⟩⟩] zm zq)
   ·have he:i=aj.length:=by have:=of_decide_eq_false (p:=(i:Int)<aj.length) h;omega
    subst he;rw [List.drop_length,vz,e7,if_neg zb] at hr;refine za ?_;refine ⟨(aj.length+1,g),⟨zi _,fun h=>by dsimp only at h;omega,fun _=>hr.symm⟩,by dsimp only;omega,?_⟩;exact (au.cv [⟨104,some 104,0,⟨0,.own,43,5,[[.int .i64 0,.int .i64 0,.int .i64 0,.nil,.nil]]⟩⟩,⟨105,some 105,0,⟨0,.own,43,5,[[.int .i64 8,.int .i64 14,.int .i64 0,.nil,.nil]]⟩⟩,⟨106,some 106,0,⟨0,.own,34,5,[[.int .i64 g.k,.int .i64 g.a,.int .i64 g.b,.int .i64 g.n,.list 5 (g.ks.map Fo.fv)]]⟩⟩] zm zq)
 ·have az:aj.length<i:=by have:=of_decide_eq_false (p:=(i:Int)≤aj.length) h;omega
  rw [hr az];refine za ?_;exact FW.ret ⟨.inl rfl,zu rfl rfl rfl rfl zb rfl rfl⟩
def tj:Option (Nat×Bool)→Int
 | none => 0
 | some (m, _) => (m:Int) - 1
def th:Option (Nat×Bool)→Bool
 | none => false
 | some (_, b) => b
theorem Fm (q:Nat) (b:Bool):decide (dp (some (q,b))=0)=b:=by cases b <;> rfl
theorem WU (f:Fo) (aj:List (List Int)) (hf:Sm 0 f) (hn:aj.length≤8):zP Tryz.prog 131 [.agg f.fv,.list 1 (aj.map cy)] .fr (.bS [.int .i64 (tj (xw (zE f) 0 aj)),.bool (th (xw (zE f) 0 aj)),.bool (xw (zE f) 0 aj).isSome]):=by
 have h1:=fun m (hm:m≤aj.length)=>CW f (aj.take m) hf (by rw [yE];omega);have hle:∀ q b,xw (zE f) 0 aj=some (q,b)→q≤aj.length:=fun q b h=>by have:=pS h;omega
 have ht:∀ m,(List.drop 0 (aj.map cy)).take (m - 0)=(aj.take m).map cy:=fun m=>by rw [Zo,Nat.sub_zero,VN]
 simp only [sk,← ht,yb f] at h1;rw [yb f];generalize xw (zE f) 0 aj=R at h1 hle ⊢;generalize f.k=k at h1 ⊢;generalize f.a=a at h1 ⊢;generalize f.b=b at h1 ⊢;generalize f.n=n at h1 ⊢;generalize f.ks.map Fo.fv=K at h1 ⊢;refine zj 28 Tryz.func131 Tryz.ntmps131 rfl ?_;change FW _ _ _ ⟨[(0,_),(1,.list 1 (aj.map cy))],[]⟩;refine za ?_;refine FW.loop (fun m:Nat=>⟨[(1,.list 1 (aj.map cy)),(2,.ptr 102 0 0 0),(7,.int .i64 ((m:Int) - 1))],[(102,⟨0,.own,34,5,[[.int .i64 k,.int .i64 a,.int .i64 b,.int .i64 n,.list 5 K]]⟩)]⟩) (fun m=>m≤aj.length+1∧∀ j,j<m→UN R j=none) (fun m=>aj.length+1 - m) 0 ⟨zB _,fun j hj=>absurd hj (ZQ j)⟩ ?_ ?_
 ·obtain ⟨z,hz⟩:∃ z:Int,z = -1:=⟨_,rfl⟩
  rw [show (-1:Int)=z from hz.symm,show (((0:Nat):Int) - 1)=z by omega];exact (au.cv [⟨102,some 2,1,⟨0,.own,34,5,[[.int .i64 k,.int .i64 a,.int .i64 b,.int .i64 n,.list 5 K]]⟩⟩] zm zq)
 rintro m ⟨hm,aP⟩;refine za ?_;refine FW.cond rfl (fun h=>?_) (fun h=>?_)
 ·have az:m≤aj.length:=by have:=of_decide_eq_true (p:=(m:Int) - 1<(aj.length:Int)) h;omega
  clear h;have h1:=h1 m az;cases hP:UN R m with
  | none =>
   rw [hP] at h1;simp only [qo,dp,fR,show bZ []=FV.nil from rfl] at h1
   (repeat (first|refine FW.seq ?_|refine FW.block ?_|refine FW.skip ?_|refine FW.draw ?_|refine zI.ab (zS rfl) rfl rfl ?_|refine zI.ab (yu rfl rfl rfl zb rfl rfl xt rfl rfl) rfl rfl ?_|refine zI.ab (Vr rfl rfl zc) rfl rfl ?_))
   refine zI.ab (Yv (l:=0) (u:=m) rfl rfl rfl rfl jd.none (jc.lit rfl zc) (zB _) (by rw [zy];omega)) rfl rfl ?_;refine zK h1 (by repeat (first|exact zf.nil|refine zf.cons zd ?_)) rfl rfl ?_;refine zt ?_;refine ⟨by kernel_rfl,?_⟩;refine za ?_;refine ⟨m+1,⟨by omega,fun j hj=>?_⟩,by omega,(au.cv [⟨102,some 102,0,⟨0,.own,34,5,[[.int .i64 k,.int .i64 a,.int .i64 b,.int .i64 n,.list 5 K]]⟩⟩] zm zq)⟩;by_cases iM:j=m
   ·subst iM;exact hP
   ·exact aP j zc
  | some p=>
   obtain ⟨q,e⟩:=p;have AT:R=some (q,e)∧q=m:=by
    cases R with
    | none => cases hP
    | some p=>
     obtain ⟨q',e'⟩:=p;rw [UN] at hP;split at hP
     ·injection hP with hP;injection hP with h3 h4
      subst h3;subst h4;refine ⟨rfl,?_⟩;refine VJ fun bQ=>?_;have:=aP q' zc;rw [UN,if_pos (zi _)] at this;cases this
     ·cases hP
   obtain ⟨rfl,rfl⟩:=AT;rw [hP] at h1;have bh:=VT (q,e);have hz:=Fm q e;simp only [qo] at h1;generalize dp (some (q,e))=C at h1 bh hz;have c0:(bZ (fR (some (q,e)))).one=true:=rfl;generalize bZ (fR (some (q,e)))=od at h1 c0;have hV:[FV.int .i64 8,.int .i64 C,.int .i64 0,od,.nil].all FV.one=true:=by simp only [ZG,YJ,c0];rfl
   (repeat (first|refine FW.seq ?_|refine FW.block ?_|refine FW.skip ?_|refine FW.draw ?_|refine zI.ab (zS rfl) rfl rfl ?_|refine zI.ab (yu rfl rfl rfl zb rfl rfl xt rfl rfl) rfl rfl ?_|refine zI.ab (Vr rfl rfl zc) rfl rfl ?_))
   refine zI.ab (Yv (l:=0) (u:=q) rfl rfl rfl rfl jd.none (jc.lit rfl zc) (zB _) (by rw [zy];omega)) rfl rfl ?_;refine zK h1 (by repeat (first|exact zf.nil|refine zf.cons zd ?_)) rfl rfl ?_
   (repeat (first|refine zI.aR (yV rfl rfl rfl rfl rfl) rfl rfl ?_))
   refine zI.aY (zA rfl rfl hV rfl rfl rfl rfl rfl) rfl ?_;refine zt ?_;refine ⟨by kernel_rfl,?_⟩;refine za ?_;refine FW.cond rfl (fun _=>?_) (fun h=>absurd (Xg h) bh);refine yO ?_;refine ⟨by kernel_rfl,?_⟩;rw [hz];skip;exact FW.ret ⟨.inl rfl,.flat (.cons (.tmp _ rfl rfl) (.cons (.tmp _ rfl rfl) (.cons (.tmp _ rfl rfl) .nil))) rfl rfl⟩
 ·have az:m=aj.length+1:=by have:=of_decide_eq_false (p:=(m:Int) - 1<(aj.length:Int)) h;omega
  have hR:R=none:=by
   cases R with
   | none => rfl
   | some p =>
    obtain ⟨q,b⟩:=p;have h2:=hle q b rfl;have:=aP q zc;rw [UN,if_pos (zi _)] at this;cases this
  subst hR;refine za ?_;exact FW.ret ⟨.inl rfl,.flat (.cons (.tmp _ rfl rfl) (.cons (.tmp _ rfl rfl) (.cons (.tmp _ rfl rfl) .nil))) rfl rfl⟩
def gy (cl:Int) (n:Nat):Bool:=if cl=14 then decide (n=0) else decide (n=1)
theorem Cq (f:Fo) (aj:List (List Int)) (cl:Int) (od:FV) (n:Nat) (c0:fW od n) (bh:cl=0∨cl=13∨cl=14):zP Tryz.prog 68 [(xL f aj cl 0).x od] .fr (.bool (gy cl n)):=by
 have hA:=(xL f aj cl 0).one c0.ok;simp only [bK.x,xL] at hA ⊢;generalize aj.map cy=tr at hA ⊢;generalize f.ks.map Fo.fv=K at hA ⊢;rcases bh with rfl|rfl|rfl
 ·rcases c0 with ⟨rfl,rfl⟩|⟨es,rfl,rfl⟩
  all_goals (
   refine zj 236 Tryz.func68 Tryz.ntmps68 rfl ?_;change FW _ _ _ ⟨[(0,_)],[]⟩;refine xf ?_;refine zn.aR (yA rfl rfl hA rfl rfl) rfl rfl ?_;refine za ?_;exact FW.ret ⟨.inl rfl,zh rfl rfl (congrArg FV.bool (by first|rfl|(simp [gy];done)|(simp [gy];omega))) rfl⟩)
 all_goals (
  rcases c0 with ⟨rfl,rfl⟩|⟨es,rfl,rfl⟩
  (·
    refine zj 236 Tryz.func68 Tryz.ntmps68 rfl ?_;change FW _ _ _ ⟨[(0,_)],[]⟩;refine xf ?_;refine zn.aR (yA rfl rfl hA rfl rfl) rfl rfl ?_;refine za ?_;exact FW.ret ⟨.inl rfl,zh rfl rfl rfl rfl⟩)
  (·
    refine zj 236 Tryz.func68 Tryz.ntmps68 rfl ?_;change FW _ _ _ ⟨[(0,_)],[]⟩;refine xf ?_;refine zn.aR (yA rfl rfl hA rfl rfl) rfl rfl ?_;refine za ?_;refine yc (fun h=>?_) (fun h=>?_)
    (·
      have h:=of_decide_eq_true h;refine za ?_;exact FW.ret ⟨.inl rfl,zh rfl rfl (congrArg FV.bool (by simp only [gy];exact (decide_eq_true zc).symm)) rfl⟩)
    (·
      have h:=of_decide_eq_false h;refine za ?_;exact FW.ret ⟨.inl rfl,zh rfl rfl (congrArg FV.bool (by simp only [gy];exact (decide_eq_false zc).symm)) rfl⟩)))
def gG (m:Nat) (O:List Int):Bool:=O.all fun a=>decide (-1≤a) && decide (a<m)
theorem Cp (f:Fo) (aj:List (List Int)) (cl:Int) (O:List Int) (hlen:aj.length≤1000000) (hO:O.length≤1):zP Tryz.prog 69 [(xL f aj cl 0).x (bZ O)] .fr (.bool (gG aj.length O)):=by
 have hA:=(xL f aj cl 0).one (fW.bZ O).ok;simp only [bK.x,xL] at hA ⊢;obtain ⟨m,hm⟩:∃ m,aj.length=m:=⟨_,rfl⟩
 obtain ⟨tr,mA⟩:∃ tr,aj.map cy=tr:=⟨_,rfl⟩
 have ld:tr.length=m:=by rw [← mA,zy];exact hm
 rw [hm] at hlen ⊢;rw [mA] at hA ⊢;generalize f.ks.map Fo.fv=K at hA ⊢;clear mA hm;subst ld
 match O,hO with
 | [], _ =>
  change [_,_,_,_,_,_,_,_,_,_,_,_,_,FV.nil,_].all FV.one=true at hA;show zP _ _ [.agg [_,_,_,_,_,_,_,_,_,_,_,_,_,FV.nil,_]] _ (.bool true);refine zj 91 Tryz.func69 Tryz.ntmps69 rfl ?_;change FW _ _ _ ⟨[(0,_)],[]⟩;refine xf ?_;refine zn.aR (yA rfl rfl hA rfl rfl) rfl rfl ?_;refine za ?_;obtain ⟨z,hz⟩:∃ z:Int,z = -1:=⟨_,rfl⟩
  rw [show (-1:Int)=z from hz.symm];refine FW.loop (fun _:Unit=>⟨[(1,.ptr 101 0 0 0),(3,.int .i64 z),(4,.int .i64 tr.length),(5,.int .i64 0)],[(101,⟨0,.own,75,15,[[.int .i64 8,.int .i64 0,.int .i64 f.k,.int .i64 f.a,.int .i64 f.b,.int .i64 f.n,.list 5 K,.list 8 [],.list 1 tr,.list 4 [],.int .i64 8,.int .i64 cl,.int .i64 0,.nil,.list 3 []]]⟩)]⟩) (fun _=>True) (fun _=>0) () trivial ?_ ?_
  ·exact (au.cv [⟨101,some 1,1,⟨0,.own,75,15,[[.int .i64 8,.int .i64 0,.int .i64 f.k,.int .i64 f.a,.int .i64 f.b,.int .i64 f.n,.list 5 K,.list 8 [],.list 1 tr,.list 4 [],.int .i64 8,.int .i64 cl,.int .i64 0,.nil,.list 3 []]]⟩⟩] zm zq)
  intro _ _;refine za ?_;refine FW.loop (fun _:Unit=>⟨[(1,.ptr 101 0 0 0),(3,.int .i64 z),(4,.int .i64 tr.length),(7,.int .i64 0)],[(101,⟨0,.own,75,15,[[.int .i64 8,.int .i64 0,.int .i64 f.k,.int .i64 f.a,.int .i64 f.b,.int .i64 f.n,.list 5 K,.list 8 [],.list 1 tr,.list 4 [],.int .i64 8,.int .i64 cl,.int .i64 0,.nil,.list 3 []]]⟩)]⟩) (fun _=>True) (fun _=>0) () trivial ?_ ?_
  ·exact (au.cv [⟨101,some 101,0,⟨0,.own,75,15,[[.int .i64 8,.int .i64 0,.int .i64 f.k,.int .i64 f.a,.int .i64 f.b,.int .i64 f.n,.list 5 K,.list 8 [],.list 1 tr,.list 4 [],.int .i64 8,.int .i64 cl,.int .i64 0,.nil,.list 3 []]]⟩⟩] zm zq)
  intro _ _;refine za ?_;exact FW.ret ⟨.inl rfl,zh rfl rfl rfl rfl⟩
 | [a],_=>
  change [_,_,_,_,_,_,_,_,_,_,_,_,_,FV.list 1 [[.int .i64 a]],_].all FV.one=true at hA;show zP _ _ [.agg [_,_,_,_,_,_,_,_,_,_,_,_,_,FV.list 1 [[.int .i64 a]],_]] _ _;have hr:gG tr.length [a]=(decide (-1≤a) && decide (a<tr.length)):=by simp [gG]
  rw [hr];refine zj 91 Tryz.func69 Tryz.ntmps69 rfl ?_;change FW _ _ _ ⟨[(0,_)],[]⟩;refine xf ?_;refine zn.aR (yA rfl rfl hA rfl rfl) rfl rfl ?_;refine za ?_;obtain ⟨z,hz⟩:∃ z:Int,z = -1:=⟨_,rfl⟩
  rw [show (-1:Int)=z from hz.symm];refine FW.loop (fun i:Nat=>⟨[(1,.ptr 101 0 0 0),(3,.int .i64 z),(4,.int .i64 tr.length),(5,.int .i64 i)],[(101,⟨0,.own,75,15,[[.int .i64 8,.int .i64 0,.int .i64 f.k,.int .i64 f.a,.int .i64 f.b,.int .i64 f.n,.list 5 K,.list 8 [],.list 1 tr,.list 4 [],.int .i64 8,.int .i64 cl,.int .i64 0,.list 1 [[.int .i64 a]],.list 3 []]]⟩)]⟩) (fun i=>i≤1∧(i=1→z≤a∧a<tr.length)) (fun i=>1 - i) 0 ⟨zB _,fun h=>by cases h⟩ ?_ ?_
  ·exact (au.cv [⟨101,some 1,1,⟨0,.own,75,15,[[.int .i64 8,.int .i64 0,.int .i64 f.k,.int .i64 f.a,.int .i64 f.b,.int .i64 f.n,.list 5 K,.list 8 [],.list 1 tr,.list 4 [],.int .i64 8,.int .i64 cl,.int .i64 0,.list 1 [[.int .i64 a]],.list 3 []]]⟩⟩] zm zq)
  rintro i ⟨hi,aP⟩;obtain rfl|rfl:i=0∨i=1:=by omega
  ·refine za ?_;refine yc (fun h=>?_) (fun h=>?_)
   ·rw [show decide (z≤a)=false from decide_eq_false (by have:=of_decide_eq_true h;omega),YH];refine za ?_;exact FW.ret ⟨.inl rfl,zh rfl rfl rfl rfl⟩
   ·have h:=of_decide_eq_false h;refine za ?_;refine FW.cond rfl (fun h2=>?_) (fun h2=>?_)
    ·have h2:decide (a≥tr.length)=true:=h2;rw [show decide (a<tr.length)=false from decide_eq_false (by have:=of_decide_eq_true h2;omega),Bool.and_false];refine za ?_;exact FW.ret ⟨.inl rfl,zh rfl rfl rfl rfl⟩
    ·have h2:decide (a≥tr.length)=false:=h2;have h2:=of_decide_eq_false h2;refine za ?_;refine ⟨1,⟨zi _,fun _=>by omega⟩,by decide,?_⟩;exact (au.cv [⟨101,some 101,0,⟨0,.own,75,15,[[.int .i64 8,.int .i64 0,.int .i64 f.k,.int .i64 f.a,.int .i64 f.b,.int .i64 f.n,.list 5 K,.list 8 [],.list 1 tr,.list 4 [],.int .i64 8,.int .i64 cl,.int .i64 0,.list 1 [[.int .i64 a]],.list 3 []]]⟩⟩] zm zq)
  ·have aP:=aP rfl;rw [show decide (z≤a)=true from decide_eq_true aP.1,show decide (a<tr.length)=true from decide_eq_true aP.2];refine za ?_;refine FW.loop (fun _:Unit=>⟨[(1,.ptr 101 0 0 0),(3,.int .i64 z),(4,.int .i64 tr.length),(7,.int .i64 0)],[(101,⟨0,.own,75,15,[[.int .i64 8,.int .i64 0,.int .i64 f.k,.int .i64 f.a,.int .i64 f.b,.int .i64 f.n,.list 5 K,.list 8 [],.list 1 tr,.list 4 [],.int .i64 8,.int .i64 cl,.int .i64 0,.list 1 [[.int .i64 a]],.list 3 []]]⟩)]⟩) (fun _=>True) (fun _=>0) () trivial ?_ ?_
   ·exact (au.cv [⟨101,some 101,0,⟨0,.own,75,15,[[.int .i64 8,.int .i64 0,.int .i64 f.k,.int .i64 f.a,.int .i64 f.b,.int .i64 f.n,.list 5 K,.list 8 [],.list 1 tr,.list 4 [],.int .i64 8,.int .i64 cl,.int .i64 0,.list 1 [[.int .i64 a]],.list 3 []]]⟩⟩] zm zq)
   intro _ _;refine za ?_;exact FW.ret ⟨.inl rfl,zh rfl rfl rfl rfl⟩
theorem BQ (f:Fo) (aj:List (List Int)) (hf:Sm 0 f) (hn:aj.length≤8) (od:FV) (c0:od.one=true):zP Tryz.prog 70 [(xL f aj 14 0).x od] .fr (.bool (xw (zE f) 0 aj).isNone):=by
 have hd:=WU f aj hf hn;have hA:=(xL f aj 14 0).one c0;rw [yb f] at hd;simp only [bK.x,xL] at hA ⊢;generalize xw (zE f) 0 aj=R at hd ⊢;generalize aj.map cy=tr at hA hd ⊢;generalize f.ks.map Fo.fv=K at hA hd ⊢;cases R
 all_goals (
  refine zj 523 Tryz.func70 Tryz.ntmps70 rfl ?_;change FW _ _ _ ⟨[(0,_)],[]⟩;refine xf ?_;refine zn.aR (yA rfl rfl hA rfl rfl) rfl rfl ?_;refine za ?_;refine zC (es:=[[.int .i64 1],[.int .i64 2]]) rfl rfl rfl (by refine zY.int rfl rfl ?_;refine zY.int rfl rfl ?_;exact zY.nil) rfl rfl rfl rfl rfl ?_;refine za ?_;refine zw hd (by repeat (first|exact zf.nil|refine zf.cons zd ?_)) rfl rfl ?_;refine za ?_;exact FW.ret ⟨.inl rfl,zh rfl rfl rfl rfl⟩)
theorem sq (q A:Nat) (b:Bool) (c:Int):kA (some (q,b)) c A 0=(decide (q=A) && (decide ((if b then (0:Int) else 13)=c) && decide ((0:Int)=0))):=rfl
theorem B9 (f:Fo) (aj:List (List Int)) (hf:Sm 0 f) (hn:aj.length≤8) (c:Int) (hc:c=0∨c=13) (A:Nat):zP Tryz.prog 70 [(xL f aj c 0).x (.list 1 [[.int .i64 ((A:Int) - 1)]])] .fr (.bool (kA (xw (zE f) 0 aj) c A 0)):=by
 have hd:=WU f aj hf hn;have hA:=(xL f aj c 0).one (od:=.list 1 [[.int .i64 ((A:Int) - 1)]]) rfl;rw [yb f] at hd;simp only [bK.x,xL] at hA ⊢;generalize xw (zE f) 0 aj=R at hd ⊢;generalize aj.map cy=tr at hA hd ⊢;generalize f.ks.map Fo.fv=K at hA hd ⊢;cases R with
 | none=>
  rcases hc with rfl|rfl
  all_goals (
   refine zj 523 Tryz.func70 Tryz.ntmps70 rfl ?_;change FW _ _ _ ⟨[(0,_)],[]⟩;refine xf ?_;refine zn.aR (yA rfl rfl hA rfl rfl) rfl rfl ?_;refine za ?_;refine zC (es:=[[.int .i64 1],[.int .i64 2]]) rfl rfl rfl (by refine zY.int rfl rfl ?_;refine zY.int rfl rfl ?_;exact zY.nil) rfl rfl rfl rfl rfl ?_;refine za ?_;refine zw hd (by repeat (first|exact zf.nil|refine zf.cons zd ?_)) rfl rfl ?_;refine za ?_;exact FW.ret ⟨.inl rfl,zh rfl rfl rfl rfl⟩)
 | some p=>
  obtain ⟨q,b⟩:=p;rw [sq];by_cases hq:q=A
  ·subst hq;rw [decide_eq_true rfl,Zn];simp only [tj,th,Option.isSome] at hd;generalize hz:(q:Int) - 1=z at hd hA ⊢;have rF:decide (z=z)=true:=decide_eq_true rfl;cases b <;> rcases hc with rfl|rfl
   all_goals (
    refine zj 523 Tryz.func70 Tryz.ntmps70 rfl ?_;change FW _ _ _ ⟨[(0,_)],[]⟩;refine xf ?_;refine zn.aR (yA rfl rfl hA rfl rfl) rfl rfl ?_;refine za ?_;refine zC (es:=[[.int .i64 1],[.int .i64 2]]) rfl rfl rfl (by refine zY.int rfl rfl ?_;refine zY.int rfl rfl ?_;exact zY.nil) rfl rfl rfl rfl rfl ?_;refine za ?_;refine zw hd (by repeat (first|exact zf.nil|refine zf.cons zd ?_)) rfl rfl ?_;refine za ?_;refine yc (fun h=>?_) (fun h=>absurd rfl (of_decide_eq_false h));refine za ?_;exact FW.ret ⟨.inl rfl,zh rfl rfl rfl rfl⟩)
  ·rw [decide_eq_false hq,YH];have bQ:decide ((q:Int) - 1=(A:Int) - 1)=false:=decide_eq_false zc;rcases hc with rfl|rfl
   all_goals (
    refine zj 523 Tryz.func70 Tryz.ntmps70 rfl ?_;change FW _ _ _ ⟨[(0,_)],[]⟩;refine xf ?_;refine zn.aR (yA rfl rfl hA rfl rfl) rfl rfl ?_;refine za ?_;refine zC (es:=[[.int .i64 1],[.int .i64 2]]) rfl rfl rfl (by refine zY.int rfl rfl ?_;refine zY.int rfl rfl ?_;exact zY.nil) rfl rfl rfl rfl rfl ?_;refine za ?_;refine zw hd (by repeat (first|exact zf.nil|refine zf.cons zd ?_)) rfl rfl ?_;refine za ?_;refine yc (fun h=>absurd (of_decide_eq_true h) (of_decide_eq_false bQ)) (fun h=>?_);refine za ?_;exact FW.ret ⟨.inl rfl,zh rfl rfl rfl rfl⟩)
def jk (R:Option (Nat×Bool)) (cl:Int) (O:List Int):Bool:=if cl=14 then R.isNone else kA R cl (nth O 0+1).toNat 0
def ja (R:Option (Nat×Bool)) (n:Nat) (cl:Int) (O:List Int):Int:=if gy cl O.length then (if gG n O then (if jk R cl O then 0 else 31) else 30) else 30
theorem uk {cl:Int} {n:Nat} {O:List Int} (bh:cl=0∨cl=13) (h:gy cl O.length=true) (hr:gG n O=true):∃ A:Nat,A≤n∧O=[(A:Int) - 1]∧(nth O 0+1).toNat=A:=by
 have hl:O.length=1:=by rcases bh with rfl|rfl <;> simpa [gy] using h
 obtain ⟨a,rfl⟩:=XA.1 hl;simp only [gG,ZG,YJ,Bool.and_true,zU,decide_eq_true_eq] at hr;refine ⟨(a+1).toNat,by omega,by rw [show (((a+1).toNat:Nat):Int) - 1=a by omega],rfl⟩
theorem BP (f:Fo) (aj:List (List Int)) (hf:Sm 0 f) (hn:aj.length≤8) (cl:Int) (bh:cl=0∨cl=13∨cl=14) (O:List Int) (h:gy cl O.length=true) (hr:gG aj.length O=true):zP Tryz.prog 70 [(xL f aj cl 0).x (bZ O)] .fr (.bool (jk (xw (zE f) 0 aj) cl O)):=by
 by_cases m5:cl=14
 ·subst m5;exact BQ f aj hf hn (bZ O) (fW.bZ O).ok
 ·have bh:cl=0∨cl=13:=by omega
  obtain ⟨A,hA,rfl,lT⟩:=uk bh h hr;rw [jk,if_neg m5,lT];exact B9 f aj hf hn cl bh A
theorem Cv:zP Tryz.prog 34 [.int .i64 8] .sh .nil:=CP 8 zb zb
theorem B8 (f:Fo) (aj:List (List Int)) (hf:Sm 0 f) (hn:aj.length≤8) (cl:Int) (bh:cl=0∨cl=13∨cl=14) (O:List Int) (hO:O.length≤1):zP Tryz.prog 23 [(xL f aj cl 0).x (bZ O)] .fr (.int .i64 (ja (xw (zE f) 0 aj) aj.length cl O)):=by
 have hk:=Cv;have hs:=Cq f aj cl _ _ (fW.bZ O) bh;have hr:=Cp f aj cl O zc hO;have hp:=BP f aj hf hn cl bh O;unfold ja;generalize gy cl O.length=b1 at hs hp ⊢;generalize gG aj.length O=b2 at hr hp ⊢;generalize jk (xw (zE f) 0 aj) cl O=b3 at hp ⊢;have hA:=(xL f aj cl 0).one (fW.bZ O).ok;simp only [bK.x,xL] at hA hs hr hp ⊢;generalize aj.map cy=tr at hA hs hr hp ⊢;generalize f.ks.map Fo.fv=K at hA hs hr hp ⊢;generalize bZ O=od at hA hs hr hp ⊢;refine zj 47 Tryz.func23 Tryz.ntmps23 rfl ?_;change FW _ _ _ ⟨[(0,_)],[]⟩;refine xf ?_;refine zn.aR (yA rfl rfl hA rfl rfl) rfl rfl ?_;refine za ?_;refine zX hk (by repeat (first|exact zf.nil|refine zf.cons zd ?_)) rfl rfl ?_;refine za ?_;refine zw hs (by repeat (first|exact zf.nil|refine zf.cons zd ?_)) rfl rfl ?_;cases b1
 ·refine za ?_;exact FW.ret ⟨.inl rfl,zh rfl rfl rfl rfl⟩
 refine za ?_;refine zw hr (by repeat (first|exact zf.nil|refine zf.cons zd ?_)) rfl rfl ?_;cases b2
 ·refine za ?_;exact FW.ret ⟨.inl rfl,zh rfl rfl rfl rfl⟩
 refine za ?_;refine zw (hp rfl rfl) (by repeat (first|exact zf.nil|refine zf.cons zd ?_)) rfl rfl ?_;cases b3
 ·refine za ?_;exact FW.ret ⟨.inl rfl,zh rfl rfl rfl rfl⟩
 refine za ?_;exact FW.ret ⟨.inl rfl,zh rfl rfl rfl rfl⟩
theorem YS (f:Fo) (aj:List (List Int)) (hf:Sm 0 f) (hn:aj.length≤8) (cl:Int) (bh:cl=0∨cl=13∨cl=14) (O:List Int) (hO:O.length≤1):zP Tryz.prog 8 [(xL f aj cl 0).c,(xL f aj cl 0).e,(xL f aj cl 0).v (bZ O)] .fr (.int .i64 (ja (xw (zE f) 0 aj) aj.length cl O)):=by
 have cE:=Xj (xL f aj cl 0) O [] rfl zc zb (zB _) (by show (aj.map cy).length≤_;rw [zy];omega) (zB _);have hi:(!((O++du []).any (jo (xL f aj cl 0))))=gG aj.length O:=by
  rw [show du []=[] from rfl,xW,List.not_any_eq_all_not];unfold gG;congr 1;funext a;have h1:oT (xL f aj cl 0) = -1:=rfl;have h2:ot (xL f aj cl 0)=(aj.length:Int) - 1:=by
   show ((aj.map cy).length:Int) - 1=_;rw [zy]
  unfold jo;rw [h1,h2,Bool.not_or];congr 1
  ·by_cases h:a < -1 <;> simp [h] <;> omega
  ·by_cases h:a > (aj.length:Int) - 1 <;> simp [h] <;> omega
 rw [hi] at cE;have hk:1≤(xL f aj cl 0).k∧(xL f aj cl 0).k≤8:=⟨(by decide:(1:Int)≤8),(by decide:(8:Int)≤8)⟩
 have hd:(lL (xL f aj cl 0).k=.nil∧true=true)∨(lL (xL f aj cl 0).k=.list 1 ((jb (xL f aj cl 0).k).map yQ)∧jb (xL f aj cl 0).k≠[]∧zP Tryz.prog 20 [.int .i64 (xL f aj cl 0).k,.list 8 (xL f aj cl 0).ops] .fr (.bool true)):=.inl ⟨rfl,rfl⟩;have hE:ja (xw (zE f) 0 aj) aj.length cl O=if true && (gy cl O.length && gG aj.length O) then (if jk (xw (zE f) 0 aj) cl O then 0 else 31) else 30:=by
  unfold ja;cases gy cl O.length <;> cases gG aj.length O <;> rfl
 have hz:=UV (xL f aj cl 0) (bZ O) O.length (fW.bZ O) (if cl=14 then 0 else 1) 0;rw [show (decide ((O.length:Int)=if cl=14 then 0 else 1) && decide (((xL f aj cl 0).ed.length:Int)=0))=gy cl O.length by
  rcases bh with rfl|rfl|rfl <;> simp [gy,xL] <;> omega] at hz
 have oa:∀ c,cl=c→(c=0∨c=13)→gy cl O.length=true→gG aj.length O=true→zP Tryz.prog 114 ([(xL f aj c 0).x (bZ O)]++[vc (.int .i64 c)]) .fr (.bool (jk (xw (zE f) 0 aj) c O)):=fun c e7 hc h1 h2=>by
  subst e7;obtain ⟨A,hA,rfl,lT⟩:=uk hc h1 h2;rw [jk,if_neg zc,lT];exact D4 f aj hf hn cl 0 cl zc A hA
 rcases bh with rfl|rfl|rfl
 ·exact ZO (xL f aj 0 0) (bZ O) (fW.bZ O).ok hk (show bD 0 by decide) true hd true (fun h=>by cases h) _ _ _ _ (fun _=>zZ (i:=16) rfl) _ _ _ (fun _=>hz) (fun _ _=>cE) (fun _ h1 h2=>oa 0 rfl (.inl rfl) h1 h2) _ (fun h=>by cases h) (fun _=>hE)
 ·exact ZO (xL f aj 13 0) (bZ O) (fW.bZ O).ok hk (show bD 13 by decide) true hd true (fun h=>by cases h) _ _ _ _ (fun _=>zZ (i:=17) rfl) _ _ _ (fun _=>hz) (fun _ _=>cE) (fun _ h1 h2=>oa 13 rfl (.inr rfl) h1 h2) _ (fun h=>by cases h) (fun _=>hE)
 ·have hu:=CJ f aj hf hn 14 0 (bZ O) (fW.bZ O).ok;rw [show ((xw (zE f) 0 aj).isNone && decide ((0:Int)=0))=jk (xw (zE f) 0 aj) 14 O from Bool.and_true _] at hu;exact ZO (xL f aj 14 0) (bZ O) (fW.bZ O).ok hk (show bD 14 by decide) true hd true (fun h=>by cases h) _ _ _ _ (fun _=>zZ (i:=18) rfl) _ _ _ (fun _=>hz) (fun _ _=>cE) (fun _ _ _=>hu) _ (fun h=>by cases h) (fun _=>hE)
end
def kL (l:List Int) (i:Nat):Int:=if i<l.length then xy (nth l i) 1000000 else 0
def pk (l:List Int) (i m:Nat):Nat:=(kL l i).toNat % m
theorem E8 (l:List Int) (i:Nat):0≤kL l i∧kL l i<1000000:=by
 unfold kL;split
 ·exact ⟨Wv zb,Wu zb⟩
 ·decide
theorem lJ (l:List Int) (i:Nat) (hm:0<m):pk l i m<m:=Nat.mod_lt _ hm
def x9 (k:Nat):Int:=if k=0 then 0 else if k=1 then 2147483647 else if k=2 then -2147483647 else 10
def pn (l:List Int) (i:Nat):Fo×Nat:=(.mk 1 (pk l i 3) (pk l (i+1) 3) ((pk l (i+2) 4:Int) - 1) [],i+3)
def mZ (l:List Int) (i:Nat):Fo×Nat:=if pk l i 3=0 then (if pk l (i+1) 2=0 then fT else fF,i+2) else (.mk 1 (pk l (i+1) 16) (pk l (i+2) 3) (x9 (pk l (i+3) 4)) [],i+4)
def lN (k:Int) (r:Fo×Nat):Fo×Nat:=(.mk k 0 0 0 [r.1],r.2)
def ZL (g:Nat→Fo×Nat) (i:Nat):Nat→List Fo×Nat
 | 0 => ([], i)
 | j+1 => ((ZL g i j).1 ++ [(g (ZL g i j).2).1], (g (ZL g i j).2).2)
def fL (l:List Int) (g:Nat→Fo×Nat) (i n:Nat):Fo×Nat:=
 if n<3 then pn l i
 else if n=3 then mZ l i
 else if n=4 then lN 2 (g i)
 else if n=5 then lN 5 (g i)
 else if n<8 then lN 7 (g i)
 else if n=8 then lN 8 (g i)
 else if n=9 then (.mk 6 0 0 0 [(g i).1,(g (g i).2).1],(g (g i).2).2)
 else (.mk (if n % 2=0 then 3 else 4) 0 0 0 (ZL g (i+1) (2+pk l i 2)).1,(ZL g (i+1) (2+pk l i 2)).2)
def gA (l:List Int):Nat→Nat→Fo×Nat
 | 0, i => fL l (fun i => (fT, i)) (i+1) (pk l i 12 % 4)
 | d+1, i => fL l (gA l d) (i+1) (pk l i 12)
structure iZ (d c b:Nat) (g:Nat→Fo×Nat):Prop where
 wf:∀ i,Wf (g i).1
 td:∀ i,bU (g i).1≤d
 nd:∀ i,zW (g i).1≤b
 ix:∀ i,(g i).2≤i+c
theorem we (l:List Int):iZ 0 3 1 (pn l):=⟨fun i=>.var _ _ _ (Xx _) (Xx _) (by have:=lJ l (i+1) (m:=3) zb;omega),fun i=>zi _,fun i=>zi _,fun i=>zi _⟩
theorem v7 (l:List Int):iZ 0 4 1 (mZ l):=by
 have hT:Wf fT:=Ul true;have hF:Wf fF:=Ul false;constructor
 all_goals (
  intro i;unfold mZ;split)
 ·dsimp only;split <;> assumption
 ·exact .var _ _ _ (Xx _) (Xx _) (by have:=lJ l (i+2) (m:=3) zb;omega)
 ·dsimp only;split <;> exact zi _
 ·exact zi _
 ·dsimp only;split <;> exact zi _
 ·exact zi _
 ·dsimp only;omega
 ·exact zi _
theorem F7 (k:Int):eX k≤1:=by unfold eX;split <;> omega
theorem pW (h:iZ d c b g) {k:Int} (hk:k=2∨k=5∨k=7∨k=8):iZ (d+1) c (b+1) fun i=>lN k (g i) where
 wf i:=.un k _ hk (h.wf i)
 td i:=by
  show bU (.mk k 0 0 0 [(g i).1])≤_;have:=h.td i;have:=F7 k;simp only [bU,Vw];omega
 nd i:=by
  show zW (.mk k 0 0 0 [(g i).1])≤_;have:=h.nd i;simp only [zW,zG];omega
 ix i:=h.ix i
theorem v9 {d c b:Nat} {g:Nat→Fo×Nat} (h:iZ d c b g) (i:Nat):∀ j,(∀ f∈(ZL g i j).1,Wf f∧bU f≤d)∧zG (ZL g i j).1≤j * b∧(ZL g i j).2≤i+j * c∧(ZL g i j).1.length=j
 | 0 => ⟨fun f hf => (by cases hf), by simp [ZL, zG], by simp [ZL], rfl⟩
 | j+1=>by
  obtain ⟨h1,h2,h3,h4⟩:=v9 h i j;have e1:=h.nd (ZL g i j).2;have e2:=h.ix (ZL g i j).2;have e3:=h.wf (ZL g i j).2;have e4:=h.td (ZL g i j).2;refine ⟨fun f hf=>?_,?_,?_,?_⟩
  ·rcases yT.1 hf with hf|hf
   ·exact h1 f hf
   ·rw [yf.1 hf];exact ⟨e3,e4⟩
  ·show zG ((ZL g i j).1++[_])≤_;rw [XJ,Nat.succ_mul];simp only [zG];omega
  ·show (g (ZL g i j).2).2≤_;rw [Nat.succ_mul];omega
  ·show ((ZL g i j).1++[_]).length=_;rw [yL,h4];rfl
theorem Fw (l:List Int) (n:Nat) (h:iZ d c b g) (hb:1≤b) (hc:4≤c):iZ (d+1) (1+3 * c) (1+3 * b) fun i=>fL l g i n:=by
 have mono:∀ {d' c' b' : Nat} {g' : Nat→Fo×Nat},iZ d' c' b' g'→d'≤d+1→c'≤1+3 * c→b'≤1+3 * b→iZ (d+1) (1+3 * c) (1+3 * b) g':=fun h h1 h2 h3=>⟨h.wf,fun i=>zR (h.td i) h1,fun i=>zR (h.nd i) h3,fun i=>zR (h.ix i) zc⟩
 by_cases h0:n<3
 ·rw [show (fun i=>fL l g i n)=pn l from funext fun i=>if_pos h0];exact mono (we l) zc zc zc
 by_cases h3:n=3
 ·subst h3;exact mono (v7 l) zc zc zc
 by_cases h4:n=4
 ·subst h4;exact mono (pW h (k:=2) zb) zc zc zc
 by_cases h5:n=5
 ·subst h5;exact mono (pW h (k:=5) zb) zc zc zc
 by_cases h8:n<8
 ·rw [show (fun i=>fL l g i n)=fun i=>lN 7 (g i) from funext fun i=>by simp only [fL];rw [if_neg h0,if_neg h3,if_neg h4,if_neg h5,if_pos h8]];exact mono (pW h (k:=7) zb) zc zc zc
 by_cases tu : n=8
 ·subst tu;exact mono (pW h (k:=8) zb) zc zc zc
 by_cases h9:n=9
 ·subst h9;refine ⟨fun i=>.bG _ _ (h.wf _) (h.wf _),fun i=>?_,fun i=>?_,fun i=>?_⟩
  ·show bU (.mk 6 0 0 0 [(g i).1,(g (g i).2).1])≤_;have:=h.td i;have:=h.td (g i).2;simp only [bU,Vw,show eX 6=1 from rfl];omega
  ·show zW (.mk 6 0 0 0 [(g i).1,(g (g i).2).1])≤_;have:=h.nd i;have:=h.nd (g i).2;simp only [zW,zG];omega
  ·show (g (g i).2).2≤_;have:=h.ix i;have:=h.ix (g i).2;omega
 ·rw [show (fun i=>fL l g i n)=fun i=>(.mk (if n % 2=0 then 3 else 4) 0 0 0 (ZL g (i+1) (2+pk l i 2)).1,(ZL g (i+1) (2+pk l i 2)).2) from funext fun i=>by simp only [fL];rw [if_neg h0,if_neg h3,if_neg h4,if_neg h5,if_neg h8,if_neg tu,if_neg h9]];have hk:(if n % 2=0 then (3:Int) else 4)=3∨(if n % 2=0 then (3:Int) else 4)=4:=by split <;> simp
  generalize (if n % 2=0 then (3:Int) else 4)=k at hk;have key:=fun i=>v9 h (i+1) (2+pk l i 2);have hp:∀ i x,(2+pk l i 2) * x≤3 * x:=fun i x=>Ys _ (by have:=lJ l i (m:=2) zb;omega);refine ⟨fun i=>.many k _ hk fun f hf=>((key i).1 f hf).1,fun i=>?_,fun i=>?_,fun i=>?_⟩
  ·have:=pT fun f hf=>((key i).1 f hf).2;show bU (.mk k 0 0 0 (ZL g (i+1) (2+pk l i 2)).1)≤_;rw [bU,wB hk];omega
  ·have:=(key i).2.1;have:=hp i b;show zW (.mk k 0 0 0 (ZL g (i+1) (2+pk l i 2)).1)≤_;rw [zW];omega
  ·have:=(key i).2.2.1;have:=hp i c;show (ZL g (i+1) (2+pk l i 2)).2≤_;omega
theorem vK (l:List Int):iZ 0 5 1 (gA l 0):=by
 have h:∀ i,gA l 0 i=pn l (i+1)∨gA l 0 i=mZ l (i+1):=fun i=>by
  show fL l _ (i+1) (pk l i 12 % 4)=_∨fL l _ (i+1) (pk l i 12 % 4)=_;unfold fL;split
  ·exact .inl rfl
  ·rw [if_pos zc];exact .inr rfl
 have hV:=we l;have hC:=v7 l;refine ⟨fun i=>?_,fun i=>?_,fun i=>?_,fun i=>?_⟩
 ·rcases h i with e|e <;> rw [e]
  ·exact hV.wf _
  ·exact hC.wf _
 ·rcases h i with e|e <;> rw [e]
  ·exact hV.td _
  ·exact hC.td _
 ·rcases h i with e|e <;> rw [e]
  ·exact hV.nd _
  ·exact hC.nd _
 ·rcases h i with e|e <;> rw [e]
  ·have:=hV.ix (i+1);omega
  ·have:=hC.ix (i+1);omega
theorem Xi (l:List Int) (h:iZ d c b (gA l d)) (hb:1≤b) (hc:4≤c):iZ (d+1) (2+3 * c) (1+3 * b) (gA l (d+1)):=by
 have key:=fun n=>Fw l n h hb hc;refine ⟨fun i=>(key (pk l i 12)).wf (i+1),fun i=>(key (pk l i 12)).td (i+1),fun i=>(key (pk l i 12)).nd (i+1),fun i=>?_⟩;have:=(key (pk l i 12)).ix (i+1);show (fL l (gA l d) (i+1) (pk l i 12)).2≤_;omega
theorem VW (l:List Int):iZ 3 161 40 (gA l 3):=Xi l (Xi l (Xi l (vK l) zb zb) zb zb) zb zb
theorem Fv (l:List Int) (d i:Nat) (hd:d≤3):(gA l d i).2≤i+161:=by
 have h0:=vK l;have h1:=Xi l h0 zb zb;have h2:=Xi l h1 zb zb;obtain rfl|rfl|rfl|rfl:d=0∨d=1∨d=2∨d=3:=by omega
 ·exact zR (h0.ix i) zc
 ·exact zR (h1.ix i) zc
 ·exact zR (h2.ix i) zc
 ·exact (VW l).ix i
theorem FO (l:List Int):Sm 0 (gA l 3 0).1:=⟨(VW l).wf 0,(VW l).td 0,(VW l).nd 0⟩
section
open Go.RowKit
theorem CY (l:List Int) (i:Nat) (hl:∀ x∈l,bD x) (hlen:l.length≤9223372036854775807):zP Tryz.prog 80 [.list 1 (l.map yQ),.int .i64 i,.int .i64 1000000] .fr (.int .i64 (kL l i)):=by
 by_cases h:i<l.length
 ·have ha:=YF (nth l i) 1000000 (hl _ (yn h)) zb zb;rw [show kL l i=xy (nth l i) 1000000 from if_pos h];generalize xy (nth l i) 1000000=r at ha ⊢;refine zj 21 Tryz.func80 Tryz.ntmps80 rfl ?_;change FW _ _ _ ⟨[(0,.list 1 (l.map yQ)),(1,.int .i64 i),(2,.int .i64 1000000)],[]⟩;refine za ?_;refine FW.cond rfl (fun h2=>absurd (of_decide_eq_true (p:=(i:Int)≥l.length) h2) zc) (fun _=>?_);refine za ?_;refine zw ha (by repeat (first|exact zf.nil|refine zf.cons zd ?_)) rfl rfl ?_;refine za ?_;exact FW.ret ⟨.inl rfl,zh rfl rfl rfl rfl⟩
 ·rw [show kL l i=0 from if_neg h];refine zj 21 Tryz.func80 Tryz.ntmps80 rfl ?_;change FW _ _ _ ⟨[(0,.list 1 (l.map yQ)),(1,.int .i64 i),(2,.int .i64 1000000)],[]⟩;refine za ?_;refine FW.cond rfl (fun _=>?_) (fun h2=>absurd (of_decide_eq_false (p:=(i:Int)≥l.length) h2) zc);refine za ?_;exact FW.ret ⟨.inl rfl,zh rfl rfl rfl rfl⟩
theorem vp {v:Nat} {b:zL} {res:FV} {o:Nat→zL} {k:Nat} (hr:res.cl [k]=true) (hl:(o k).ag=.own) (hs:(o k).sz=b.sz) (hb:b.ag=.own):rY [(k,b)] [] res o where
 oX q hq _:=by
  obtain rfl:q=k:=by simpa using hq
  exact ⟨by rw [hl];rfl,by rw [hs,zN,if_pos rfl],by rw [hl,zN,if_pos rfl,hb]⟩
 new q hq:=by cases hq
 cl q hq:=by
  obtain rfl:q=k:=by simpa using hq
  unfold zL.cl;rw [hl]
 res:=hr
def gO (l:List Int) (v i:Nat):zL:=⟨v,.own,81,2,[[.list 1 (l.map yQ),.int .i64 i]]⟩
theorem xd (l:List Int) (v i m:Nat) (hl:∀ x∈l,bD x) (hlen:l.length≤9223372036854775807) (hi:i≤1000000) (hm:0<m):Ue Tryz.prog 71 [.ptr 5000 v 0 0,.int .i64 m] [(5000,gO l v i)] [] (fun res o=>res=.int .i64 (pk l i m)∧o 5000=gO l v (i+1)):=by
 have hp:=CY l i hl hlen;have hr:=E8 l i;obtain ⟨r,iv⟩:∃ r:Nat,kL l i=r:=⟨(kL l i).toNat,by omega⟩
 have hk:((pk l i m:Nat):Int)=(r:Int).tmod m:=by
  unfold pk;rw [iv,r8,YI zc];omega
 rw [hk];rw [iv] at hp;refine Ue.eh (c:=(zip Tryz.prog Vo XI 25)) ⟨Tryz.func71,rfl,Tryz.ntmps71,by kernel_rfl⟩ (by exact yd rfl) ?_ ?_
 ·rintro res o ⟨rfl,h1⟩;exact vp (v:=v) rfl (by rw [h1] <;> rfl) (by rw [h1] <;> rfl) rfl
 change FW _ _ _ ⟨[(0,.ptr 5000 v 0 0),(1,.int .i64 m)],[(5000,gO l v i)]⟩;unfold gO;refine yO ?_;refine yG hp (by repeat (first|exact zf.nil|refine zf.cons zd ?_)) rfl rfl ?_;refine zt ?_;refine ⟨by kernel_rfl,?_⟩
 (repeat (first|refine FW.seq ?_|refine FW.region ?_|refine zn.nil ?_|refine zn.ab (zS rfl) rfl rfl ?_|refine zn.ab (wz rfl rfl zb) rfl rfl ?_|refine zn.ab (yD rfl rfl rfl rfl rfl rfl zb) rfl rfl ?_|refine zn.ab (xM rfl rfl rfl rfl rfl xt rfl rfl rfl) rfl rfl ?_|refine zn.ab (Vr rfl rfl zc) rfl rfl ?_|refine zn.aY (WL rfl rfl rfl rfl rfl rfl rfl rfl) rfl ?_))
 refine zn.ab (Wi rfl rfl zc) rfl rfl ?_
 (repeat (first|refine zn.nil ?_|refine zn.ab (yi rfl) rfl rfl ?_))
 exact FW.ret ⟨.inl rfl,_,.tmp (t:=4) rfl rfl,rfl,rfl⟩
theorem YB {c:Ctx} {fn:Func} {t:List (Nat×FV)} {ob:List (Nat×zL)} {T id aa E sz dr:Nat} {kk:TK} {z cs:List FV} {f' : FV} (hr:fn.results.toList=[.cell d T]) (h:look .undef t d=.ptr id aa 0 0) (hT:c.ty T=⟨kk,sz,dr,z⟩) (hk:kk.aX = some true) (hp:0<sz) (hb:look {} ob id=⟨aa,.own,E,sz,[cs]⟩) (hl:cs.length=sz) (hle:FV.le (.agg cs) f') (hh:f'.hand=none):nH c fn ⟨t,ob⟩ f':=by
 have bB : (⟨t,ob⟩:ae).ob id=⟨aa,.own,E,sz,[cs]⟩:=hb;have hc:=lK.cell (c:=c) (s:=⟨t,ob⟩) d T (bb:=true) (by rw [hT];exact hk) (id:=id) (aa:=aa) (j:=0) (o:=0) h ⟨(fun e=>by (rw [bB] at e;cases e)),by rw [bB]⟩ (by rw [bB];rfl) (by rw [bB];exact Nat.one_pos) (by rw [bB,hT];simp) (by rw [bB];exact hp);have e:Zl (c.ty T) ((((⟨t,ob⟩:ae).ob id).es.getD 0 []).drop 0)=.agg cs:=by
  rw [bB,hT];unfold Zl;rw [hk];show FV.agg (cs.take sz)=_;rw [ym zc]
 rw [e] at hc;refine .run fun w0 J a w β hF=>?_;obtain ⟨u,h1,h2⟩:=YT hF fn (fs:=[.agg cs]) (by rw [hr];exact .cons hc .nil);exact ⟨u,h1,VR.plain (Rd.le hle h2) hh⟩
set_option maxRecDepth 4000 in
theorem uL (l:List Int) (v i:Nat) (hl:∀ x∈l,bD x) (hlen:l.length≤9223372036854775807) (hi:i≤990000) (D:Int) (n:Nat) (hn:(D≤0∧n=pk l i 12 % 4)∨(0<D∧n=pk l i 12)) (Gz:D≤1000) (g:Nat→Fo×Nat) (hg:0<D→∀ j,(g j).2≤j+161)
  (cw:0<D→∀ j,j≤i+500→∀ Y,Y=D - 1→Ue Tryz.prog 25 [.ptr 5000 v 0 0,.int .i64 Y] [(5000,gO l v j)] [] (fun res o=>res=.agg (g j).1.fv∧o 5000=gO l v (g j).2)) :
  Ue Tryz.prog 25 [.ptr 5000 v 0 0,.int .i64 D] [(5000,gO l v i)] [] (fun res o=>res=.agg (fL l g (i+1) n).1.fv∧o 5000=gO l v (fL l g (i+1) n).2):=by
 have mm:n<12:=by have:=lJ l i (m:=12) zb;omega
 have np:D≤0→n<4:=fun h=>by omega
 refine Ue.eh (c:=(zip Tryz.prog Vo XI 118)) ⟨Tryz.func25,rfl,Tryz.ntmps25,by kernel_rfl⟩ (by exact yd rfl) ?_ ?_
 ·rintro res o ⟨rfl,h1⟩;exact vp (v:=v) rfl (by rw [h1] <;> rfl) (by rw [h1] <;> rfl) rfl
 change FW _ _ _ ⟨[(0,.ptr 5000 v 0 0),(1,.int .i64 D)],[(5000,gO l v i)]⟩;refine za ?_;refine xv (xd l v (i) 12 hl hlen zc zb) [(5000,5000)] rfl (yl.cons rfl rfl rfl yl.nil) rfl rfl rfl rfl rfl rfl ?_;rintro _ aO ⟨rfl,h1⟩;refine XO.one [(5000,gO l v (i+1))] (.int .i64 (pk l (i) 12)) rfl (congrArg (fun b=>[(5000,zL.ren (cL [(5000,5000)]) b)]) h1) ?_;clear h1 aO;refine Zp ?_;refine FW.seq ?_;refine FW.join (fun _:Unit=>⟨[(0,.ptr 5000 v 0 0),(1,.int .i64 D),(4,.ptr 104 0 0 0),(5,.int .i64 n)],[(5000,gO l v (i+1)),(104,⟨0,.own,34,5,[[.int .i64 0,.int .i64 0,.int .i64 0,.int .i64 0,.nil]]⟩)]⟩) (fun _=>True) ?_ ?_
 ·rcases hn with ⟨hD,rfl⟩|⟨hD,rfl⟩
  ·refine za ?_;refine FW.cond rfl (fun _=>?_) (fun h=>absurd hD (of_decide_eq_false (p:=D≤0) h))
   (repeat (first|refine FW.region ?_|refine zn.ab (zS rfl) rfl rfl ?_))
   refine zn.ab (Wi rfl rfl zb) rfl rfl ?_;rw [show ((pk l i 12:Nat):Int).tmod 4=((pk l i 12 % 4:Nat):Int) by rw [YI zc];omega]
   (repeat (first|refine zn.nil ?_|refine zn.ab (yi rfl) rfl rfl ?_))
   refine ⟨rfl,(),trivial,?_⟩;exact (au.cv [⟨5000,some 5000,v,gO l v (i+1)⟩,⟨104,some 4,1,⟨0,.own,34,5,[[.int .i64 0,.int .i64 0,.int .i64 0,.int .i64 0,.nil]]⟩⟩] zm zq)
  ·refine za ?_;refine FW.cond rfl (fun h=>absurd (of_decide_eq_true (p:=D≤0) h) zc) (fun _=>?_);refine za ?_;refine ⟨rfl,(),trivial,?_⟩;exact (au.cv [⟨5000,some 5000,v,gO l v (i+1)⟩,⟨104,some 4,1,⟨0,.own,34,5,[[.int .i64 0,.int .i64 0,.int .i64 0,.int .i64 0,.nil]]⟩⟩] zm zq)
 rintro _ _;clear hn;generalize GB:i+1=i1;obtain h3|rfl|z8|rfl|Gx:n<3∨n=3∨(4≤n∧n≤8)∨n=9∨10≤n:=by omega
 ·rw [show fL l g i1 n=pn l i1 from if_pos h3];have hb:=lJ l (i1+2) (m:=4) zb;obtain rfl|rfl|rfl:n=0∨n=1∨n=2:=by omega
  all_goals (
   refine za ?_;refine xv (xd l v (i1) 3 hl hlen zc zb) [(5000,5000)] rfl (yl.cons rfl rfl rfl yl.nil) rfl rfl rfl rfl rfl rfl ?_;rintro _ aO ⟨rfl,h1⟩;refine XO.one [(5000,gO l v (i1+1))] (.int .i64 (pk l (i1) 3)) rfl (congrArg (fun b=>[(5000,zL.ren (cL [(5000,5000)]) b)]) h1) ?_;clear h1 aO;refine za ?_;refine xv (xd l v (i1+1) 3 hl hlen zc zb) [(5000,5000)] rfl (yl.cons rfl rfl rfl yl.nil) rfl rfl rfl rfl rfl rfl ?_;rintro _ aO ⟨rfl,h1⟩;refine XO.one [(5000,gO l v (i1+1+1))] (.int .i64 (pk l (i1+1) 3)) rfl (congrArg (fun b=>[(5000,zL.ren (cL [(5000,5000)]) b)]) h1) ?_;clear h1 aO;refine za ?_;refine xv (xd l v (i1+2) 4 hl hlen zc zb) [(5000,5000)] rfl (yl.cons rfl rfl rfl yl.nil) rfl rfl rfl rfl rfl rfl ?_;rintro _ aO ⟨rfl,h1⟩;refine XO.one [(5000,gO l v (i1+2+1))] (.int .i64 (pk l (i1+2) 4)) rfl (congrArg (fun b=>[(5000,zL.ren (cL [(5000,5000)]) b)]) h1) ?_;clear h1 aO;refine za ?_;exact FW.ret ⟨.inl rfl,_,YB rfl rfl rfl rfl zb rfl rfl (Uq _ _ _ _) rfl,rfl,rfl⟩)
 ·rw [show fL l g i1 3=mZ l i1 from rfl];have hT:=uw;have hF:=Wn;refine za ?_;refine xv (xd l v (i1) 3 hl hlen zc zb) [(5000,5000)] rfl (yl.cons rfl rfl rfl yl.nil) rfl rfl rfl rfl rfl rfl ?_;rintro _ aO ⟨rfl,h1⟩;refine XO.one [(5000,gO l v (i1+1))] (.int .i64 (pk l (i1) 3)) rfl (congrArg (fun b=>[(5000,zL.ren (cL [(5000,5000)]) b)]) h1) ?_;clear h1 aO;by_cases h0:pk l i1 3=0
  ·rw [show mZ l i1=(if pk l (i1+1) 2=0 then fT else fF,i1+2) from if_pos h0,h0];refine za ?_;refine zX hT xK rfl rfl ?_;refine zX hF xK rfl rfl ?_;refine zC (es:=[fT.fv,fF.fv]) rfl rfl rfl (by refine zY.agg rfl (ya _) (zx _) ?_;refine zY.agg rfl (ya _) (zx _) ?_;exact zY.nil) rfl rfl rfl rfl rfl ?_;refine za ?_;refine xv (xd l v (i1+1) 2 hl hlen zc zb) [(5000,5000)] rfl (yl.cons rfl rfl rfl yl.nil) rfl rfl rfl rfl rfl rfl ?_;rintro _ aO ⟨rfl,h1⟩;refine XO.one [(5000,gO l v (i1+1+1))] (.int .i64 (pk l (i1+1) 2)) rfl (congrArg (fun b=>[(5000,zL.ren (cL [(5000,5000)]) b)]) h1) ?_;clear h1 aO;have hb:=lJ l (i1+1) (m:=2) zb;obtain hk|hk:pk l (i1+1) 2=0∨pk l (i1+1) 2=1:=by omega
   all_goals (
    rw [hk];refine za ?_;exact FW.ret ⟨.inl rfl,_,YB rfl rfl rfl rfl zb rfl rfl (.refl _) rfl,rfl,rfl⟩)
  ·rw [show mZ l i1=(.mk 1 (pk l (i1+1) 16) (pk l (i1+2) 3) (x9 (pk l (i1+3) 4)) [],i1+4) from if_neg h0];refine za ?_;refine FW.cond rfl (fun h=>absurd (of_decide_eq_true (p:=((pk l i1 3:Nat):Int)=0) h) zc) (fun _=>?_);refine za ?_;refine xv (xd l v (i1+1) 16 hl hlen zc zb) [(5000,5000)] rfl (yl.cons rfl rfl rfl yl.nil) rfl rfl rfl rfl rfl rfl ?_;rintro _ aO ⟨rfl,h1⟩;refine XO.one [(5000,gO l v (i1+1+1))] (.int .i64 (pk l (i1+1) 16)) rfl (congrArg (fun b=>[(5000,zL.ren (cL [(5000,5000)]) b)]) h1) ?_;clear h1 aO;refine za ?_;refine xv (xd l v (i1+2) 3 hl hlen zc zb) [(5000,5000)] rfl (yl.cons rfl rfl rfl yl.nil) rfl rfl rfl rfl rfl rfl ?_;rintro _ aO ⟨rfl,h1⟩;refine XO.one [(5000,gO l v (i1+2+1))] (.int .i64 (pk l (i1+2) 3)) rfl (congrArg (fun b=>[(5000,zL.ren (cL [(5000,5000)]) b)]) h1) ?_;clear h1 aO;skip;refine zC (es:=[[.int .i64 0],[.int .i64 2147483647],[.int .i64 (-2147483647)],[.int .i64 10]]) rfl rfl rfl (by refine zY.int rfl rfl ?_;refine zY.int rfl rfl ?_;refine zY.int rfl rfl ?_;refine zY.int rfl rfl ?_;exact zY.nil) rfl rfl rfl rfl rfl ?_;refine za ?_;refine xv (xd l v (i1+3) 4 hl hlen zc zb) [(5000,5000)] rfl (yl.cons rfl rfl rfl yl.nil) rfl rfl rfl rfl rfl rfl ?_;rintro _ aO ⟨rfl,h1⟩;refine XO.one [(5000,gO l v (i1+3+1))] (.int .i64 (pk l (i1+3) 4)) rfl (congrArg (fun b=>[(5000,zL.ren (cL [(5000,5000)]) b)]) h1) ?_;clear h1 aO;have hb:=lJ l (i1+3) (m:=4) zb;obtain hk|hk|hk|hk:pk l (i1+3) 4=0∨pk l (i1+3) 4=1∨pk l (i1+3) 4=2∨pk l (i1+3) 4=3:=by omega
   all_goals (
    rw [hk];refine za ?_;exact FW.ret ⟨.inl rfl,_,YB rfl rfl rfl rfl zb rfl rfl (Uq _ _ _ _) rfl,rfl,rfl⟩)
 ·have hD:0<D:=Int.not_le.1 fun h=>by have:=np h;omega
  obtain ⟨k,hk⟩:∃ k,fL l g i1 n=lN k (g i1)∧((n=4∧k=2)∨(n=5∧k=5)∨((n=6∨n=7)∧k=7)∨(n=8∧k=8)):=by
   obtain rfl|rfl|rfl|rfl|rfl:n=4∨n=5∨n=6∨n=7∨n=8:=by omega
   ·exact ⟨2,rfl,.inl ⟨rfl,rfl⟩⟩
   ·exact ⟨5,rfl,.inr (.inl ⟨rfl,rfl⟩)⟩
   ·exact ⟨7,rfl,.inr (.inr (.inl ⟨.inl rfl,rfl⟩))⟩
   ·exact ⟨7,rfl,.inr (.inr (.inl ⟨.inr rfl,rfl⟩))⟩
   ·exact ⟨8,rfl,.inr (.inr (.inr ⟨rfl,rfl⟩))⟩
  obtain ⟨hk,pD⟩:=hk;rw [hk];unfold lN;simp only;rw [yP,zH,yt];clear hk np mm z8;rcases pD with ⟨rfl,rfl⟩|⟨rfl,rfl⟩|⟨rfl|rfl,rfl⟩|⟨rfl,rfl⟩
  all_goals (
   refine za ?_;refine xv (cw hD (i1) zc _ rfl) [(5000,5000)] rfl (yl.cons rfl rfl rfl yl.nil) rfl rfl rfl rfl rfl rfl ?_;rintro _ aO ⟨rfl,h1⟩;refine XO.one [(5000,gO l v (g (i1)).2)] (.agg (g (i1)).1.fv) rfl (congrArg (fun b=>[(5000,zL.ren (cL [(5000,5000)]) b)]) h1) ?_;clear h1 aO;refine zC (es:=[(g i1).1.fv]) rfl rfl rfl (by refine zY.agg rfl (ya _) (zx _) ?_;exact zY.nil) rfl rfl rfl rfl rfl ?_;refine za ?_;exact FW.ret ⟨.inl rfl,_,YB rfl rfl rfl rfl zb rfl rfl (.refl _) rfl,rfl,rfl⟩)
 ·have hD:0<D:=Int.not_le.1 fun h=>by have:=np h;omega
  rw [show fL l g i1 9=(.mk 6 0 0 0 [(g i1).1,(g (g i1).2).1],(g (g i1).2).2) from rfl];have hj:=hg hD i1;have hb:=XL 6 (g i1).1 (g (g i1).2).1;clear np mm;refine za ?_;refine xv (cw hD (i1) zc _ rfl) [(5000,5000)] rfl (yl.cons rfl rfl rfl yl.nil) rfl rfl rfl rfl rfl rfl ?_;rintro _ aO ⟨rfl,h1⟩;refine XO.one [(5000,gO l v (g (i1)).2)] (.agg (g (i1)).1.fv) rfl (congrArg (fun b=>[(5000,zL.ren (cL [(5000,5000)]) b)]) h1) ?_;clear h1 aO
  (repeat (first|refine zn.aR (yV rfl rfl rfl rfl rfl) rfl rfl ?_))
  refine zn.aY (zA rfl rfl (ya _) rfl rfl rfl rfl (zx _)) rfl ?_
  (repeat (first|refine FW.seq ?_|refine zn.nil ?_|refine FW.draw ?_))
  refine zI.ab (yu rfl rfl rfl zb rfl rfl Nat.one_pos rfl (zx _)) rfl rfl ?_;refine zt ?_;refine vU (cw hD ((g i1).2) zc _ rfl) [(5000,5000)] (r:=.agg (g ((g i1).2)).1.fv) (l:=[(5000,gO l v (g ((g i1).2)).2)]) (by rintro _ aO ⟨rfl,h1⟩;exact ⟨rfl,congrArg (fun b=>[(5000,zL.ren (cL [(5000,5000)]) b)]) h1⟩) rfl (yl.cons rfl rfl rfl yl.nil) rfl rfl rfl rfl rfl rfl ?_;refine zK hb (by repeat (first|exact zf.nil|refine zf.cons zd ?_)) rfl rfl ?_;refine zI.aY (zA rfl rfl (ya _) rfl rfl rfl rfl (zx _)) rfl ?_;refine zt ?_;refine ⟨by kernel_rfl,?_⟩;skip;exact FW.ret ⟨.inl rfl,_,YB rfl rfl rfl rfl zb rfl (zx _) (.refl _) rfl,rfl,rfl⟩
 ·have hD:0<D:=Int.not_le.1 fun h=>by have:=np h;omega
  obtain ⟨k,nj⟩:∃ k:Int,(n=10∧k=3)∨(n=11∧k=4):=by
   obtain rfl|rfl:n=10∨n=11:=by omega
   ·exact ⟨3,.inl ⟨rfl,rfl⟩⟩
   ·exact ⟨4,.inr ⟨rfl,rfl⟩⟩
  have kH:fL l g i1 n=(.mk k 0 0 0 (ZL g (i1+1) (2+pk l i1 2)).1,(ZL g (i1+1) (2+pk l i1 2)).2):=by
   rcases nj with ⟨rfl,rfl⟩|⟨rfl,rfl⟩ <;> rfl
  rw [kH];have hb:=lJ l i1 (m:=2) zb;obtain ⟨c,hc⟩:∃ c,2+pk l i1 2=c:=⟨_,rfl⟩
  have tC:∀ j,(ZL g (i1+1) j).1.length=j∧(ZL g (i1+1) j).2≤i1+1+j * 161:=by
   intro j
   induction j with
   | zero => exact ⟨rfl, zi _⟩
   | succ j ih=>
    refine ⟨?_,?_⟩
    ·show ((ZL g (i1+1) j).1++[_]).length=_;rw [yL,ih.1];rfl
    ·have:=hg hD (ZL g (i1+1) j).2;show (g (ZL g (i1+1) j).2).2≤_;rw [Nat.succ_mul];omega
  clear np mm kH;rcases nj with ⟨rfl,hk⟩|⟨rfl,hk⟩
  all_goals (
   refine za ?_;refine zC (es:=[[.int .i64 3],[.int .i64 4]]) rfl rfl rfl (by refine zY.int rfl rfl ?_;refine zY.int rfl rfl ?_;exact zY.nil) rfl rfl rfl rfl rfl ?_
   (repeat (first|refine zn.ab (zS rfl) rfl rfl ?_))
   refine zn.ab (Wi rfl rfl zb) rfl rfl ?_
   first
   | rw [show ((10:Nat):Int).tmod 2=((0:Nat):Int) from rfl]
   | rw [show ((11:Nat):Int).tmod 2=((1:Nat):Int) from rfl]
   (repeat (first|refine FW.seq ?_|refine FW.region ?_|refine zn.nil ?_|refine zn.aR (yV rfl rfl rfl rfl rfl) rfl rfl ?_|refine zn.ab (zS rfl) rfl rfl ?_|refine Xs rfl rfl rfl rfl ?_|refine zn.aY (zA rfl rfl rfl rfl rfl rfl rfl rfl) rfl ?_|refine zn.ab (yj rfl rfl rfl rfl rfl rfl xt) rfl rfl ?_|refine zn.ab (yF rfl rfl rfl xt rfl rfl rfl) rfl rfl ?_|refine ZF.nil ?_|refine ZF.one rfl rfl rfl rfl rfl ?_))
   rw [← hk];refine xv (xd l v (i1) 2 hl hlen zc zb) [(5000,5000)] rfl (yl.cons rfl rfl rfl yl.nil) rfl rfl rfl rfl rfl rfl ?_;rintro _ aO ⟨rfl,h1⟩;refine XO.one [(5000,gO l v (i1+1))] (.int .i64 (pk l (i1) 2)) rfl (congrArg (fun b=>[(5000,zL.ren (cL [(5000,5000)]) b)]) h1) ?_;clear h1 aO
   (repeat (first|refine FW.block ?_|refine zn.nil ?_|refine zn.ab (yi rfl) rfl rfl ?_|refine zn.ab (Vr rfl rfl zc) rfl rfl ?_))
   refine FW.le ?_ (au.um (i:=7) rfl);refine FW.loop (fun j:Nat=>⟨[(0,.ptr 5000 v 0 0),(1,.int .i64 D),(4,.ptr 104 0 0 0),(7,.ptr 107 0 0 0),(8,.int .i64 ((c:Int) - j))],[(5000,gO l v (ZL g (i1+1) j).2),(104,⟨0,.own,34,5,[[.int .i64 0,.int .i64 0,.int .i64 0,.int .i64 0,.nil]]⟩),(107,⟨0,.aw,34,5,[[.int .i64 k,.int .i64 0,.int .i64 0,.int .i64 0,.own 106 0 0 (ZL g (i1+1) j).1.length]]⟩),(106,⟨0,.own,34,5,(ZL g (i1+1) j).1.map Fo.fv⟩)]⟩) (fun j=>j≤c) (fun j=>c - j) 0 (zB _) ?_ ?_
   (·
     have Ak:(2:Int)+(pk l i1 2:Nat)=(c:Int) - (0:Nat):=by omega
     rw [Ak];show au _ ⟨[(0,.ptr 5000 v 0 0),(1,.int .i64 D),(4,.ptr 104 0 0 0),(7,.ptr 107 0 0 0),(8,.int .i64 ((c:Int) - (0:Nat)))],[(5000,gO l v (i1+1)),(104,⟨0,.own,34,5,[[.int .i64 0,.int .i64 0,.int .i64 0,.int .i64 0,.nil]]⟩),(107,⟨0,.aw,34,5,[[.int .i64 k,.int .i64 0,.int .i64 0,.int .i64 0,.own 106 0 0 0]]⟩),(106,⟨0,.own,34,5,[]⟩)]⟩;exact (au.cv [⟨5000,some 5000,v,gO l v (i1+1)⟩,⟨104,some 104,0,⟨0,.own,34,5,[[.int .i64 0,.int .i64 0,.int .i64 0,.int .i64 0,.nil]]⟩⟩,⟨107,some 7,1,⟨0,.aw,34,5,[[.int .i64 k,.int .i64 0,.int .i64 0,.int .i64 0,.own 106 0 0 0]]⟩⟩,⟨106,none,0,⟨0,.own,34,5,[]⟩⟩] zm zq))
   intro j hj;obtain ⟨im,iM⟩:=tC j;have tU:=tC (j+1)
   (repeat (first|refine FW.seq ?_|refine FW.region ?_|refine zn.nil ?_|refine zn.ab (zS rfl) rfl rfl ?_|refine zn.ab (qa rfl rfl) rfl rfl ?_))
   refine FW.cond rfl (fun h=>?_) (fun h=>?_)
   (·
     have az:j<c:=by have:=of_decide_eq_true (p:=(c:Int) - j > 0) h;omega
     clear h;have e1:(ZL g (i1+1) (j+1)).1=(ZL g (i1+1) j).1++[(g (ZL g (i1+1) j).2).1]:=rfl;have e2:(ZL g (i1+1) (j+1)).2=(g (ZL g (i1+1) j).2).2:=rfl;have e3:(ZL g (i1+1) (j+1)).1.length=(ZL g (i1+1) j).1.length+1:=by rw [e1];simp
     generalize (ZL g (i1+1) j).1=L at im e1 e3 ⊢;have hJ:(ZL g (i1+1) j).2≤i+500:=by omega
     generalize (ZL g (i1+1) j).2=J at hJ iM e1 e2 ⊢
     (repeat (first|refine FW.seq ?_|refine FW.block ?_|refine FW.skip ?_|refine FW.draw ?_|refine zI.ab (yD rfl rfl rfl rfl rfl rfl zb) rfl rfl ?_))
     refine vw rfl rfl rfl rfl rfl rfl rfl ?_
     (repeat (first|refine zI.ab (zS rfl) rfl rfl ?_|refine zI.ab (XV rfl rfl zc) rfl rfl ?_))
     refine vU (cw hD (J) zc _ rfl) [(5000,5000)] (r:=.agg (g (J)).1.fv) (l:=[(5000,gO l v (g (J)).2)]) (by rintro _ aO ⟨rfl,h1⟩;exact ⟨rfl,congrArg (fun b=>[(5000,zL.ren (cL [(5000,5000)]) b)]) h1⟩) rfl (yl.cons rfl rfl rfl yl.nil) rfl rfl rfl rfl rfl rfl ?_;refine zI.aR (xN rfl rfl rfl rfl (ya _) (zx _) rfl rfl) rfl rfl ?_
     (repeat (first|refine wD rfl rfl (by first|exact (zy _).symm|(simp;done)|(simp;omega)) rfl rfl rfl zb (by exact fK.own rfl rfl zb (by first|exact zy _|exact (zy _).symm|exact xp|rfl|(simp;done)|omega|(simp;omega))) VQ VQ rfl rfl rfl ?_|refine zI.ab (yD rfl rfl rfl rfl rfl rfl zb) rfl rfl ?_))
     refine ux (d:=0) rfl rfl ⟨_,_,_,rfl⟩ (xa rfl zb) (fun i v n e=>by injection e with e1 e2 e3 e4;subst e1;subst e2;exact xa rfl zb) rfl rfl rfl rfl (by show 4<5;decide) rfl rfl ?_;refine zI.nil ⟨by kernel_rfl,?_⟩
     (repeat (first|refine FW.region ?_|refine zn.nil ?_|refine zn.ab (zS rfl) rfl rfl ?_|refine zn.ab (yi rfl) rfl rfl ?_|refine zn.ab (XV rfl rfl zc) rfl rfl ?_))
     refine ⟨j+1,by omega,by omega,?_⟩;rw [show (c:Int) - j - 1=(c:Int) - (j+1:Nat) by omega];show au _ ⟨[(0,.ptr 5000 v 0 0),(1,.int .i64 D),(4,.ptr 104 0 0 0),(7,.ptr 107 0 0 0),(8,.int .i64 ((c:Int) - (j+1:Nat)))],[(5000,gO l v (ZL g (i1+1) (j+1)).2),(104,⟨0,.own,34,5,[[.int .i64 0,.int .i64 0,.int .i64 0,.int .i64 0,.nil]]⟩),(107,⟨0,.aw,34,5,[[.int .i64 k,.int .i64 0,.int .i64 0,.int .i64 0,.own 106 0 0 (ZL g (i1+1) (j+1)).1.length]]⟩),(106,⟨0,.own,34,5,(ZL g (i1+1) (j+1)).1.map Fo.fv⟩)]⟩;rw [e3,e1,e2,yY,zH,yt];exact (au.cv [⟨5000,some 5000,v,gO l v (g J).2⟩,⟨104,some 104,0,⟨0,.own,34,5,[[.int .i64 0,.int .i64 0,.int .i64 0,.int .i64 0,.nil]]⟩⟩,⟨107,some 107,0,⟨0,.aw,34,5,[[.int .i64 k,.int .i64 0,.int .i64 0,.int .i64 0,.own 106 0 0 (L.length+1)]]⟩⟩,⟨106,some 115,0+1,⟨0,.own,34,5,L.map Fo.fv++[(g J).1.fv]⟩⟩] zm zq))
   have he:j=c:=by have:=of_decide_eq_false (p:=(c:Int) - j > 0) h;omega
   subst he;rw [hc,yP];refine FW.le ?_ (au.ju (r:=[.int .i64 k,.int .i64 0,.int .i64 0,.int .i64 0,.own 106 0 0 (ZL g (i1+1) j).1.length]) (es:=(ZL g (i1+1) j).1.map Fo.fv) 107 106 4 zb rfl rfl (by show some _=some _;rw [zy]) rfl rfl)
   (repeat (first|refine FW.seq ?_|refine FW.region ?_|refine FW.exit ?_|refine zn.nil ?_|refine zn.aY (zA rfl rfl rfl rfl rfl rfl rfl rfl) rfl ?_|refine zn.ab (yu rfl rfl rfl zb rfl rfl xt rfl rfl) rfl rfl ?_))
   exact FW.ret ⟨.inl rfl,_,YB rfl rfl rfl rfl zb rfl rfl (.refl _) rfl,rfl,rfl⟩)
theorem XW (l:List Int) (v:Nat) (hl:∀ x∈l,bD x) (hlen:l.length≤9223372036854775807):∀ (d:Nat),d≤3→∀ i,i+1000 * d≤980000→Ue Tryz.prog 25 [.ptr 5000 v 0 0,.int .i64 d] [(5000,gO l v i)] [] (fun res o=>res=.agg (gA l d i).1.fv∧o 5000=gO l v (gA l d i).2)
 | 0, _, i, hi => uL l v i hl hlen zc 0 _ (.inl ⟨Int.le_refl _, rfl⟩) zb (fun i => (fT, i)) (fun h => absurd h zb) (fun h => absurd h zb)
 | d + 1,hd,i,hi=>uL l v i hl hlen zc ((d+1:Nat):Int) _ (.inr ⟨by omega,rfl⟩) zc (gA l d) (fun _ j=>Fv l d j zc) (fun _ j hj Y hY=>by
     rw [hY,show ((d+1:Nat):Int) - 1=(d:Nat) by omega];exact XW l v hl hlen d zc j zc)
theorem BI (l:List Int) (hl:∀ x∈l,bD x) (hlen:l.length≤9223372036854775807):zP Tryz.prog 11 [.list 1 (l.map yQ)] .sh (.agg (gA l 3 0).1.fv):=by
 have hg:=XW l 1 hl hlen 3 (zi _) 0 zb;generalize (gA l 3 0).1=F at hg ⊢;generalize (gA l 3 0).2=i' at hg;refine zj 9 Tryz.func11 Tryz.ntmps11 rfl ?_;change FW _ _ _ ⟨[(0,.list 1 (l.map yQ))],[]⟩;refine za ?_;refine xv hg [(5000,6)] rfl (yl.cons rfl rfl rfl yl.nil) rfl rfl rfl rfl rfl rfl ?_;rintro _ aO ⟨rfl,h1⟩;refine XO.one [(6,gO l 1 i')] (.agg F.fv) rfl (congrArg (fun b=>[(6,zL.ren (cL [(5000,6)]) b)]) h1) ?_;clear h1 aO;refine zn.aY (zA rfl rfl (ya _) rfl rfl rfl rfl (zx _)) rfl ?_;refine za ?_;exact FW.ret ⟨.inl rfl,zu rfl rfl rfl rfl zb rfl (zx _)⟩
def cP (x:Int):Nat:=(xy x 1000000).toNat
def o3 (x:Int):List Int:=[((cP x % 4:Nat):Int) - 1,((cP x / 4 % 4:Nat):Int) - 1,((cP x / 16 % 4:Nat):Int) - 1].take (min 3 (cP x / 64 % 8))
def gJ (l:List Int):List (List Int):=(l.take 8).map o3
theorem vL (l:List Int):(gJ l).length≤8:=by unfold gJ;rw [zy,yE];omega
theorem DK (l:List Int) (h:i<l.length) (h8:i<8):(gJ (l.take (i+1))).map cy=(gJ (l.take i)).map cy++[cy (o3 (nth l i))]:=by
 unfold gJ;rw [Zu,Zu,Yr zc,Yr zc,YX h,yY,yY];rfl
theorem CH (l:List Int) (hl:∀ x∈l,bD x) (hlen:l.length≤9223372036854775807):zP Tryz.prog 12 [.list 1 (l.map yQ),.int .i64 8] .sh (.list 1 ((gJ l).map cy)):=by
 have k8:∀ i,¬ (i<l.length∧i<8)→gJ (l.take i)=gJ l:=fun i h=>by
  unfold gJ;rw [Zu];congr 1;by_cases h8:i<8
  ·rw [Yr zc,ym zc,ym zc]
  ·rw [xE zc]
 have hle:∀ i,(gJ (l.take i)).length≤8:=fun i=>vL _;refine zj 47 Tryz.func12 Tryz.ntmps12 rfl ?_;change FW _ _ _ ⟨[(0,.list 1 (l.map yQ)),(1,.int .i64 8)],[]⟩;refine za ?_;refine FW.loop (fun i:Nat=>⟨[(0,.list 1 (l.map yQ)),(1,.int .i64 8),(5,.own 105 0 0 (gJ (l.take i)).length),(6,.int .i64 i)],[(105,⟨0,.own,22,1,(gJ (l.take i)).map cy⟩)]⟩) (fun i=>i≤8) (fun i=>8 - i) 0 (zB _) ?_ ?_
 ·show au _ ⟨[(0,.list 1 (l.map yQ)),(1,.int .i64 8),(5,.own 105 0 0 0),(6,.int .i64 (0:Nat))],[(105,⟨0,.own,22,1,[]⟩)]⟩;exact (au.cv [⟨105,none,0,⟨0,.own,22,1,[]⟩⟩] zm zq)
 intro i hi;have hle:=hle i;refine za ?_;refine yc (fun h=>?_) (fun h=>?_)
 ·have az:i<l.length:=by have:=of_decide_eq_true h;omega
  clear h;refine za ?_;refine FW.cond rfl (fun h=>?_) (fun h=>?_)
  ·have h8:i<8:=by have:=of_decide_eq_true (p:=(i:Int)<8) h;omega
   clear h;have hs:=DK l az h8;have pF:(gJ (l.take (i+1))).length=(gJ (l.take i)).length+1:=by
    have:=congrArg List.length hs;simpa using this
   have hx:=hl _ (yn az);have ha:=YF (nth l i) 1000000 hx zb zb;obtain ⟨x,pH⟩:∃ x,nth l i=x:=⟨_,rfl⟩
   rw [pH] at hs ha;have h0:=Wv (n:=x) (aV:=1000000) zb;have h9:=Wu (n:=x) (aV:=1000000) zb;have hm:xy x 1000000=(cP x:Nat):=by unfold cP;omega
   have hN:cP x<1000000:=by omega
   rw [hm] at ha;have hv:(o3 x).map yQ=([[.int .i64 (((cP x % 4:Nat):Int) - 1)],[.int .i64 (((cP x / 4 % 4:Nat):Int) - 1)],[.int .i64 (((cP x / 16 % 4:Nat):Int) - 1)]].drop 0).take (min 3 (cP x / 64 % 8) - 0):=by
    unfold o3;rw [VN];rfl
   have r1:((cP x:Nat):Int).tmod 4=((cP x % 4:Nat):Int):=by rw [YI zc];omega
   have q1:((cP x:Nat):Int) / 4=((cP x / 4:Nat):Int):=by omega
   have r2:((cP x / 4:Nat):Int).tmod 4=((cP x / 4 % 4:Nat):Int):=by rw [YI zc];omega
   have q2:((cP x:Nat):Int) / 16=((cP x / 16:Nat):Int):=by omega
   have r3:((cP x / 16:Nat):Int).tmod 4=((cP x / 16 % 4:Nat):Int):=by rw [YI zc];omega
   have q4:((cP x:Nat):Int) / 64=((cP x / 64:Nat):Int):=by omega
   have r4:((cP x / 64:Nat):Int).tmod 8=((cP x / 64 % 8:Nat):Int):=by rw [YI zc];omega
   have jS:min (3:Int) ((cP x / 64 % 8:Nat):Int)=((min 3 (cP x / 64 % 8):Nat):Int):=by omega
   have m8:cP x % 4≤3:=by omega
   have dc:cP x / 4 % 4≤3:=by omega
   have n1:cP x / 16 % 4≤3:=by omega
   have lY:min 3 (cP x / 64 % 8)≤3:=by omega
   generalize (o3 x)=T at hs hv;generalize cP x % 4=a1 at r1 hv m8;generalize cP x / 4 % 4=a2 at r2 hv dc;generalize cP x / 16 % 4=a3 at r3 hv n1;generalize min 3 (cP x / 64 % 8)=u at jS hv lY;clear h0 hm hx h9
   (repeat (first|refine FW.seq ?_|refine FW.region ?_|refine FW.block ?_|refine FW.skip ?_|refine zn.ab (zS rfl) rfl rfl ?_|refine zn.ab (yj rfl rfl rfl rfl rfl rfl zF) rfl rfl ?_|refine zn.ab (yF rfl rfl rfl zF (by first|exact zO zc|rfl) rfl rfl) rfl rfl ?_))
   rw [pH];skip;refine zw ha (by repeat (first|exact zf.nil|refine zf.cons zd ?_)) rfl rfl ?_
   (repeat (first|refine FW.seq ?_|refine FW.region ?_|refine zn.nil ?_|refine zn.ab (yi rfl) rfl rfl ?_|refine zn.ab (zS rfl) rfl rfl ?_))
   refine zn.ab (Wi rfl rfl zb) rfl rfl ?_;rw [r1]
   (repeat (first|refine zn.ab (zS rfl) rfl rfl ?_|refine zn.ab (XV rfl rfl zc) rfl rfl ?_))
   refine zn.ab (sO rfl rfl zc) rfl rfl ?_;rw [q1];refine zn.ab (Wi rfl rfl zb) rfl rfl ?_;rw [r2]
   (repeat (first|refine zn.ab (zS rfl) rfl rfl ?_|refine zn.ab (XV rfl rfl zc) rfl rfl ?_))
   refine zn.ab (sO rfl rfl zc) rfl rfl ?_;rw [q2];refine zn.ab (Wi rfl rfl zb) rfl rfl ?_;rw [r3]
   (repeat (first|refine zn.ab (XV rfl rfl zc) rfl rfl ?_))
   refine zC (es:=[[.int .i64 ((a1:Int) - 1)],[.int .i64 ((a2:Int) - 1)],[.int .i64 ((a3:Int) - 1)]]) rfl rfl rfl (by refine zY.int rfl rfl ?_;refine zY.int rfl rfl ?_;refine zY.int rfl rfl ?_;exact zY.nil) rfl rfl rfl rfl rfl ?_
   (repeat (first|refine FW.region ?_|refine zn.nil ?_|refine zn.ab (yi rfl) rfl rfl ?_|refine zn.ab (zS rfl) rfl rfl ?_))
   refine zn.ab (sO rfl rfl zc) rfl rfl ?_;rw [q4];refine zn.ab (Wi rfl rfl zb) rfl rfl ?_;rw [r4]
   (repeat (first|refine zn.ab (wL rfl rfl) rfl rfl ?_))
   rw [jS];refine zn.ab (Yv (l:=0) (u:=u) rfl rfl rfl rfl jd.none (jc.lit rfl rfl) (zB _) lY) rfl rfl ?_;rw [← hv]
   (repeat (first|refine FW.region ?_|refine zn.nil ?_|refine zn.ab (yi rfl) rfl rfl ?_|refine zn.ab (zS rfl) rfl rfl ?_|refine zn.aR (Dk rfl rfl rfl rfl rfl rfl) rfl rfl ?_|refine wE rfl rfl (by first|exact (zy _).symm|(simp;done)|(simp;omega)) rfl rfl rfl zb (by exact fK.own rfl rfl zb (by first|exact zy _|exact (zy _).symm|exact xp|rfl|(simp;done)|omega|(simp;omega))) VQ VQ rfl rfl rfl ?_|refine zn.ab (Vr rfl rfl zc) rfl rfl ?_))
   refine ⟨i+1,by omega,by omega,?_⟩;rw [pF,hs];exact (au.cv [⟨105,some 45,1,⟨0,.own,22,1,(gJ (l.take i)).map cy++[cy T]⟩⟩] zm zq)
  ·have h8:¬ i<8:=by have:=of_decide_eq_false (p:=(i:Int)<8) h;omega
   rw [k8 i (fun h=>h8 h.2)];refine FW.le ?_ (au.share 5 rfl rfl (zy _).symm);refine za ?_;exact FW.ret ⟨.inl rfl,.sh (.cons (.tmp _ rfl rfl) .nil) rfl rfl⟩
 ·have az:¬ i<l.length:=by have:=of_decide_eq_false h;omega
  refine za ?_;rw [k8 i (fun h=>az h.1)];refine FW.le ?_ (au.share 4 rfl rfl (zy _).symm);exact FW.ret ⟨.inl rfl,.sh (.cons (.tmp _ rfl rfl) .nil) rfl rfl⟩
end
end Go.Proofs.YtedkppfghdipdaaGreatDoor
