/-
  Lemmas, in parts.
-/
import Derived.Test.YtedkppfghdipdaaGreatDoorZF
import Derived.Test.YtedkppfghdipdaaGreatDoorZFoPlain
namespace Go.Proofs.YtedkppfghdipdaaGreatDoor
set_option linter.unusedVariables false
set_option maxHeartbeats 16000000
open Go.RowKit
variable {i:Nat} {α:Type} {a b k:Int} {vs:List Int}
theorem fW.bZ (O:List Int):fW (bZ O) O.length:=by
 unfold Go.Proofs.YtedkppfghdipdaaGreatDoor.bZ;by_cases h:O=[]
 ·subst h;exact .inl ⟨rfl,rfl⟩
 ·rw [if_neg h];exact .inr ⟨_,rfl,by rw [zy]⟩
mutual
def Fo.fv:Fo→List FV
 | .mk k a b n ks => [.int .i64 k, .int .i64 a, .int .i64 b, .int .i64 n, .list 5 (qs ks)]
def qs:List Fo→List (List FV)
 | [] => []
 | f :: fs => Fo.fv f :: qs fs
end
theorem Fu (ks:List Fo):qs ks=ks.map Fo.fv:=by
 induction ks with
 | nil => rfl
 | cons f fs ih => rw [qs, ih]; rfl
theorem yP (k a b n:Int) (ks:List Fo):Fo.fv (.mk k a b n ks)=[.int .i64 k,.int .i64 a,.int .i64 b,.int .i64 n,.list 5 (ks.map Fo.fv)]:=by rw [Fo.fv,Fu]
theorem yb (f:Fo):f.fv=[.int .i64 f.k,.int .i64 f.a,.int .i64 f.b,.int .i64 f.n,.list 5 (f.ks.map Fo.fv)]:=by cases f;rw [yP];rfl
theorem ya (f:Fo):f.fv.all FV.one=true:=by rw [yb];rfl
theorem zx (f:Fo):f.fv.length=5:=by rw [yb];rfl
theorem Uq (k a b n:Int):FV.le (.agg [.int .i64 k,.int .i64 a,.int .i64 b,.int .i64 n,.nil]) (.agg (Fo.fv (.mk k a b n []))):=by
 rw [yP];exact .agg (.cons (.refl _) (.cons (.refl _) (.cons (.refl _) (.cons (.refl _) (.cons (.nil _) .nil)))))
theorem Yw (ks ls:List Fo):Wl ks ls=true↔ks=ls:=Vs (fun f _ g=>Zc f g) ls
theorem ZI (b:Bool):zP Tryz.prog 77 [.bool b] .sh (.agg (Wt b).fv):=by
 cases b
 ·refine zP.weaken (res:=.agg [.int .i64 4,.int .i64 0,.int .i64 0,.int .i64 0,.nil]) ?_ (.inr rfl) (Uq 4 0 0 0) rfl;refine zj 6 Tryz.func77 Tryz.ntmps77 rfl ?_;change FW _ _ _ ⟨[(0,_)],[]⟩;refine za ?_;exact FW.ret ⟨.inl rfl,zu rfl rfl rfl rfl zb rfl rfl⟩
 ·refine zP.weaken (res:=.agg [.int .i64 3,.int .i64 0,.int .i64 0,.int .i64 0,.nil]) ?_ (.inr rfl) (Uq 3 0 0 0) rfl;refine zj 6 Tryz.func77 Tryz.ntmps77 rfl ?_;change FW _ _ _ ⟨[(0,_)],[]⟩;refine za ?_;exact FW.ret ⟨.inl rfl,zu rfl rfl rfl rfl zb rfl rfl⟩
theorem wq (f:Fo):f.cst=((decide (f.k=3) || decide (f.k=4)) && decide ((f.ks.length:Int)=0)):=by
 unfold Fo.cst;congr 1;refine decide_eq_decide.2 ⟨fun h=>by rw [h];rfl,fun h=>Yc zc⟩
theorem xm (f:Fo):zP Tryz.prog 27 [.agg f.fv] .fr (.bool f.cst):=by
 rw [wq,yb];generalize f.k=k;generalize f.a=a;generalize f.b=b;generalize f.n=n;generalize f.ks=ks;have hL:(ks.map Fo.fv).length=ks.length:=zy _;refine zj 17 Tryz.func27 Tryz.ntmps27 rfl ?_;change FW _ _ _ ⟨[(0,_)],[]⟩;refine za ?_;refine yc (fun h=>?_) (fun h=>?_)
 ·rw [of_decide_eq_true h];refine za ?_;exact FW.ret ⟨.inl rfl,zh rfl rfl rfl rfl⟩
 ·rw [h,yX];refine za ?_;refine yc (fun h2=>?_) (fun h2=>?_)
  ·rw [h2];refine za ?_;exact FW.ret ⟨.inl rfl,zh rfl rfl rfl rfl⟩
  ·rw [h2];refine za ?_;exact FW.ret ⟨.inl rfl,zh rfl rfl rfl rfl⟩
theorem Uo (cf:Nat) (ks ls:List Fo) (hl:ks.length≤1000000000000000000) (hp:∀ f∈ks,∀ g,zP Tryz.prog cf [.agg f.fv,.agg g.fv] .fr (.bool (Yi f g))):zP Tryz.prog 155 [.list 5 (ks.map Fo.fv),.list 5 (ls.map Fo.fv),.fn cf []] .fr (.bool (Wl ks ls)):=by
 refine zj 32 Tryz.func155 Tryz.ntmps155 rfl ?_;change FW _ _ _ ⟨[(0,_),(1,_),(2,_)],[]⟩;refine za ?_;refine FW.cond rfl (fun h=>?_) (fun h=>?_)
 ·have h:=of_decide_eq_true (p:=(ks.length:Int)≠ls.length) h;rw [show Wl ks ls=false from VE.2 fun e=>h (by rw [(Yw ks ls).1 e])];refine za ?_;exact FW.ret ⟨.inl rfl,zh rfl rfl rfl rfl⟩
 have h:decide ((ks.length:Int)≠ls.length)=false:=h;have h:=of_decide_eq_false h;have iq:ks.length=ls.length:=by omega
 clear h;refine za ?_;refine FW.loop (fun i:Nat=>⟨[(1,.list 5 (ls.map Fo.fv)),(2,.fn cf []),(15,.list 5 (ks.map Fo.fv)),(16,.int .i64 ks.length),(17,.int .i64 i)],[]⟩) (fun i=>i≤ks.length∧∀ j,j<i→nth ks j=nth ls j) (fun i=>ks.length - i) 0 ⟨zB _,fun j h=>absurd h (ZQ j)⟩ ?_ ?_
 ·exact (au.cv [] Zb zq)
 rintro i ⟨hi,aP⟩;refine za ?_;refine FW.cond rfl (fun h=>?_) (fun h=>?_)
 ·have az:i<ks.length:=by have:=of_decide_eq_true (p:=(i:Int)<ks.length) h;omega
  have eF:i<ls.length:=by omega
  clear h;have tZ:=hp (nth ks i) (yn az) (nth ls i);rw [← xW [FV.agg (nth ks i).fv,FV.agg (nth ls i).fv]] at tZ
  (repeat (first|refine FW.seq ?_|refine FW.region ?_|refine FW.block ?_|refine FW.skip ?_|refine zn.ab (zS rfl) rfl rfl ?_|refine zn.ab (yj rfl rfl rfl rfl rfl rfl zF) rfl rfl ?_))
  refine zn.ab (zJ rfl rfl rfl zb zF (zO az) (zx _)) rfl rfl ?_
  (repeat (first|refine zn.ab (yi rfl) rfl rfl ?_|refine zn.aR (yV rfl rfl rfl rfl rfl) rfl rfl ?_))
  refine zn.aY (zA rfl rfl (ya _) rfl rfl rfl rfl (zx _)) rfl ?_
  (repeat (first|refine FW.seq ?_|refine FW.region ?_|refine zn.nil ?_|refine zn.ab (zS rfl) rfl rfl ?_|refine zn.ab (yj rfl rfl rfl rfl rfl rfl zF) rfl rfl ?_))
  refine zn.ab (zJ rfl rfl rfl zb zF (zO eF) (zx _)) rfl rfl ?_
  (repeat (first|refine zn.aR (yV rfl rfl rfl rfl rfl) rfl rfl ?_))
  refine zn.aY (zA rfl rfl (ya _) rfl rfl rfl rfl (zx _)) rfl ?_;refine za ?_;refine zn.ab (yu rfl rfl rfl zb rfl rfl Nat.one_pos rfl (zx _)) rfl rfl ?_;refine zn.ab (yu rfl rfl rfl zb rfl rfl Nat.one_pos rfl (zx _)) rfl rfl ?_;refine Yk rfl tZ (by repeat (first|exact zf.nil|refine zf.cons zd ?_)) rfl rfl ?_;cases hq:Yi (nth ks i) (nth ls i) with
  | false =>
   rw [show Wl ks ls=false from VE.2 fun e=>by rw [(Yw ks ls).1 e,(Zc _ _).2 rfl] at hq;cases hq];refine za ?_;exact FW.ret ⟨.inl rfl,zh rfl rfl rfl rfl⟩
  | true=>
   refine za ?_;refine ⟨i+1,⟨by omega,fun j hj=>?_⟩,by omega,?_⟩
   ·by_cases iM:j=i
    ·subst iM;exact (Zc _ _).1 hq
    ·exact aP j zc
   ·exact (au.cv [] Zb zq)
 ·have he:i=ks.length:=by have:=of_decide_eq_false (p:=(i:Int)<ks.length) h;omega
  rw [show Wl ks ls=true from (Yw ks ls).2 (List.ext_getElem iq fun j h1 h2=>by have:=aP j zc;rwa [xI h1,xI h2] at this)];refine za ?_;exact FW.ret ⟨.inl rfl,zh rfl rfl rfl rfl⟩
theorem Vh (f:Fo):∀ g,zW f≤1000000000000000000→zP Tryz.prog 135 [.agg f.fv,.agg g.fv] .fr (.bool (Yi f g)):=by
 induction f using Fo.induct with
 | h k a b n ks ih=>
  intro g hs;obtain ⟨k',a',b',n',ck⟩:=g;rw [zW] at hs;have hq:=Uo 135 ks ck (by have:=yo ks;omega) (fun f hf g=>ih f hf g (by have:=yC hf;omega));rw [Yi,yP,yP];generalize Wl ks ck=R at hq ⊢;generalize ks.map Fo.fv=K at hq ⊢;generalize ck.map Fo.fv=K' at hq ⊢;clear ih hs;refine zj 38 Tryz.func135 Tryz.ntmps135 rfl ?_;change FW _ _ _ ⟨[(0,_),(1,_)],[]⟩;refine za ?_;refine yc (fun h1=>?_) (fun h1=>?_);rotate_left
  ·rw [h1];refine za ?_;exact FW.ret ⟨.inl rfl,zh rfl rfl rfl rfl⟩
  rw [h1];refine za ?_;refine yc (fun h2=>?_) (fun h2=>?_);rotate_left
  ·rw [h2];refine za ?_;exact FW.ret ⟨.inl rfl,zh rfl rfl rfl rfl⟩
  rw [h2];refine za ?_;refine yc (fun h3=>?_) (fun h3=>?_);rotate_left
  ·rw [h3];refine za ?_;exact FW.ret ⟨.inl rfl,zh rfl rfl rfl rfl⟩
  rw [h3];refine za ?_;refine yc (fun h4=>?_) (fun h4=>?_);rotate_left
  ·rw [h4];refine za ?_;exact FW.ret ⟨.inl rfl,zh rfl rfl rfl rfl⟩
  rw [h4];refine za ?_;refine zw hq (by repeat (first|exact zf.nil|refine zf.cons zd ?_)) rfl ⟨_,_,rfl,rfl,rfl⟩ ?_;refine za ?_;exact FW.ret ⟨.inl rfl,zh rfl rfl rfl rfl⟩
theorem uw:zP Tryz.prog 72 [] .sh (.agg fT.fv):=by
 refine zP.weaken (res:=.agg [.int .i64 3,.int .i64 0,.int .i64 0,.int .i64 0,.nil]) ?_ (.inr rfl) (Uq 3 0 0 0) rfl;refine zj 2 Tryz.func72 Tryz.ntmps72 rfl ?_;change FW _ _ _ ⟨[],[]⟩;refine za ?_;exact FW.ret ⟨.inl rfl,zu rfl rfl rfl rfl zb rfl rfl⟩
theorem Wn:zP Tryz.prog 73 [] .sh (.agg fF.fv):=by
 refine zP.weaken (res:=.agg [.int .i64 4,.int .i64 0,.int .i64 0,.int .i64 0,.nil]) ?_ (.inr rfl) (Uq 4 0 0 0) rfl;refine zj 2 Tryz.func73 Tryz.ntmps73 rfl ?_;change FW _ _ _ ⟨[],[]⟩;refine za ?_;exact FW.ret ⟨.inl rfl,zu rfl rfl rfl rfl zb rfl rfl⟩
theorem XZ (k:Int):zP Tryz.prog 166 [.int .i64 k] .fr (.int .i64 (gF k)):=by
 unfold gF;refine zj 5 Tryz.func166 Tryz.ntmps166 rfl ?_;change FW _ _ _ ⟨[(0,.int .i64 k)],[]⟩;refine za ?_;refine FW.cond rfl (fun h=>?_) (fun h=>?_)
 ·rw [if_pos (of_decide_eq_true (p:=k=3) h)];refine za ?_;exact FW.ret ⟨.inl rfl,zh rfl rfl rfl rfl⟩
 ·rw [if_neg (of_decide_eq_false (p:=k=3) h)];refine za ?_;exact FW.ret ⟨.inl rfl,zh rfl rfl rfl rfl⟩
theorem Zr (f:Fo):zP Tryz.prog 159 [.agg f.fv] .fr (.bool f.cst):=by
 rw [wq,yb];generalize f.k=k;generalize f.a=a;generalize f.b=b;generalize f.n=n;generalize f.ks=ks;have hL:(ks.map Fo.fv).length=ks.length:=zy _;refine zj 17 Tryz.func159 Tryz.ntmps159 rfl ?_;change FW _ _ _ ⟨[(0,_)],[]⟩;refine za ?_;refine yc (fun h=>?_) (fun h=>?_)
 ·rw [of_decide_eq_true h];refine za ?_;exact FW.ret ⟨.inl rfl,zh rfl rfl rfl rfl⟩
 ·rw [h,yX];refine za ?_;refine yc (fun h2=>?_) (fun h2=>?_)
  ·rw [h2];refine za ?_;exact FW.ret ⟨.inl rfl,zh rfl rfl rfl rfl⟩
  ·rw [h2];refine za ?_;exact FW.ret ⟨.inl rfl,zh rfl rfl rfl rfl⟩
def mF (p:Fo→Bool) (l:List Fo):Int:=if l.any p=true then (l.findIdx p:Nat) else -1
theorem FQ {p:Fo→Bool} {l:List Fo} (az:i<l.length) (h:p (nth l i)=true) (hf:∀ j,j<i→p (nth l j)=false):mF p l=i:=by
 unfold mF;rw [if_pos (qq.2 ⟨i,az,h⟩),(List.findIdx_eq az).2 ⟨by rw [← xI az];exact h,fun j hj=>by rw [← xI (show j<l.length by omega)];exact hf j hj⟩]
theorem FU {p:Fo→Bool} {l:List Fo} (hf:∀ j,j<l.length→p (nth l j)=false):mF p l = -1:=by
 unfold mF;rw [if_neg];intro h;obtain ⟨j,h1,h2⟩:=qq.1 h;rw [hf j h1] at h2;cases h2
theorem FT {p:Fo→Bool} {l:List Fo}:decide (mF p l≥0)=l.any p:=by
 unfold mF;cases h:l.any p with
 | true => rw [if_pos rfl]; exact decide_eq_true (Xx _)
 | false => rw [if_neg zb]; rfl
theorem UA (l:List Fo) (cf:Nat) (aF:List FV) (p:Fo→Bool) (hl:l.length≤1000000000000000000) (hp:∀ o∈l,zP Tryz.prog cf ([.agg o.fv]++aF) .fr (.bool (p o))):zP Tryz.prog 156 [.list 5 (l.map Fo.fv),.fn cf aF] .fr (.int .i64 (mF p l)):=by
 refine zj 19 Tryz.func156 Tryz.ntmps156 rfl ?_;change FW _ _ _ ⟨[(0,.list 5 (l.map Fo.fv)),(1,.fn cf aF)],[]⟩;refine za ?_;refine FW.loop (fun i:Nat=>⟨[(0,.list 5 (l.map Fo.fv)),(1,.fn cf aF),(7,.int .i64 l.length),(8,.int .i64 i)],[]⟩) (fun i=>i≤l.length∧∀ j,j<i→p (nth l j)=false) (fun i=>l.length - i) 0 ⟨zB _,fun j hj=>by omega⟩ (au.cv [] Zb zq) ?_;rintro i ⟨hi,hf⟩;refine za ?_;refine FW.cond rfl (fun h=>?_) (fun h=>?_)
 ·have az:i<l.length:=by simpa using h
  clear h;refine za ?_;refine zn.ab (zJ rfl rfl rfl zb zF (zO az) (zx _)) rfl rfl ?_;refine Yk rfl (hp (nth l i) (yn az)) (by repeat (first|exact zf.nil|refine zf.cons zd ?_)) rfl rfl ?_;refine za ?_;refine FW.cond rfl (fun h=>?_) (fun h=>?_)
  ·refine za ?_;exact FW.ret ⟨.inl rfl,zh rfl rfl (congrArg (FV.int .i64) (FQ az h hf).symm) rfl⟩
  ·refine za ?_;refine ⟨i+1,⟨by omega,fun j hj=>?_⟩,by omega,(au.cv [] Zb zq)⟩;rcases yJ j i with h1|h1
   ·exact hf j h1
   ·have:j=i:=by omega
    subst this;exact h
 ·obtain rfl:i=l.length:=by simp at h;omega
  refine za ?_;exact FW.ret ⟨.inl rfl,zh rfl rfl (by rw [FU hf];rfl) rfl⟩
theorem Yh (l:List Fo) (cf:Nat) (aF:List FV) (p:Fo→Bool) (hl:l.length≤1000000000000000000) (hp:∀ o∈l,zP Tryz.prog cf ([.agg o.fv]++aF) .fr (.bool (p o))):zP Tryz.prog 136 [.list 5 (l.map Fo.fv),.fn cf aF] .fr (.bool (l.any p)):=by
 refine zj 9 Tryz.func136 Tryz.ntmps136 rfl ?_;change FW _ _ _ ⟨[(0,.list 5 (l.map Fo.fv)),(1,.fn cf aF)],[]⟩;refine za ?_;refine zw (UA l cf aF p hl hp) (by repeat (first|exact zf.nil|refine zf.cons zd ?_)) rfl rfl ?_;refine za ?_;exact FW.ret ⟨.inl rfl,zh rfl rfl (congrArg FV.bool FT) rfl⟩
theorem CL (f g:Fo) (hs:zW f≤1000000000000000000):zP Tryz.prog 137 ([.agg g.fv]++[.ay 5 [f.fv] 0 0]) .fr (.bool (Yi f g)):=by
 have hq:=Vh f g hs;have hA:=ya g;refine zj 7 Tryz.func137 Tryz.ntmps137 rfl ?_;change FW _ _ _ ⟨[(0,.agg g.fv),(1,.ay 5 [f.fv] 0 0)],[]⟩;refine xf ?_;refine zn.aR (yA rfl rfl hA (zx _) rfl) rfl rfl ?_;refine za ?_;refine zn.ab (zJ rfl rfl rfl zb Nat.one_pos rfl (zx _)) rfl rfl ?_;skip;refine zn.ab (yu rfl rfl rfl zb rfl rfl Nat.one_pos rfl (zx _)) rfl rfl ?_;refine zw hq (by repeat (first|exact zf.nil|refine zf.cons zd ?_)) rfl rfl ?_;refine za ?_;exact FW.ret ⟨.inl rfl,zh rfl rfl rfl rfl⟩
theorem CM (f g:Fo) (hs:zW f≤1000000000000000000):zP Tryz.prog 138 ([.agg f.fv]++[.ay 5 [g.fv] 0 0]) .fr (.bool (Yi f g)):=by
 have hq:=Vh f g hs;have hA:=ya f;refine zj 7 Tryz.func138 Tryz.ntmps138 rfl ?_;change FW _ _ _ ⟨[(0,.agg f.fv),(1,.ay 5 [g.fv] 0 0)],[]⟩;refine xf ?_;refine zn.aR (yA rfl rfl hA (zx _) rfl) rfl rfl ?_;refine za ?_;refine zn.ab (yu rfl rfl rfl zb rfl rfl Nat.one_pos rfl (zx _)) rfl rfl ?_;skip;refine zn.ab (zJ rfl rfl rfl zb Nat.one_pos rfl (zx _)) rfl rfl ?_;refine zw hq (by repeat (first|exact zf.nil|refine zf.cons zd ?_)) rfl rfl ?_;refine za ?_;exact FW.ret ⟨.inl rfl,zh rfl rfl rfl rfl⟩
theorem YP (l:List Fo) (i:Nat):zG (l.take i)≤zG l:=by
 have h:=XJ (l.take i) (l.drop i);rw [List.take_append_drop] at h;omega
theorem wu (acc xs ys:List Fo):bW acc (xs++ys)=bW (bW acc xs) ys:=by unfold bW;rw [rQ]
theorem wy (acc xs:List Fo) (x:Fo):bW acc (xs++[x])=if (bW acc xs).any (Yi x) then bW acc xs else bW acc xs++[x]:=by
 rw [wu];rfl
def UM (k:Int) (f:Fo):List Fo:=if f.k=k then f.ks else [f]
theorem uU (k:Int) (xs:List Fo) (x:Fo):yv k (xs++[x])=yv k xs++UM k x:=by
 unfold yv UM;rw [List.flatMap_append,Yd,List.flatMap_nil,xW]
theorem YX [Inhabited α] {l:List α} (h:i<l.length):l.take (i+1)=l.take i++[nth l i]:=by
 rw [Yp h,xI h]
theorem DF (k:Int) (f:Fo):zG (UM k f)≤zW f:=by
 unfold UM;split
 ·have:=YO f;omega
 ·simp [zG]
theorem lO {l:List Fo} (h:i<l.length):(l.map Fo.fv).getD i []=[.int .i64 (nth l i).k,.int .i64 (nth l i).a,.int .i64 (nth l i).b,.int .i64 (nth l i).n,.list 5 ((nth l i).ks.map Fo.fv)]:=by
 rw [zO h,yb]
theorem FI (k:Int) (xs:List Fo):(bW [] (yv k xs)).length≤zG xs:=by
 have h1:=yo (bW [] (yv k xs));have h2:=Wm [] (yv k xs);have h3:=Yy k xs;rw [show zG []=0 from rfl] at h2;omega
theorem Xl (k:Int) (kids:List Fo) (hn:zG kids≤1000000000000):zP Tryz.prog 78 [.int .i64 k,.list 5 (kids.map Fo.fv)] .sh (.agg (xA k kids).fv):=by
 have hc:=ZI (decide (k=4));rw [show Wt (decide (k=4))=gI k from rfl] at hc;have jB:=vQ k;have hj:xA k kids=if (bW [] (yv k kids)).any (fun f=>Yi f (gI k)) then gI k else iA k (bW [] (yv k kids)):=rfl
 have iJ:=FI k kids;have hlen:=yo kids;have cY:∀ f∈bW [] (yv k kids),zW f≤1000000000000:=fun f hf=>by
  have:=yC hf;have h1:=Wm [] (yv k kids);have:=Yy k kids;rw [show zG []=0 from rfl] at h1;omega
 generalize gI k=A at hc jB hj ⊢;rw [hj];obtain ⟨ca,ij⟩:∃ ca,A.fv=ca:=⟨_,rfl⟩
 have n6:ca.all FV.one=true:=ij▸ya A;have kB:ca.length=5:=ij▸zx A;rw [ij] at hc;refine zj 60 Tryz.func78 Tryz.ntmps78 rfl ?_;change FW _ _ _ ⟨[(0,.int .i64 k),(1,.list 5 (kids.map Fo.fv))],[]⟩;refine za ?_;refine zX hc (by repeat (first|exact zf.nil|refine zf.cons zd ?_)) rfl rfl ?_
 (repeat (first|refine zn.aR (yV rfl rfl rfl rfl rfl) rfl rfl ?_))
 refine zn.aY (zA rfl rfl n6 rfl rfl rfl rfl kB) rfl ?_;refine za ?_;refine FW.le ?_ (au.aL 5 rfl rfl);refine FW.loop (fun i:Nat=>⟨[(0,.int .i64 k),(4,.ptr 104 0 0 0),(5,.ay 5 [ca] 0 0),(6,.own 106 0 0 (bW [] (yv k (kids.take i))).length),(15,.list 5 (kids.map Fo.fv)),(16,.int .i64 kids.length),(17,.int .i64 i)],[(104,⟨0,.own,34,5,[[.int .i64 0,.int .i64 0,.int .i64 0,.int .i64 0,.nil]]⟩),(106,⟨0,.own,34,5,(bW [] (yv k (kids.take i))).map Fo.fv⟩)]⟩) (fun i=>i≤kids.length) (fun i=>kids.length - i) 0 (zB _) ?_ ?_
 ·show au _ ⟨[(0,.int .i64 k),(4,.ptr 104 0 0 0),(5,.ay 5 [ca] 0 0),(6,.own 106 0 0 0),(15,.list 5 (kids.map Fo.fv)),(16,.int .i64 kids.length),(17,.int .i64 (0:Nat))],[(104,⟨0,.own,34,5,[[.int .i64 0,.int .i64 0,.int .i64 0,.int .i64 0,.nil]]⟩),(106,⟨0,.own,34,5,[]⟩)]⟩;exact (au.cv [⟨104,some 4,1,⟨0,.own,34,5,[[.int .i64 0,.int .i64 0,.int .i64 0,.int .i64 0,.nil]]⟩⟩,⟨106,none,0,⟨0,.own,34,5,[]⟩⟩] zm zq)
 intro i hi;refine za ?_;refine FW.cond rfl (fun h=>?_) (fun h=>?_)
 ·have az:i<kids.length:=by have:=of_decide_eq_true (p:=(i:Int)<kids.length) h;omega
  clear h;have bz:yv k (kids.take (i+1))=yv k (kids.take i)++UM k (nth kids i):=by rw [YX az,uU]
  have Ag:zG (bW [] (yv k (kids.take i)))≤zG kids:=by
   have h1:=Wm [] (yv k (kids.take i));have h2:=Yy k (kids.take i);have h3:=YP kids i;rw [show zG []=0 from rfl] at h1;omega
  have tD:zG (UM k (nth kids i))≤zG kids:=zR (DF k _) (yC (yn az));have iH:UM k (nth kids i)=if (nth kids i).k=k then (nth kids i).ks else [nth kids i]:=rfl
  have nX:=wu [] (yv k (kids.take i)) (UM k (nth kids i));rw [← bz] at nX;generalize bW [] (yv k (kids.take i))=L at Ag nX ⊢;have hg:=lO az;have cd:=yb (nth kids i);generalize nth kids i=f at tD iH nX hg cd;generalize UM k f=P at tD iH nX;clear bz
  (repeat (first|refine FW.seq ?_|refine FW.region ?_|refine FW.block ?_|refine FW.skip ?_|refine zn.ab (yj rfl rfl rfl rfl rfl rfl zF) rfl rfl ?_))
  refine zn.ab (zJ rfl rfl rfl zb zF hg rfl) rfl rfl ?_;refine Zp ?_;refine FW.seq ?_;refine FW.region ?_;refine Zp ?_;refine FW.seq ?_;refine FW.join (fun _:Unit=>⟨[(0,.int .i64 k),(4,.ptr 104 0 0 0),(5,.ay 5 [ca] 0 0),(6,.own 106 0 0 L.length),(9,.list 5 (P.map Fo.fv)),(15,.list 5 (kids.map Fo.fv)),(16,.int .i64 kids.length),(17,.int .i64 i)],[(104,⟨0,.own,34,5,[[.int .i64 0,.int .i64 0,.int .i64 0,.int .i64 0,.nil]]⟩),(106,⟨0,.own,34,5,L.map Fo.fv⟩)]⟩) (fun _=>True) ?_ ?_
  ·refine za ?_;refine FW.cond rfl (fun h=>?_) (fun h=>?_)
   ·have h:decide (f.k=k)=true:=h;rw [if_pos (of_decide_eq_true h)] at iH;rw [iH];refine za ?_;refine ⟨rfl,(),trivial,?_⟩;exact (au.cv [⟨104,some 104,0,⟨0,.own,34,5,[[.int .i64 0,.int .i64 0,.int .i64 0,.int .i64 0,.nil]]⟩⟩,⟨106,some 106,0,⟨0,.own,34,5,L.map Fo.fv⟩⟩] zm zq)
   ·have h:decide (f.k=k)=false:=h;rw [if_neg (of_decide_eq_false h)] at iH;rw [iH,zH,yt,cd];refine za ?_;refine ⟨rfl,(),trivial,?_⟩;refine au.trans (au.share 9 rfl rfl rfl) ?_;exact (au.cv [⟨104,some 104,0,⟨0,.own,34,5,[[.int .i64 0,.int .i64 0,.int .i64 0,.int .i64 0,.nil]]⟩⟩,⟨106,some 106,0,⟨0,.own,34,5,L.map Fo.fv⟩⟩] zm zq)
  rintro _ _;clear hg cd iH;have GA:=yo P;refine za ?_;refine FW.loop (fun j:Nat=>⟨[(0,.int .i64 k),(4,.ptr 104 0 0 0),(5,.ay 5 [ca] 0 0),(6,.own 106 0 0 (bW L (P.take j)).length),(15,.list 5 (kids.map Fo.fv)),(16,.int .i64 kids.length),(17,.int .i64 i),(29,.list 5 (P.map Fo.fv)),(30,.int .i64 P.length),(31,.int .i64 j)],[(104,⟨0,.own,34,5,[[.int .i64 0,.int .i64 0,.int .i64 0,.int .i64 0,.nil]]⟩),(106,⟨0,.own,34,5,(bW L (P.take j)).map Fo.fv⟩)]⟩) (fun j=>j≤P.length) (fun j=>P.length - j) 0 (zB _) ?_ ?_
  ·show au _ ⟨[(0,.int .i64 k),(4,.ptr 104 0 0 0),(5,.ay 5 [ca] 0 0),(6,.own 106 0 0 L.length),(15,.list 5 (kids.map Fo.fv)),(16,.int .i64 kids.length),(17,.int .i64 i),(29,.list 5 (P.map Fo.fv)),(30,.int .i64 P.length),(31,.int .i64 (0:Nat))],[(104,⟨0,.own,34,5,[[.int .i64 0,.int .i64 0,.int .i64 0,.int .i64 0,.nil]]⟩),(106,⟨0,.own,34,5,L.map Fo.fv⟩)]⟩;exact (au.cv [⟨104,some 104,0,⟨0,.own,34,5,[[.int .i64 0,.int .i64 0,.int .i64 0,.int .i64 0,.nil]]⟩⟩,⟨106,some 106,0,⟨0,.own,34,5,L.map Fo.fv⟩⟩] zm zq)
  intro j hj;refine za ?_;refine FW.cond rfl (fun h=>?_) (fun h=>?_)
  ·have eF:j<P.length:=by have:=of_decide_eq_true (p:=(j:Int)<P.length) h;omega
   clear h;have At:=yC (yn eF);have pz:=Wm L (P.take j);have Ai:=YP P j;have qE:=yo (bW L (P.take j));have cg:bW L (P.take (j+1))=if (bW L (P.take j)).any (Yi (nth P j)) then bW L (P.take j) else bW L (P.take j)++[nth P j]:=by rw [YX eF,wy]
   generalize bW L (P.take j)=M at pz qE cg ⊢;have hg:=lO eF;have cd:=yb (nth P j);have jG:=Yh M 137 [.ay 5 [(nth P j).fv] 0 0] (Yi (nth P j)) zc (fun g _=>CL (nth P j) g zc);generalize nth P j=g at At cg hg cd jG;rw [cd] at jG
   (repeat (first|refine FW.seq ?_|refine FW.region ?_|refine FW.block ?_|refine FW.skip ?_|refine zn.ab (yj rfl rfl rfl rfl rfl rfl zF) rfl rfl ?_))
   refine zn.ab (zJ rfl rfl rfl zb zF hg rfl) rfl rfl ?_;refine Zp ?_;refine FW.le ?_ (au.aL 11 rfl rfl);refine za ?_;refine zw jG xr rfl rfl ?_;cases fu:M.any (Yi g) with
   | true =>
    rw [fu,if_pos rfl] at cg;refine za ?_;refine ⟨j+1,by omega,by omega,?_⟩;rw [cg];exact (au.cv [⟨104,some 104,0,⟨0,.own,34,5,[[.int .i64 0,.int .i64 0,.int .i64 0,.int .i64 0,.nil]]⟩⟩,⟨106,some 106,0,⟨0,.own,34,5,M.map Fo.fv⟩⟩] zm zq)
   | false =>
    rw [fu,if_neg zb] at cg;refine za ?_;refine ⟨j+1,by omega,by omega,?_⟩;rw [cg,yY,zH,yt,cd];exact (au.cv [⟨104,some 104,0,⟨0,.own,34,5,[[.int .i64 0,.int .i64 0,.int .i64 0,.int .i64 0,.nil]]⟩⟩,⟨106,some 42,1,⟨0,.own,34,5,M.map Fo.fv++[[FV.int .i64 g.k,FV.int .i64 g.a,FV.int .i64 g.b,FV.int .i64 g.n,FV.list 5 (g.ks.map Fo.fv)]]⟩⟩] zm zq)
  ·have he:j=P.length:=by have:=of_decide_eq_false (p:=(j:Int)<P.length) h;omega
   rw [he,yI,← nX];refine za ?_;refine ⟨i+1,by omega,by omega,?_⟩;exact (au.cv [⟨104,some 104,0,⟨0,.own,34,5,[[.int .i64 0,.int .i64 0,.int .i64 0,.int .i64 0,.nil]]⟩⟩,⟨106,some 106,0,⟨0,.own,34,5,(bW [] (yv k (kids.take (i+1)))).map Fo.fv⟩⟩] zm zq)
 ·have he:i=kids.length:=by have:=of_decide_eq_false (p:=(i:Int)<kids.length) h;omega
  rw [he,yI];have jG:=Yh (bW [] (yv k kids)) 138 [.ay 5 [A.fv] 0 0] (fun f=>Yi f A) zc (fun g hg=>CM g A (by have:=cY g hg;omega));rw [ij] at jG;generalize bW [] (yv k kids)=L at jG iJ ⊢;refine za ?_;refine zw jG xr rfl rfl ?_;cases fu:L.any (fun f=>Yi f A) with
  | true =>
   rw [if_pos rfl,ij]
   (repeat (first|refine FW.seq ?_|refine FW.region ?_|refine FW.ew rfl ?_|refine zn.nil ?_|refine zn.ab (yi rfl) rfl rfl ?_))
   refine zn.ab (zJ rfl rfl rfl zb Nat.one_pos rfl kB) rfl rfl ?_;refine zn.aY (zA rfl rfl n6 rfl rfl rfl rfl kB) rfl ?_;refine za ?_;exact FW.ret ⟨.inl rfl,zu rfl rfl rfl rfl zb rfl kB⟩
  | false=>
   rw [if_neg zb];refine za ?_;refine FW.cond rfl (fun h=>?_) (fun h=>?_)
   ·have h:decide ((L.length:Int)=1)=true:=h;have h:=of_decide_eq_true h;obtain ⟨x,rfl⟩:=XA.1 (show L.length=1 by omega);obtain ⟨k',a',b',n',ck⟩:=x;simp only [iA,zH,yt,yP];refine za ?_;exact FW.ret ⟨.inl rfl,zu rfl rfl rfl rfl zb rfl rfl⟩
   ·have h:decide ((L.length:Int)=1)=false:=h;have h:=of_decide_eq_false h;have bf:iA k L=.mk k 0 0 0 L:=by
     unfold iA;split
     ·exact absurd rfl h
     ·rfl
    rw [bf,yP];refine FW.le ?_ (au.share 6 rfl rfl (zy _).symm);refine za ?_;exact FW.ret ⟨.inl rfl,zu rfl rfl rfl rfl zb rfl rfl⟩
structure Kd (f:Fo) (kids:List Fo):Prop where
 lo:1≤f.k
 hi:f.k≤8
 one:f.k=2∨f.k=5∨f.k=7∨f.k=8→∃ g r,kids=g::r
 two:f.k=6→∃ g h r,kids=g::h::r
 not:f.k=2→(nth kids 0).k=2→∃ x r,(nth kids 0).ks=x::r
theorem Kd.of {f:Fo} (h:Wf f) {kids:List Fo} (hl:kids.length=f.ks.length) (hw:∀ g∈kids,Wf g):Kd f kids:=by
 have h1:f.ks.length=1→∃ g r,kids=g::r:=fun e=>by
  cases kids with
  | nil => simp at hl; omega
  | cons g r => exact ⟨g, r, rfl⟩
 cases h with
 | var a b n ha hb dc => exact ⟨by simp [Fo.k], by simp [Fo.k], fun h => by simp [Fo.k] at h, fun h => by simp [Fo.k] at h, fun h => by simp [Fo.k] at h⟩
 | un k f hk hf =>
  obtain ⟨g,r,rfl⟩:=h1 rfl;refine ⟨by simp only [Fo.k];omega,by simp only [Fo.k];omega,fun _=>⟨g,r,rfl⟩,fun h=>by simp only [Fo.k] at h;omega,fun _ h=>?_⟩;obtain ⟨x,e,_⟩:=(hw g (XC ..)).fG h;exact ⟨x,[],by rw [show nth (g::r) 0=g from rfl,e];rfl⟩
 | bG f g hf hg =>
  refine ⟨by simp [Fo.k],by simp [Fo.k],fun h=>by simp [Fo.k] at h,fun h=>?_,fun h=>by simp [Fo.k] at h⟩
  match kids,hl with
  | g :: h :: r, _ => exact ⟨g, h, r, rfl⟩
 | many k ks hk kj => exact ⟨by simp only [Fo.k]; omega, by simp only [Fo.k]; omega, fun h => by simp only [Fo.k] at h; omega, fun h => by simp only [Fo.k] at h; omega, fun h => by simp only [Fo.k] at h; omega⟩
theorem uH (f:Fo) (kids:List Fo) (hn:zG kids≤1000000000000) (hk:Kd f kids):zP Tryz.prog 75 [.agg f.fv,.list 5 (kids.map Fo.fv)] .sh (.agg (yM f kids).fv):=by
 obtain ⟨lo,hi,one,two,jV⟩:=hk;obtain ⟨k,a,b,n,ks⟩:=f;rw [yP];simp only [Fo.k] at lo hi one two jV;generalize ks.map Fo.fv=K;have hj:=Xl k kids hn;have l5:yM (.mk k a b n ks) kids=if k=3∨k=4 then xA k kids
  else if k=2 then (if (nth kids 0).cst then Wt (decide ((nth kids 0).k=4)) else if (nth kids 0).k=2 then nth (nth kids 0).ks 0 else .mk k a b n kids)
  else if k=6 then (if (nth kids 1).cst || Yi (nth kids 0) fF then nth kids 1 else .mk k a b n kids)
  else if k=5∨k=7∨k=8 then (if (nth kids 0).cst then nth kids 0 else .mk k a b n kids)
  else .mk k a b n kids:=rfl
 rw [l5];clear l5;obtain rfl|rfl|lS|rfl|rfl|rfl:k=3∨k=4∨(k=5∨k=7∨k=8)∨k=1∨k=2∨k=6:=by omega
 ·rw [if_pos (.inl rfl)];refine zj 67 Tryz.func75 Tryz.ntmps75 rfl ?_;change FW _ _ _ ⟨[(0,_),(1,_)],[]⟩;refine za ?_;refine zX hj (by repeat (first|exact zf.nil|refine zf.cons zd ?_)) rfl rfl ?_;refine zn.aY (zA rfl rfl (ya _) rfl rfl rfl rfl (zx _)) rfl ?_;refine za ?_;exact FW.ret ⟨.inl rfl,zu rfl rfl rfl rfl zb rfl (zx _)⟩
 ·rw [if_pos (.inr rfl)];refine zj 67 Tryz.func75 Tryz.ntmps75 rfl ?_;change FW _ _ _ ⟨[(0,_),(1,_)],[]⟩;refine za ?_;refine zX hj (by repeat (first|exact zf.nil|refine zf.cons zd ?_)) rfl rfl ?_;refine zn.aY (zA rfl rfl (ya _) rfl rfl rfl rfl (zx _)) rfl ?_;refine za ?_;exact FW.ret ⟨.inl rfl,zu rfl rfl rfl rfl zb rfl (zx _)⟩
 ·obtain ⟨g,r,rfl⟩:=one (.inr lS);have hc:=xm g;obtain ⟨k',a',b',n',ck⟩:=g;have hR:(if k=3∨k=4 then xA k (.mk k' a' b' n' ck::r)
   else if k=2 then (if (Fo.mk k' a' b' n' ck).cst then Wt (decide ((Fo.mk k' a' b' n' ck).k=4)) else if (Fo.mk k' a' b' n' ck).k=2 then nth (Fo.mk k' a' b' n' ck).ks 0 else .mk k a b n (.mk k' a' b' n' ck::r))
   else if k=6 then (if (nth (.mk k' a' b' n' ck::r) 1).cst || Yi (Fo.mk k' a' b' n' ck) fF then nth (.mk k' a' b' n' ck::r) 1 else .mk k a b n (.mk k' a' b' n' ck::r))
   else if k=5∨k=7∨k=8 then (if (Fo.mk k' a' b' n' ck).cst then .mk k' a' b' n' ck else .mk k a b n (.mk k' a' b' n' ck::r))
   else .mk k a b n (.mk k' a' b' n' ck::r))=if (Fo.mk k' a' b' n' ck).cst then .mk k' a' b' n' ck else .mk k a b n (.mk k' a' b' n' ck::r):=by
   rw [if_neg zc,if_neg zc,if_neg zc,if_pos lS]
  refine Eq.mpr (congrArg (fun x=>zP _ _ _ _ (.agg (Fo.fv x))) hR) ?_;clear hR hj one two jV;generalize (Fo.mk k' a' b' n' ck).cst=c at hc ⊢;cases c
  all_goals (
   simp only [if_true,if_false,Xw,yP,zH] at hc ⊢;generalize r.map Fo.fv=R;generalize ck.map Fo.fv=K' at hc ⊢;rcases lS with rfl|rfl|rfl
   all_goals (
    refine zj 67 Tryz.func75 Tryz.ntmps75 rfl ?_;change FW _ _ _ ⟨[(0,_),(1,_)],[]⟩;refine za ?_;refine zw hc (by repeat (first|exact zf.nil|refine zf.cons zd ?_)) rfl rfl ?_;refine za ?_;exact FW.ret ⟨.inl rfl,zu rfl rfl rfl rfl zb rfl rfl⟩))
 ·rw [if_neg zb,if_neg zb,if_neg zb,if_neg zb,yP];refine zj 67 Tryz.func75 Tryz.ntmps75 rfl ?_;change FW _ _ _ ⟨[(0,_),(1,_)],[]⟩;refine za ?_;exact FW.ret ⟨.inl rfl,zu rfl rfl rfl rfl zb rfl rfl⟩
 ·obtain ⟨g,r,rfl⟩:=one (.inl rfl);have hc:=xm g;rw [if_neg zb,if_pos rfl];obtain ⟨k',a',b',n',ck⟩:=g;have jV:k'=2→∃ x r,ck=x::r:=jV rfl;change zP _ _ _ _ (.agg (Fo.fv (if (Fo.mk k' a' b' n' ck).cst=true then Wt (decide (k'=4)) else if k'=2 then nth ck 0 else .mk 2 a b n (.mk k' a' b' n' ck::r))));have e7:=ZI (decide (k'=4));clear one two hj;generalize (Fo.mk k' a' b' n' ck).cst=c at hc ⊢;cases c with
  | true =>
   simp only [if_true,yP,zH] at hc ⊢;generalize r.map Fo.fv=R;generalize ck.map Fo.fv=K' at hc ⊢;generalize Wt (decide (k'=4))=C at e7 ⊢;refine zj 67 Tryz.func75 Tryz.ntmps75 rfl ?_;change FW _ _ _ ⟨[(0,_),(1,_)],[]⟩;refine za ?_;refine zw hc (by repeat (first|exact zf.nil|refine zf.cons zd ?_)) rfl rfl ?_;refine za ?_;refine zX e7 (by repeat (first|exact zf.nil|refine zf.cons zd ?_)) rfl rfl ?_;refine zn.aY (zA rfl rfl (ya _) rfl rfl rfl rfl (zx _)) rfl ?_;refine za ?_;exact FW.ret ⟨.inl rfl,zu rfl rfl rfl rfl zb rfl (zx _)⟩
  | false=>
   simp only [Xw,if_false];by_cases h2:k'=2
   ·obtain ⟨x,r',rfl⟩:=jV h2;subst h2;rw [if_pos rfl];simp only [show nth (x::r') 0=x from rfl];simp only [yP,zH] at hc ⊢;generalize r.map Fo.fv=R;generalize r'.map Fo.fv=R' at hc ⊢;refine zj 67 Tryz.func75 Tryz.ntmps75 rfl ?_;change FW _ _ _ ⟨[(0,_),(1,_)],[]⟩;refine za ?_;refine zw hc (by repeat (first|exact zf.nil|refine zf.cons zd ?_)) rfl rfl ?_
    (repeat (first|refine FW.seq ?_|refine FW.region ?_|refine FW.skip ?_|refine FW.ew rfl ?_|refine FW.dM rfl ?_|refine zn.nil ?_|refine zn.ab (yN rfl rfl rfl rfl rfl) rfl rfl ?_|refine zn.ab (yF rfl rfl rfl xt rfl rfl rfl) rfl rfl ?_|refine zn.ab (XU rfl rfl) rfl rfl ?_|refine zn.ab (zS rfl) rfl rfl ?_|refine zn.ab (yj rfl rfl rfl rfl rfl rfl xt) rfl rfl ?_))
    refine zn.ab (zJ rfl rfl rfl zb zg rfl (zx _)) rfl rfl ?_;refine zn.aY (zA rfl rfl (ya _) rfl rfl rfl rfl (zx _)) rfl ?_;refine za ?_;exact FW.ret ⟨.inl rfl,zu rfl rfl rfl rfl zb rfl (zx _)⟩
   ·rw [if_neg h2];simp only [yP,zH] at hc ⊢;generalize r.map Fo.fv=R;generalize ck.map Fo.fv=K' at hc ⊢;refine zj 67 Tryz.func75 Tryz.ntmps75 rfl ?_;change FW _ _ _ ⟨[(0,_),(1,_)],[]⟩;refine za ?_;refine zw hc (by repeat (first|exact zf.nil|refine zf.cons zd ?_)) rfl rfl ?_;refine za ?_;refine FW.cond rfl (fun h=>absurd (of_decide_eq_true h) h2) (fun _=>?_);refine za ?_;exact FW.ret ⟨.inl rfl,zu rfl rfl rfl rfl zb rfl rfl⟩
 ·obtain ⟨g,h,r,rfl⟩:=two rfl;have hc:=xm h;have jG:=ZI false;have heq:=Vh g fF (by simp only [zG] at hn;omega);rw [if_neg zb,if_neg zb,if_pos rfl];simp only [show nth (g::h::r) 0=g from rfl,show nth (g::h::r) 1=h from rfl];rw [show Wt false=fF from rfl] at jG;generalize Yi g fF=e at heq ⊢;clear one two hj;obtain ⟨k',a',b',n',ck⟩:=g;obtain ⟨k2,a2,b2,n2,uj⟩:=h;generalize (Fo.mk k2 a2 b2 n2 uj).cst=c at hc ⊢;simp only [yP,zH,apply_ite Fo.fv,show fF=.mk 4 0 0 0 [] from rfl,yt] at hc jG heq ⊢;generalize r.map Fo.fv=R;generalize ck.map Fo.fv=K' at heq ⊢;generalize uj.map Fo.fv=K2 at hc ⊢;cases c with
  | true =>
   simp only [VH,if_true];refine zj 67 Tryz.func75 Tryz.ntmps75 rfl ?_;change FW _ _ _ ⟨[(0,_),(1,_)],[]⟩;refine yO ?_;refine yG hc (by repeat (first|exact zf.nil|refine zf.cons zd ?_)) rfl rfl ?_;refine zt ?_;refine ⟨by kernel_rfl,?_⟩;refine za ?_;exact FW.ret ⟨.inl rfl,zu rfl rfl rfl rfl zb rfl rfl⟩
  | false=>
   simp only [yX];cases e
   all_goals (
    simp only [if_true,if_false,Xw];refine zj 67 Tryz.func75 Tryz.ntmps75 rfl ?_;change FW _ _ _ ⟨[(0,_),(1,_)],[]⟩;refine yO ?_;refine yG hc (by repeat (first|exact zf.nil|refine zf.cons zd ?_)) rfl rfl ?_;refine zt ?_;refine zK jG (by repeat (first|exact zf.nil|refine zf.cons zd ?_)) rfl ⟨_,_,rfl,rfl,rfl⟩ ?_;refine yG heq (by repeat (first|exact zf.nil|refine zf.cons zd ?_)) rfl ⟨_,_,rfl,rfl,rfl⟩ ?_;refine zt ?_;refine ⟨by kernel_rfl,?_⟩;refine za ?_;exact FW.ret ⟨.inl rfl,zu rfl rfl rfl rfl zb rfl rfl⟩)
theorem p9 (h:decide (a≠b)=true):decide (a=b)=false:=decide_eq_false (of_decide_eq_true h)
theorem Xg (h:decide (a≠b)=false):a=b:=VJ fun hn=>absurd hn (of_decide_eq_false h)
theorem UO (f:Fo):∀ g,zW f≤1000000000000000000→zP Tryz.prog 164 [.agg f.fv,.agg g.fv] .fr (.bool (Yi f g)):=by
 induction f using Fo.induct with
 | h k a b n ks ih=>
  intro g hs;obtain ⟨k',a',b',n',ls⟩:=g;rw [zW] at hs;have ih:=fun j (hj:j<ks.length)=>ih (nth ks j) (yn hj) (nth ls j) (by have:=yC (yn hj);omega);have hl:=yo ks;rw [Yi,yP,yP];refine zj 60 Tryz.func164 Tryz.ntmps164 rfl ?_;change FW _ _ _ ⟨[(0,_),(1,_)],[]⟩;refine za ?_;refine yc (fun h1=>?_) (fun h1=>?_)
  ·rw [p9 h1];refine za ?_;exact FW.ret ⟨.inl rfl,zh rfl rfl rfl rfl⟩
  rw [decide_eq_true (Xg h1),Zn];refine za ?_;refine yc (fun h2=>?_) (fun h2=>?_)
  ·rw [p9 h2];refine za ?_;exact FW.ret ⟨.inl rfl,zh rfl rfl rfl rfl⟩
  rw [decide_eq_true (Xg h2),Zn];refine za ?_;refine yc (fun h3=>?_) (fun h3=>?_)
  ·rw [p9 h3];refine za ?_;exact FW.ret ⟨.inl rfl,zh rfl rfl rfl rfl⟩
  rw [decide_eq_true (Xg h3),Zn];refine za ?_;refine yc (fun h4=>?_) (fun h4=>?_)
  ·rw [p9 h4];refine za ?_;exact FW.ret ⟨.inl rfl,zh rfl rfl rfl rfl⟩
  rw [decide_eq_true (Xg h4),Zn];refine za ?_;refine FW.cond rfl (fun h5=>?_) (fun h5=>?_)
  ·have h5:decide ((ks.length:Int)≠ls.length)=true:=h5;have h5:=of_decide_eq_true h5;rw [show Wl ks ls=false from VE.2 fun e=>h5 (by rw [(Yw ks ls).1 e])];refine za ?_;exact FW.ret ⟨.inl rfl,zh rfl rfl rfl rfl⟩
  have h5:decide ((ks.length:Int)≠ls.length)=false:=h5;have h5:=Xg h5;have iq:ks.length=ls.length:=by omega
  clear h1 h2 h3 h4 h5;refine za ?_;refine FW.loop (fun i:Nat=>⟨[(2,.ptr 102 0 0 0),(3,.ptr 103 0 0 0),(5,.int .i64 i)],[(102,⟨0,.own,34,5,[[.int .i64 k,.int .i64 a,.int .i64 b,.int .i64 n,.list 5 (ks.map Fo.fv)]]⟩),(103,⟨0,.own,34,5,[[.int .i64 k',.int .i64 a',.int .i64 b',.int .i64 n',.list 5 (ls.map Fo.fv)]]⟩)]⟩) (fun i=>i≤ks.length∧∀ j,j<i→nth ks j=nth ls j) (fun i=>ks.length - i) 0 ⟨zB _,fun j h=>absurd h (ZQ j)⟩ ?_ ?_
  ·exact (au.cv [⟨102,some 2,1,⟨0,.own,34,5,[[.int .i64 k,.int .i64 a,.int .i64 b,.int .i64 n,.list 5 (ks.map Fo.fv)]]⟩⟩,⟨103,some 3,1,⟨0,.own,34,5,[[.int .i64 k',.int .i64 a',.int .i64 b',.int .i64 n',.list 5 (ls.map Fo.fv)]]⟩⟩] zm zq)
  rintro i ⟨hi,aP⟩;refine za ?_;refine FW.cond rfl (fun h=>?_) (fun h=>?_)
  ·have az:i<ks.length:=by have:=of_decide_eq_true (p:=(i:Int)<ks.length) h;omega
   have eF:i<ls.length:=by omega
   clear h;have ih:=ih i az;refine Wd ?_;refine zI.ab (zJ rfl rfl rfl zb zF (zO az) (zx _)) rfl rfl ?_;refine YK ?_;refine zI.ab (zJ rfl rfl rfl zb zF (zO eF) (zx _)) rfl rfl ?_;refine yG ih (by repeat (first|exact zf.nil|refine zf.cons zd ?_)) rfl rfl ?_;refine zt ?_;refine ⟨by kernel_rfl,?_⟩;cases hq:Yi (nth ks i) (nth ls i) with
   | false =>
    rw [show Wl ks ls=false from VE.2 fun e=>by rw [(Yw ks ls).1 e,(Zc _ _).2 rfl] at hq;cases hq];refine za ?_;exact FW.ret ⟨.inl rfl,zh rfl rfl rfl rfl⟩
   | true=>
    refine za ?_;refine ⟨i+1,⟨by omega,fun j hj=>?_⟩,by omega,?_⟩
    ·by_cases iM:j=i
     ·subst iM;exact (Zc _ _).1 hq
     ·exact aP j zc
    ·exact (au.cv [⟨102,some 102,0,⟨0,.own,34,5,[[.int .i64 k,.int .i64 a,.int .i64 b,.int .i64 n,.list 5 (ks.map Fo.fv)]]⟩⟩,⟨103,some 103,0,⟨0,.own,34,5,[[.int .i64 k',.int .i64 a',.int .i64 b',.int .i64 n',.list 5 (ls.map Fo.fv)]]⟩⟩] zm zq)
  ·have he:i=ks.length:=by have:=of_decide_eq_false (p:=(i:Int)<ks.length) h;omega
   rw [show Wl ks ls=true from (Yw ks ls).2 (List.ext_getElem iq fun j h1 h2=>by have:=aP j zc;rwa [xI h1,xI h2] at this)];refine za ?_;exact FW.ret ⟨.inl rfl,zh rfl rfl rfl rfl⟩
theorem XL (k:Int) (f g:Fo):zP Tryz.prog 74 [.int .i64 k,.agg f.fv,.agg g.fv] .sh (.agg (Fo.fv (.mk k 0 0 0 [f,g]))):=by
 rw [yP,zH,zH,yt];refine zj 12 Tryz.func74 Tryz.ntmps74 rfl ?_;change FW _ _ _ ⟨[(0,_),(1,_),(2,_)],[]⟩;refine xf ?_;refine zn.aR (yA rfl rfl (ya _) (zx _) rfl) rfl rfl ?_;refine zn.aR (yA rfl rfl (ya _) (zx _) rfl) rfl rfl ?_
 (repeat (first|refine FW.seq ?_|refine FW.region ?_|refine zn.nil ?_|refine zn.aR (yV rfl rfl rfl rfl rfl) rfl rfl ?_|refine zn.ab (zS rfl) rfl rfl ?_))
 refine zn.ab (yu rfl rfl rfl zb rfl rfl Nat.one_pos rfl (zx _)) rfl rfl ?_;refine zn.ab (yu rfl rfl rfl zb rfl rfl Nat.one_pos rfl (zx _)) rfl rfl ?_;refine zC (es:=[f.fv,g.fv]) rfl rfl rfl (by refine zY.agg rfl (ya _) (zx _) ?_;refine zY.agg rfl (ya _) (zx _) ?_;exact zY.nil) rfl rfl rfl rfl rfl ?_;refine za ?_;exact FW.ret ⟨.inl rfl,zu rfl rfl rfl rfl zb rfl rfl⟩
theorem Ft {f:Fo} (h:Wf f):(f.k=6→2≤f.ks.length)∧(f.k=2∨f.k=5∨f.k=7∨f.k=8→1≤f.ks.length):=by
 cases h with
 | var a b n => exact ⟨fun h => by simp [Fo.k] at h, fun h => by simp [Fo.k] at h⟩
 | un k f hk => exact ⟨fun h => by simp only [Fo.k] at h; omega, fun _ => by simp [Fo.ks]⟩
 | bG f g => exact ⟨fun _ => by simp [Fo.ks], fun h => by simp [Fo.k] at h⟩
 | many k ks hk => exact ⟨fun h => by simp only [Fo.k] at h; omega, fun h => by simp only [Fo.k] at h; omega⟩
theorem vv (f:Fo) (hw:Wf f):zP Tryz.prog 161 [.agg f.fv] .fr (.bool false):=by
 obtain ⟨h6,h1⟩:=Ft hw;have hk:1≤f.k∧f.k≤8:=by
  have:=Kd.of hw rfl hw.kids;exact ⟨this.lo,this.hi⟩
 rw [yb];generalize f.k=k at h6 h1 hk ⊢;generalize f.a=a;generalize f.b=b;generalize f.n=n;generalize f.ks=ks at h6 h1 ⊢;obtain ⟨q,hq⟩:∃ q,ks.length=q:=⟨_,rfl⟩
 rw [hq] at h6 h1;obtain rfl|rfl|rfl|rfl|rfl|rfl|rfl|rfl:k=1∨k=2∨k=3∨k=4∨k=5∨k=6∨k=7∨k=8:=by omega
 all_goals (
  refine zj 36 Tryz.func161 Tryz.ntmps161 rfl ?_;change FW _ _ _ ⟨[(0,_)],[]⟩;refine za ?_;exact FW.ret ⟨.inl rfl,zh rfl rfl (congrArg FV.bool (by first|rfl|(rw [hq];exact decide_eq_false zc))) rfl⟩)
theorem F8 {a:Nat} (h:¬ a<vs.length):g9 vs a=0:=if_neg zc
theorem Cz (vs:List Int) (a:Nat):zP Tryz.prog 168 [.list 1 (vs.map yQ),.int .i64 a] .fr (.int .i64 (g9 vs a)):=by
 by_cases h:a<vs.length
 ·rw [show g9 vs a=nth vs a from if_pos zc];refine zj 17 Tryz.func168 Tryz.ntmps168 rfl ?_;change FW _ _ _ ⟨[(0,_),(1,_)],[]⟩;refine za ?_;refine FW.cond rfl (fun h2=>absurd (of_decide_eq_true (p:=(a:Int)≥vs.length) h2) zc) (fun h2=>?_);refine za ?_;exact FW.ret ⟨.inl rfl,zh rfl rfl rfl rfl⟩
 ·rw [F8 h];refine zj 17 Tryz.func168 Tryz.ntmps168 rfl ?_;change FW _ _ _ ⟨[(0,_),(1,_)],[]⟩;refine za ?_;refine FW.cond rfl (fun _=>?_) (fun h2=>absurd (of_decide_eq_false (p:=(a:Int)≥vs.length) h2) zc);refine za ?_;exact FW.ret ⟨.inl rfl,zh rfl rfl rfl rfl⟩
theorem Cy (a:Nat) (b n:Int) (vs:List Int) (hb:0≤b) (dc:b≤2):zP Tryz.prog 167 [.agg (Fo.fv (.mk 1 a b n [])),.list 1 (vs.map yQ)] .fr (.bool (ky b (g9 vs a) n)):=by
 have hv:=Cz vs a;rw [yP];generalize g9 vs a=v at hv ⊢;obtain rfl|rfl|rfl:b=0∨b=1∨b=2:=by omega
 all_goals (
  refine zj 28 Tryz.func167 Tryz.ntmps167 rfl ?_;change FW _ _ _ ⟨[(0,_),(1,_)],[]⟩;refine za ?_;refine zw hv (by repeat (first|exact zf.nil|refine zf.cons zd ?_)) rfl rfl ?_;refine za ?_;exact FW.ret ⟨.inl rfl,zh rfl rfl rfl rfl⟩)
theorem EE (g:Fo) (hg:Wf g):zP Tryz.prog 162 [.agg g.fv] .sh (.agg (yM (.mk 2 0 0 0 []) [g]).fv):=by
 have hc:=Zr g;have ho:=XZ g.k;have hb:yM (.mk 2 0 0 0 []) [g]=if g.cst then Wt (decide (g.k=4)) else if g.k=2 then nth g.ks 0 else .mk 2 0 0 0 [g]:=rfl
 have qM:g.cst=true→Wt (decide (g.k=4))=.mk (gF g.k) 0 0 0 []:=fun h=>by
  rw [Fo.cst,zU,VF,decide_eq_true_eq,decide_eq_true_eq] at h;rcases h.1 with h|h <;> rw [h] <;> rfl
 have hk:=hg.fG;rw [hb];cases nh:g.cst with
 | true =>
  rw [if_pos rfl,qM nh];refine zP.weaken (res:=.agg [.int .i64 (gF g.k),.int .i64 0,.int .i64 0,.int .i64 0,.nil]) ?_ (.inr rfl) (Uq _ 0 0 0) rfl;rw [nh,yb] at hc;rw [yb];generalize gF g.k=o at ho ⊢;refine zj 25 Tryz.func162 Tryz.ntmps162 rfl ?_;change FW _ _ _ ⟨[(0,_)],[]⟩;refine za ?_;refine zw hc (by repeat (first|exact zf.nil|refine zf.cons zd ?_)) rfl rfl ?_;refine za ?_;refine zw ho (by repeat (first|exact zf.nil|refine zf.cons zd ?_)) rfl rfl ?_;refine za ?_;exact FW.ret ⟨.inl rfl,zu rfl rfl rfl rfl zb rfl rfl⟩
 | false=>
  rw [if_neg zb];by_cases h2:g.k=2
  ·rw [if_pos h2];obtain ⟨x,rfl,_⟩:=hk h2;show zP _ _ _ _ (.agg x.fv);rw [nh] at hc;rw [yP,zH,yt] at hc ⊢;refine zj 25 Tryz.func162 Tryz.ntmps162 rfl ?_;change FW _ _ _ ⟨[(0,_)],[]⟩;refine za ?_;refine zw hc (by repeat (first|exact zf.nil|refine zf.cons zd ?_)) rfl rfl ?_;refine YL ?_;refine zn.ab (zJ rfl rfl rfl zb Nat.one_pos rfl (zx _)) rfl rfl ?_;refine zn.aY (zA rfl rfl (ya _) rfl rfl rfl rfl (zx _)) rfl ?_;refine za ?_;exact FW.ret ⟨.inl rfl,zu rfl rfl rfl rfl zb rfl (zx _)⟩
  ·rw [if_neg h2];rw [nh] at hc;obtain ⟨k,a,b,n,ks⟩:=g;have h2:¬ k=2:=h2;rw [yP,yP,zH,yt,yP] ;rw [yP] at hc;refine zj 25 Tryz.func162 Tryz.ntmps162 rfl ?_;change FW _ _ _ ⟨[(0,_)],[]⟩;refine za ?_;refine zw hc (by repeat (first|exact zf.nil|refine zf.cons zd ?_)) rfl rfl ?_;refine za ?_;refine yc (fun h=>absurd (of_decide_eq_true h) h2) (fun h=>?_)
   (repeat (first|refine FW.seq ?_|refine FW.region ?_|refine FW.skip ?_|refine FW.dM rfl ?_|refine zn.nil ?_|refine zn.ab (yu rfl rfl rfl zb rfl rfl xt rfl rfl) rfl rfl ?_|refine zn.ab (VU rfl rfl) rfl rfl ?_|refine wG rfl rfl ⟨_,_,rfl,rfl,rfl⟩ ?_))
   refine zC (es:=[[.int .i64 k,.int .i64 a,.int .i64 b,.int .i64 n,.list 5 (ks.map Fo.fv)]]) rfl rfl rfl (by refine zY.agg rfl rfl rfl ?_;exact zY.nil) rfl rfl rfl rfl rfl ?_;refine za ?_;exact FW.ret ⟨.inl rfl,zu rfl rfl rfl rfl zb rfl rfl⟩
theorem Ed (f g:Fo):Yi f g=Yi g f:=by
 rw [Bool.eq_iff_iff,Zc,Zc];exact eq_comm
theorem D0 [Inhabited α] {l:List α} {p:α→Bool} (h:i<l.length):(l.take (i+1)).any p=((l.take i).any p || p (nth l i)):=by
 rw [YX h];simp
def iU (k:Int) (f:Fo):Bool:=decide (f.k=gF k) && decide (f.ks=[])
theorem E5 (k:Int) (f:Fo):iU k f=(decide (f.k=gF k) && decide ((f.ks.length:Int)=0)):=by
 unfold iU;congr 1;refine decide_eq_decide.2 ⟨fun h=>by rw [h];rfl,fun h=>Yc zc⟩
theorem CO {kids:List Fo} (hi:i<(yv k kids).length) (h:iU k (nth (yv k kids) i)=true) (hf:∀ j,j<i→iU k (nth (yv k kids) j)=false):lI k kids=nth (yv k kids) i:=by
 have e:(yv k kids).find? (iU k)=some (nth (yv k kids) i):=by
  rw [List.find?_eq_some_iff_getElem];refine ⟨h,i,hi,(xI hi).symm,fun j hj=>?_⟩;rw [← xI (show j<(yv k kids).length by omega),hf j hj];rfl
 unfold lI;rw [show (fun f:Fo=>decide (f.k=gF k) && decide (f.ks=[]))=iU k from rfl,e]
theorem CN {kids:List Fo} (hf:∀ j,j<(yv k kids).length→iU k (nth (yv k kids) j)=false):lI k kids=iA k (bW [] (yv k kids)):=by
 have e:(yv k kids).find? (iU k)=none:=by
  rw [sb];intro x hx;obtain ⟨j,hj,rfl⟩:=rV.1 hx;rw [← xI hj,hf j hj];decide
 unfold lI;rw [show (fun f:Fo=>decide (f.k=gF k) && decide (f.ks=[]))=iU k from rfl,e]
theorem FW.oS {c:Ctx} {x y:Code} {s:ae} {Q:Exit→ae→Prop} {ι:Type} (nT:ι→ae) (pre:ι→Prop) (h1:FW c x (fun e s'=>match e with|.normal=>∃ i,pre i∧au s' (nT i)|e=>Q e s') s) (h2:∀ i,pre i→FW c y Q (nT i)):FW c x (ql (FW c y Q) Q) s:=
 h1.mono fun e s' h=>by
  cases e <;> first|exact h|(obtain ⟨i,hp,hle⟩:=h;exact (h2 i hp).le hle)
theorem DI (k:Int) (kids:List Fo) (hn:zG kids≤1000000000000):zP Tryz.prog 163 [.int .i64 k,.list 5 (kids.map Fo.fv)] .sh (.agg (lI k kids).fv):=by
 have hlen:=yo kids;have bM:=XZ k;have Ae:=Yy k kids;have Ad:=yo (yv k kids);have eI:=fun i=>CO (k:=k) (kids:=kids) (i:=i);have c7:=CN (k:=k) (kids:=kids);generalize lI k kids=R at eI c7 ⊢;refine zj 101 Tryz.func163 Tryz.ntmps163 rfl ?_;change FW _ _ _ ⟨[(0,.int .i64 k),(1,.list 5 (kids.map Fo.fv))],[]⟩;refine za ?_;refine FW.loop (fun i:Nat=>⟨[(0,.int .i64 k),(1,.list 5 (kids.map Fo.fv)),(4,.ptr 104 0 0 0),(5,.own 105 0 0 (yv k (kids.take i)).length),(6,.int .i64 i)],[(104,⟨0,.own,34,5,[[.int .i64 0,.int .i64 0,.int .i64 0,.int .i64 0,.nil]]⟩),(105,⟨0,.own,34,5,(yv k (kids.take i)).map Fo.fv⟩)]⟩) (fun i=>i≤kids.length) (fun i=>kids.length - i) 0 (zB _) ?_ ?_
 ·show au _ ⟨[(0,.int .i64 k),(1,.list 5 (kids.map Fo.fv)),(4,.ptr 104 0 0 0),(5,.own 105 0 0 0),(6,.int .i64 (0:Nat))],[(104,⟨0,.own,34,5,[[.int .i64 0,.int .i64 0,.int .i64 0,.int .i64 0,.nil]]⟩),(105,⟨0,.own,34,5,[]⟩)]⟩;exact (au.cv [⟨104,some 4,1,⟨0,.own,34,5,[[.int .i64 0,.int .i64 0,.int .i64 0,.int .i64 0,.nil]]⟩⟩,⟨105,none,0,⟨0,.own,34,5,[]⟩⟩] zm zq)
 ·intro i hi;refine za ?_;refine FW.cond rfl (fun h=>?_) (fun h=>?_)
  ·have az:i<kids.length:=by have:=of_decide_eq_true (p:=(i:Int)<kids.length) h;omega
   clear h;have bz:yv k (kids.take (i+1))=yv k (kids.take i)++UM k (nth kids i):=by rw [YX az,uU]
   have h1:=Yy k (kids.take i);have h2:=YP kids i;have h3:=yo (yv k (kids.take i));have iH:UM k (nth kids i)=if (nth kids i).k=k then (nth kids i).ks else [nth kids i]:=rfl
   have nj:(nth kids i).ks.length≤1000000000000:=by
    have:=yo (nth kids i).ks;have:=YO (nth kids i);have:=yC (yn az);omega
   have hg:=lO az;have cd:=yb (nth kids i);generalize yv k (kids.take i)=L at h1 h3 bz ⊢;generalize nth kids i=f at bz iH nj hg cd;refine Uj ?_;refine zn.ab (yF rfl rfl rfl zF hg rfl rfl) rfl rfl ?_;refine za ?_;refine FW.cond rfl (fun h=>?_) (fun h=>?_)
   ·have h:decide (f.k=k)=true:=h;rw [if_pos (of_decide_eq_true h)] at iH;refine Uj ?_;refine zn.ab (yF rfl rfl rfl zF hg rfl rfl) rfl rfl ?_;refine za ?_;refine ⟨i+1,by omega,by omega,?_⟩;rw [bz,iH,yY];exact (au.cv [⟨104,some 104,0,⟨0,.own,34,5,[[.int .i64 0,.int .i64 0,.int .i64 0,.int .i64 0,.nil]]⟩⟩,⟨105,some 30,1,⟨0,.own,34,5,L.map Fo.fv++f.ks.map Fo.fv⟩⟩] zm zq)
   ·have h:decide (f.k=k)=false:=h;rw [if_neg (of_decide_eq_false h)] at iH;refine Uj ?_;refine zn.ab (zJ rfl rfl rfl zb zF hg rfl) rfl rfl ?_;refine za ?_;refine ⟨i+1,by omega,by omega,?_⟩;rw [bz,iH,yY,zH,yt,cd];exact (au.cv [⟨104,some 104,0,⟨0,.own,34,5,[[.int .i64 0,.int .i64 0,.int .i64 0,.int .i64 0,.nil]]⟩⟩,⟨105,some 37,1,⟨0,.own,34,5,L.map Fo.fv++[[FV.int .i64 f.k,FV.int .i64 f.a,FV.int .i64 f.b,FV.int .i64 f.n,FV.list 5 (f.ks.map Fo.fv)]]⟩⟩] zm zq)
  ·have he:i=kids.length:=by have:=of_decide_eq_false (p:=(i:Int)<kids.length) h;omega
   rw [he,yI];generalize yv k kids=F at Ae Ad eI c7 ⊢;refine FW.le ?_ (au.share 5 rfl rfl (zy _).symm);refine za ?_;refine FW.loop (fun i:Nat=>⟨[(0,.int .i64 k),(4,.ptr 104 0 0 0),(5,.list 5 (F.map Fo.fv)),(7,.own 107 0 0 (bW [] (F.take i)).length),(8,.int .i64 i)],[(104,⟨0,.own,34,5,[[.int .i64 0,.int .i64 0,.int .i64 0,.int .i64 0,.nil]]⟩),(107,⟨0,.own,34,5,(bW [] (F.take i)).map Fo.fv⟩)]⟩) (fun i=>i≤F.length∧∀ j,j<i→iU k (nth F j)=false) (fun i=>F.length - i) 0 ⟨zB _,fun j hj=>absurd hj (ZQ j)⟩ ?_ ?_
   ·show au _ ⟨[(0,.int .i64 k),(4,.ptr 104 0 0 0),(5,.list 5 (F.map Fo.fv)),(7,.own 107 0 0 0),(8,.int .i64 (0:Nat))],[(104,⟨0,.own,34,5,[[.int .i64 0,.int .i64 0,.int .i64 0,.int .i64 0,.nil]]⟩),(107,⟨0,.own,34,5,[]⟩)]⟩;exact (au.cv [⟨104,some 104,0,⟨0,.own,34,5,[[.int .i64 0,.int .i64 0,.int .i64 0,.int .i64 0,.nil]]⟩⟩,⟨107,none,0,⟨0,.own,34,5,[]⟩⟩] zm zq)
   ·clear hi;rintro i ⟨hi,aP⟩;refine za ?_;refine FW.cond rfl (fun h=>?_) (fun h=>?_)
    ·have az:i<F.length:=by have:=of_decide_eq_true (p:=(i:Int)<F.length) h;omega
     clear h;have eI:=eI i az;have gp:=E5 k (nth F i);have pz:=Wm [] (F.take i);have Ai:=YP F i;have qE:=yo (bW [] (F.take i));rw [show zG []=0 from rfl] at pz;have cg:bW [] (F.take (i+1))=if (bW [] (F.take i)).any (Yi (nth F i)) then bW [] (F.take i) else bW [] (F.take i)++[nth F i]:=by rw [YX az,wy]
     have hg:=lO az;have cd:=yb (nth F i);have jD : iU k (nth F i)=false→∀ j,j<i+1→iU k (nth F j)=false:=fun h j hj=>by
      by_cases iM:j=i
      ·subst iM;exact h
      ·exact aP j zc
     generalize bW [] (F.take i)=M at pz qE cg ⊢;generalize nth F i=f at eI gp cg hg cd jD;generalize gF k=o at bM gp;refine FW.skip ?_;refine FW.seq ?_;refine FW.block ?_;refine FW.seq ?_;refine FW.oS (fun _:Unit=>⟨[(0,.int .i64 k),(4,.ptr 104 0 0 0),(5,.list 5 (F.map Fo.fv)),(7,.own 107 0 0 M.length),(8,.int .i64 i)],[(104,⟨0,.own,34,5,[[.int .i64 0,.int .i64 0,.int .i64 0,.int .i64 0,.nil]]⟩),(107,⟨0,.own,34,5,M.map Fo.fv⟩)]⟩) (fun _=>iU k f=false) ?_ ?_
     ·(repeat (first|refine FW.seq ?_|refine FW.draw ?_|refine zI.ab (zS rfl) rfl rfl ?_|refine zI.ab (yj rfl rfl rfl rfl rfl rfl zF) rfl rfl ?_|refine zI.ab (yN rfl rfl rfl rfl rfl) rfl rfl ?_))
      refine zI.ab (yF rfl rfl rfl zF hg rfl rfl) rfl rfl ?_
      (repeat (first|refine zI.ab (zS rfl) rfl rfl ?_))
      refine yG bM (by repeat (first|exact zf.nil|refine zf.cons zd ?_)) rfl rfl ?_
      (repeat (first|refine zI.ab (zS rfl) rfl rfl ?_|refine zI.ab (XU rfl rfl) rfl rfl ?_))
      refine sH (fun h=>?_) (fun h=>?_)
      ·have h:decide (f.k=o)=true:=h;rw [h,Zn] at gp
       (repeat (first|refine zI.ab (zS rfl) rfl ⟨_,_,rfl,rfl,rfl⟩ ?_|refine zI.ab (yj rfl rfl rfl rfl rfl rfl zF) rfl ⟨_,_,rfl,rfl,rfl⟩ ?_|refine zI.ab (yN rfl rfl rfl rfl rfl) rfl ⟨_,_,rfl,rfl,rfl⟩ ?_))
       refine zI.ab (yF rfl rfl rfl zF hg rfl rfl) rfl ⟨_,_,rfl,rfl,rfl⟩ ?_;refine zt ?_;refine ⟨by kernel_rfl,?_⟩;skip;refine FW.cond rfl (fun h2=>?_) (fun h2=>?_)
       ·have h2:decide ((f.ks.length:Int)=0)=true:=h2;rw [eI (gp.trans h2) aP,cd];refine Uj ?_;refine zn.ab (zJ rfl rfl rfl zb zF hg rfl) rfl rfl ?_;refine za ?_;exact FW.ret ⟨.inl rfl,zu rfl rfl rfl rfl zb rfl rfl⟩
       ·have h2:decide ((f.ks.length:Int)=0)=false:=h2;refine za ?_;refine ⟨(),gp.trans h2,?_⟩;exact (au.cv [⟨104,some 104,0,⟨0,.own,34,5,[[.int .i64 0,.int .i64 0,.int .i64 0,.int .i64 0,.nil]]⟩⟩,⟨107,some 107,0,⟨0,.own,34,5,M.map Fo.fv⟩⟩] zm zq)
      ·have h:decide (f.k=o)=false:=h;rw [h,YH] at gp;refine zt ?_;refine ⟨by kernel_rfl,?_⟩;refine za ?_;refine ⟨(),gp,?_⟩;exact (au.cv [⟨104,some 104,0,⟨0,.own,34,5,[[.int .i64 0,.int .i64 0,.int .i64 0,.int .i64 0,.nil]]⟩⟩,⟨107,some 107,0,⟨0,.own,34,5,M.map Fo.fv⟩⟩] zm zq)
     rintro _ tX;have aP:=jD tX;clear eI gp jD tX bM;refine za ?_;refine FW.loop (fun j:Nat=>⟨[(0,.int .i64 k),(4,.ptr 104 0 0 0),(5,.list 5 (F.map Fo.fv)),(7,.own 107 0 0 M.length),(8,.int .i64 i),(9,.bool ((M.take j).any fun g=>Yi g f)),(10,.int .i64 j)],[(104,⟨0,.own,34,5,[[.int .i64 0,.int .i64 0,.int .i64 0,.int .i64 0,.nil]]⟩),(107,⟨0,.own,34,5,M.map Fo.fv⟩)]⟩) (fun j=>j≤M.length) (fun j=>M.length - j) 0 (zB _) ?_ ?_
     ·exact (au.cv [⟨104,some 104,0,⟨0,.own,34,5,[[.int .i64 0,.int .i64 0,.int .i64 0,.int .i64 0,.nil]]⟩⟩,⟨107,some 107,0,⟨0,.own,34,5,M.map Fo.fv⟩⟩] zm zq)
     intro j hj;refine za ?_;refine FW.cond rfl (fun h=>?_) (fun h=>?_)
     ·have eF:j<M.length:=by have:=of_decide_eq_true (p:=(j:Int)<M.length) h;omega
      clear h;have lX:=D0 (p:=fun g=>Yi g f) eF;have jL:zW (nth M j)≤1000000000000000000:=by
       have:=yC (yn eF);omega
      have heq:=UO (nth M j) f jL;rw [cd] at heq;have hm:=lO eF;rw [yb (nth M j)] at heq;generalize Yi (nth M j) f=e at heq lX
      (repeat (first|refine FW.seq ?_|refine FW.block ?_|refine FW.skip ?_|refine FW.draw ?_|refine zI.ab (zS rfl) rfl rfl ?_))
      cases hs:((M.take j).any fun g=>Yi g f) with
      | true =>
       rw [hs,VH] at lX;refine zt ?_;refine ⟨by kernel_rfl,?_⟩;refine za ?_;refine ⟨j+1,by omega,by omega,?_⟩;show au _ ⟨[(0,.int .i64 k),(4,.ptr 104 0 0 0),(5,.list 5 (F.map Fo.fv)),(7,.own 107 0 0 M.length),(8,.int .i64 i),(9,.bool ((M.take (j+1)).any fun g=>Yi g f)),(10,.int .i64 (j+1:Nat))],_⟩;rw [lX];exact (au.cv [⟨104,some 104,0,⟨0,.own,34,5,[[.int .i64 0,.int .i64 0,.int .i64 0,.int .i64 0,.nil]]⟩⟩,⟨107,some 107,0,⟨0,.own,34,5,M.map Fo.fv⟩⟩] zm zq)
      | false =>
       rw [hs,yX] at lX
       (repeat (first|refine zI.ab (zS rfl) rfl ⟨_,_,rfl,rfl,rfl⟩ ?_|refine zI.ab (uQ rfl rfl rfl rfl rfl rfl zb rfl (by first|omega|(simp;omega))) rfl ⟨_,_,rfl,rfl,rfl⟩ ?_))
       refine zI.ab (yu rfl rfl rfl zb rfl rfl zF hm rfl) rfl ⟨_,_,rfl,rfl,rfl⟩ ?_
       (repeat (first|refine zI.ab (zS rfl) rfl ⟨_,_,rfl,rfl,rfl⟩ ?_|refine zI.ab (yj rfl rfl rfl rfl rfl rfl zF) rfl ⟨_,_,rfl,rfl,rfl⟩ ?_))
       refine zI.ab (zJ rfl rfl rfl zb zF hg rfl) rfl ⟨_,_,rfl,rfl,rfl⟩ ?_;refine yG heq (by repeat (first|exact zf.nil|refine zf.cons zd ?_)) rfl ⟨_,_,rfl,rfl,rfl⟩ ?_;refine zt ?_;refine ⟨by kernel_rfl,?_⟩;refine za ?_;refine ⟨j+1,by omega,by omega,?_⟩;show au _ ⟨[(0,.int .i64 k),(4,.ptr 104 0 0 0),(5,.list 5 (F.map Fo.fv)),(7,.own 107 0 0 M.length),(8,.int .i64 i),(9,.bool ((M.take (j+1)).any fun g=>Yi g f)),(10,.int .i64 (j+1:Nat))],_⟩;rw [lX];exact (au.cv [⟨104,some 104,0,⟨0,.own,34,5,[[.int .i64 0,.int .i64 0,.int .i64 0,.int .i64 0,.nil]]⟩⟩,⟨107,some 107,0,⟨0,.own,34,5,M.map Fo.fv⟩⟩] zm zq)
     ·have he:j=M.length:=by have:=of_decide_eq_false (p:=(j:Int)<M.length) h;omega
      rw [he,yI];have pA:(M.any fun g=>Yi g f)=M.any (Yi f):=by
       congr 1;funext g;exact Ed g f
      rw [pA];cases fu:M.any (Yi f) with
      | true =>
       rw [fu,if_pos rfl] at cg;refine za ?_;refine ⟨i+1,⟨by omega,aP⟩,by omega,?_⟩;rw [cg];exact (au.cv [⟨104,some 104,0,⟨0,.own,34,5,[[.int .i64 0,.int .i64 0,.int .i64 0,.int .i64 0,.nil]]⟩⟩,⟨107,some 107,0,⟨0,.own,34,5,M.map Fo.fv⟩⟩] zm zq)
      | false =>
       rw [fu,if_neg zb] at cg;refine Uj ?_;refine zn.ab (zJ rfl rfl rfl zb zF hg rfl) rfl rfl ?_;refine za ?_;refine ⟨i+1,⟨by omega,aP⟩,by omega,?_⟩;rw [cg,yY,zH,yt,cd];exact (au.cv [⟨104,some 104,0,⟨0,.own,34,5,[[.int .i64 0,.int .i64 0,.int .i64 0,.int .i64 0,.nil]]⟩⟩,⟨107,some 91,1,⟨0,.own,34,5,M.map Fo.fv++[[FV.int .i64 f.k,FV.int .i64 f.a,FV.int .i64 f.b,FV.int .i64 f.n,FV.list 5 (f.ks.map Fo.fv)]]⟩⟩] zm zq)
    ·have he:i=F.length:=by have:=of_decide_eq_false (p:=(i:Int)<F.length) h;omega
     subst he;rw [c7 aP,yI];have iJ:(bW [] F).length≤1000000000000:=by
      have h1:=yo (bW [] F);have h2:=Wm [] F;rw [show zG []=0 from rfl] at h2;omega
     generalize bW [] F=L at iJ ⊢;refine za ?_;refine FW.cond rfl (fun h=>?_) (fun h=>?_)
     ·have h:decide ((L.length:Int)=1)=true:=h;have h:=of_decide_eq_true h;obtain ⟨x,rfl⟩:=XA.1 (show L.length=1 by omega);obtain ⟨k',a',b',n',ck⟩:=x;simp only [iA,zH,yt,yP];refine za ?_;exact FW.ret ⟨.inl rfl,zu rfl rfl rfl rfl zb rfl rfl⟩
     ·have h:decide ((L.length:Int)=1)=false:=h;have h:=of_decide_eq_false h;have bf:iA k L=.mk k 0 0 0 L:=by
       unfold iA;split
       ·exact absurd rfl h
       ·rfl
      rw [bf,yP];refine FW.le ?_ (au.share 7 rfl rfl (zy _).symm);refine za ?_;exact FW.ret ⟨.inl rfl,zu rfl rfl rfl rfl zb rfl rfl⟩
theorem CX (k:Int) (hk:k=3∨k=4) (kids:List Fo) (hw:∀ f∈kids,Wf f) (hn:zG kids≤1000000000000):zP Tryz.prog 163 [.int .i64 k,.list 5 (kids.map Fo.fv)] .sh (.agg (xA k kids).fv):=by
 rw [← ED hk hw];exact DI k kids hn
theorem pX {ks:List Fo} (h:Fo→Fo) (az:i<ks.length):((ks.take (i+1)).map h).map Fo.fv=((ks.take i).map h).map Fo.fv++[(h (nth ks i)).fv]:=by
 rw [YX az];simp
theorem Yj {ks:List Fo} (h:Fo→Fo) (hi:i≤ks.length):((ks.take i).map h).length=i:=by simp;omega
theorem YW (f:Fo) (hw:Wf f) (hn:zW f≤1000000000000):zP Tryz.prog 26 [.agg f.fv] .sh (.agg (zE f).fv):=by
 induction f using Fo.induct with
 | h k a b n ks ih=>
  have gU:∀ g∈ks,Wf g:=hw.kids;rw [zW] at hn;have hlen:=yo ks;have oL:zG (ks.map zE)≤1000000000000:=by
   have:=XK (ks:=ks) (h:=zE) (c:=1) fun f hf=>by have:=YA f;omega
   omega
  have hb:=uH (.mk k a b n ks) (ks.map zE) oL (Kd.of hw (zy _) fun g hg=>by
   obtain ⟨x,hx,rfl⟩:=zM.1 hg;exact XM (gU x hx))
  rw [Zs];generalize yM (.mk k a b n ks) (ks.map zE)=B at hb ⊢;rw [yP] at hb ⊢;have ih:=fun i (az:i<ks.length)=>ih (nth ks i) (yn az) (gU _ (yn az)) (by have:=yC (yn az);omega);clear gU hw oL;refine zj 22 Tryz.func26 Tryz.ntmps26 rfl ?_;change FW _ _ _ ⟨[(0,_)],[]⟩;refine za ?_;refine FW.loop (fun i:Nat=>⟨[(1,.ptr 101 0 0 0),(2,.ptr 102 0 0 0),(3,.own 103 0 0 ((ks.take i).map zE).length),(7,.list 5 (ks.map Fo.fv)),(8,.int .i64 ks.length),(9,.int .i64 i)],[(101,⟨0,.own,34,5,[[.int .i64 k,.int .i64 a,.int .i64 b,.int .i64 n,.list 5 (ks.map Fo.fv)]]⟩),(102,⟨0,.own,34,5,[[.int .i64 0,.int .i64 0,.int .i64 0,.int .i64 0,.nil]]⟩),(103,⟨0,.own,34,5,((ks.take i).map zE).map Fo.fv⟩)]⟩) (fun i=>i≤ks.length) (fun i=>ks.length - i) 0 (zB _) ?_ ?_
  ·show au _ ⟨[(1,.ptr 101 0 0 0),(2,.ptr 102 0 0 0),(3,.own 103 0 0 0),(7,.list 5 (ks.map Fo.fv)),(8,.int .i64 ks.length),(9,.int .i64 (0:Nat))],[(101,⟨0,.own,34,5,[[.int .i64 k,.int .i64 a,.int .i64 b,.int .i64 n,.list 5 (ks.map Fo.fv)]]⟩),(102,⟨0,.own,34,5,[[.int .i64 0,.int .i64 0,.int .i64 0,.int .i64 0,.nil]]⟩),(103,⟨0,.own,34,5,[]⟩)]⟩;exact (au.cv [⟨101,some 1,1,⟨0,.own,34,5,[[.int .i64 k,.int .i64 a,.int .i64 b,.int .i64 n,.list 5 (ks.map Fo.fv)]]⟩⟩,⟨102,some 2,1,⟨0,.own,34,5,[[.int .i64 0,.int .i64 0,.int .i64 0,.int .i64 0,.nil]]⟩⟩,⟨103,none,0,⟨0,.own,34,5,[]⟩⟩] zm zq)
  intro i hi;have il:=Yj zE hi;refine za ?_;refine FW.cond rfl (fun h=>?_) (fun h=>?_)
  ·have az:i<ks.length:=by have:=of_decide_eq_true (p:=(i:Int)<ks.length) h;omega
   clear h;have bz:=pX zE az;have gS:=Yj zE (show i+1≤ks.length from az);have ih:=ih i az;have hg:=lO az;rw [yb (nth ks i)] at ih;generalize zE (nth ks i)=S at ih bz;generalize nth ks i=f at ih hg;generalize (ks.take i).map zE=L at il bz ⊢
   (repeat (first|refine FW.seq ?_|refine FW.region ?_|refine FW.block ?_|refine FW.skip ?_|refine zn.ab (yj rfl rfl rfl rfl rfl rfl zF) rfl rfl ?_))
   refine zn.ab (zJ rfl rfl rfl zb zF hg rfl) rfl rfl ?_;refine za ?_;refine zX ih (by repeat (first|exact zf.nil|refine zf.cons zd ?_)) rfl rfl ?_;refine zn.aR (xN rfl rfl rfl rfl (ya _) (zx _) rfl rfl) rfl rfl ?_;refine za ?_;refine ⟨i+1,by omega,by omega,?_⟩;rw [gS,bz];exact (au.cv [⟨101,some 101,0,⟨0,.own,34,5,[[.int .i64 k,.int .i64 a,.int .i64 b,.int .i64 n,.list 5 (ks.map Fo.fv)]]⟩⟩,⟨102,some 102,0,⟨0,.own,34,5,[[.int .i64 0,.int .i64 0,.int .i64 0,.int .i64 0,.nil]]⟩⟩,⟨103,some 17,1,⟨0,.own,34,5,L.map Fo.fv++[S.fv]⟩⟩] zm zq)
  ·have he:i=ks.length:=by have:=of_decide_eq_false (p:=(i:Int)<ks.length) h;omega
   rw [he,yI];refine FW.le ?_ (au.share 3 rfl rfl (zy _).symm);refine za ?_;refine zX hb (by repeat (first|exact zf.nil|refine zf.cons zd ?_)) rfl rfl ?_;refine zn.aY (zA rfl rfl (ya _) rfl rfl rfl rfl (zx _)) rfl ?_;refine za ?_;exact FW.ret ⟨.inl rfl,zu rfl rfl rfl rfl zb rfl (zx _)⟩
theorem BF (k a b n:Int) (ks:List Fo) (vs:List Int) (j:Nat) (hj:j<ks.length) (P:Fo) (hp:∀ X Y,X=.agg (nth ks j).fv→Y=.list 1 (vs.map yQ)→zP Tryz.prog 28 [X,Y] .sh (.agg P.fv)) :
  zP Tryz.prog 76 ([.int .i64 j]++[.ay 5 [[.int .i64 k,.int .i64 a,.int .i64 b,.int .i64 n,.list 5 (ks.map Fo.fv)]] 0 0,.ay 1 [[.list 1 (vs.map yQ)]] 0 0]) .sh (.agg P.fv):=by
 have hp:=hp _ _ rfl rfl;refine zj 12 Tryz.func76 Tryz.ntmps76 rfl ?_;change FW _ _ _ ⟨[(0,_),(1,_),(2,_)],[]⟩;refine Wd ?_;refine zI.ab (zJ rfl rfl rfl zb zF (zO hj) (zx _)) rfl rfl ?_;refine zt ?_;refine zK hp (by repeat (first|exact zf.nil|refine zf.cons zd ?_)) rfl rfl ?_;refine zI.aY (zA rfl rfl (ya _) rfl rfl rfl rfl (zx _)) rfl ?_;refine zt ?_;refine ⟨by kernel_rfl,?_⟩;skip;exact FW.ret ⟨.inl rfl,zu rfl rfl rfl rfl zb rfl (zx _)⟩
theorem Wf.j7 {n:Int} {ks:List Fo} (h:Wf (.mk k a b n ks)) (hk:k=2):a=0∧b=0∧n=0∧∃ x,ks=[x]:=by
 subst hk;cases h with
 | un k f hk hf => exact ⟨rfl, rfl, rfl, f, rfl⟩
 | many hk => omega
theorem Fl (k a b n:Int) (ks:List Fo) (g:Fo) (r:List Fo) (h:k=5∨k=7∨k=8):yM (.mk k a b n ks) (g::r)=if g.cst then g else .mk k a b n (g::r):=by
 have e:yM (.mk k a b n ks) (g::r)=if k=3∨k=4 then xA k (g::r)
  else if k=2 then (if g.cst then Wt (decide (g.k=4)) else if g.k=2 then nth g.ks 0 else .mk k a b n (g::r))
  else if k=6 then (if (nth (g::r) 1).cst || Yi g fF then nth (g::r) 1 else .mk k a b n (g::r))
  else if k=5∨k=7∨k=8 then (if g.cst then g else .mk k a b n (g::r))
  else .mk k a b n (g::r):=rfl
 rw [e,if_neg zc,if_neg zc,if_neg zc,if_pos h]
theorem Gc (a b n:Int) (ks:List Fo) (g h:Fo) (r:List Fo):yM (.mk 6 a b n ks) (g::h::r)=if h.cst || Yi g fF then h else .mk 6 a b n (g::h::r):=rfl
theorem Ga (a b n:Int) (ks K:List Fo):yM (.mk 1 a b n ks) K=.mk 1 a b n K:=rfl
theorem Gb (k a b n:Int) (ks K:List Fo) (h:k=3∨k=4):yM (.mk k a b n ks) K=xA k K:=if_pos h
theorem wC (f:Fo) (hw:Wf f) (hn:zW f≤1000000000000):zP Tryz.prog 158 [.agg f.fv] .sh (.agg (zE f).fv):=by
 induction f using Fo.induct with
 | h k a b n ks ih=>
  have gU:∀ g∈ks,Wf g:=hw.kids;have bF:=vv _ hw;have pD:=hw.j7;rw [zW] at hn;have hlen:=yo ks;have oL:zG (ks.map zE)≤1000000000000:=by
   have:=XK (ks:=ks) (h:=zE) (c:=1) fun f hf=>by have:=YA f;omega
   omega
  have pG:∀ g∈ks.map zE,Wf g:=fun g hg=>by
   obtain ⟨x,hx,rfl⟩:=zM.1 hg;exact XM (gU x hx)
  obtain ⟨lo,Av,one,two,_⟩:=Kd.of hw (kids:=ks.map zE) (zy _) pG;simp only [Fo.k] at lo Av one two;rw [Zs];rw [yP] at bF ⊢;have ih:=fun i (az:i<ks.length)=>ih (nth ks i) (yn az) (gU _ (yn az)) (by have:=yC (yn az);omega);have tB:k=2→a=0∧b=0∧n=0∧∃ g,ks.map zE=[g]:=fun h=>by
   obtain ⟨h1,h2,h3,x,hx⟩:=pD h;exact ⟨h1,h2,h3,zE x,by rw [hx];rfl⟩
  clear gU hw pD;refine zj 76 Tryz.func158 Tryz.ntmps158 rfl ?_;change FW _ _ _ ⟨[(0,_)],[]⟩;refine za ?_;refine zw bF (by repeat (first|exact zf.nil|refine zf.cons zd ?_)) rfl rfl ?_;refine za ?_;refine FW.loop (fun i:Nat=>⟨[(1,.ptr 101 0 0 0),(2,.ptr 102 0 0 0),(3,.own 103 0 0 ((ks.take i).map zE).length),(4,.int .i64 i)],[(101,⟨0,.own,34,5,[[.int .i64 k,.int .i64 a,.int .i64 b,.int .i64 n,.list 5 (ks.map Fo.fv)]]⟩),(102,⟨0,.own,34,5,[[.int .i64 0,.int .i64 0,.int .i64 0,.int .i64 0,.nil]]⟩),(103,⟨0,.own,34,5,((ks.take i).map zE).map Fo.fv⟩)]⟩) (fun i=>i≤ks.length) (fun i=>ks.length - i) 0 (zB _) ?_ ?_
  ·show au _ ⟨[(1,.ptr 101 0 0 0),(2,.ptr 102 0 0 0),(3,.own 103 0 0 0),(4,.int .i64 (0:Nat))],[(101,⟨0,.own,34,5,[[.int .i64 k,.int .i64 a,.int .i64 b,.int .i64 n,.list 5 (ks.map Fo.fv)]]⟩),(102,⟨0,.own,34,5,[[.int .i64 0,.int .i64 0,.int .i64 0,.int .i64 0,.nil]]⟩),(103,⟨0,.own,34,5,[]⟩)]⟩;exact (au.cv [⟨101,some 1,1,⟨0,.own,34,5,[[.int .i64 k,.int .i64 a,.int .i64 b,.int .i64 n,.list 5 (ks.map Fo.fv)]]⟩⟩,⟨102,some 2,1,⟨0,.own,34,5,[[.int .i64 0,.int .i64 0,.int .i64 0,.int .i64 0,.nil]]⟩⟩,⟨103,none,0,⟨0,.own,34,5,[]⟩⟩] zm zq)
  intro i hi;have il:=Yj zE hi;refine za ?_;refine FW.cond rfl (fun h=>?_) (fun h=>?_)
  ·have az:i<ks.length:=by have:=of_decide_eq_true (p:=(i:Int)<ks.length) h;omega
   clear h;have bz:=pX zE az;have gS:=Yj zE (show i+1≤ks.length from az);have ih:=ih i az;have hg:=lO az;rw [yb (nth ks i)] at ih;generalize zE (nth ks i)=S at ih bz;generalize nth ks i=f at ih hg;generalize (ks.take i).map zE=L at il bz ⊢;refine YL ?_;refine zn.ab (zJ rfl rfl rfl zb zF hg rfl) rfl rfl ?_;refine zX ih (by repeat (first|exact zf.nil|refine zf.cons zd ?_)) rfl rfl ?_;refine zn.aR (xN rfl rfl rfl rfl (ya _) (zx _) rfl rfl) rfl rfl ?_;refine za ?_;refine ⟨i+1,by omega,by omega,?_⟩;rw [gS,bz];exact (au.cv [⟨101,some 101,0,⟨0,.own,34,5,[[.int .i64 k,.int .i64 a,.int .i64 b,.int .i64 n,.list 5 (ks.map Fo.fv)]]⟩⟩,⟨102,some 102,0,⟨0,.own,34,5,[[.int .i64 0,.int .i64 0,.int .i64 0,.int .i64 0,.nil]]⟩⟩,⟨103,some 23,1,⟨0,.own,34,5,L.map Fo.fv++[S.fv]⟩⟩] zm zq)
  have he:i=ks.length:=by have:=of_decide_eq_false (p:=(i:Int)<ks.length) h;omega
  rw [he,yI];clear he h il hi ih bF;generalize ks.map zE=KS at oL pG one two tB ⊢;refine FW.le ?_ (au.share 3 rfl rfl (zy _).symm);obtain rfl|qA|lS|rfl|rfl:k=2∨(k=3∨k=4)∨(k=5∨k=7∨k=8)∨k=1∨k=6:=by omega
  ·obtain ⟨rfl,rfl,rfl,g,rfl⟩:=tB rfl;have tV:=EE g (pG g (rX _));rw [show yM (.mk 2 0 0 0 ks) [g]=yM (.mk 2 0 0 0 []) [g] from rfl];generalize yM (.mk 2 0 0 0 []) [g]=B at tV ⊢;refine YL ?_;refine zn.ab (zJ rfl rfl rfl zb Nat.one_pos rfl (zx _)) rfl rfl ?_;refine zX tV (by repeat (first|exact zf.nil|refine zf.cons zd ?_)) rfl rfl ?_;refine zn.aY (zA rfl rfl (ya _) rfl rfl rfl rfl (zx _)) rfl ?_;refine za ?_;exact FW.ret ⟨.inl rfl,zu rfl rfl rfl rfl zb rfl (zx _)⟩
  ·have hj:=CX k qA KS pG oL;rw [Gb k a b n ks KS qA];rcases qA with rfl|rfl
   all_goals (
    refine za ?_;refine zX hj (by repeat (first|exact zf.nil|refine zf.cons zd ?_)) rfl rfl ?_;refine zn.aY (zA rfl rfl (ya _) rfl rfl rfl rfl (zx _)) rfl ?_;refine za ?_;exact FW.ret ⟨.inl rfl,zu rfl rfl rfl rfl zb rfl (zx _)⟩)
  ·obtain ⟨g,r,rfl⟩:=one (.inr lS);rw [Fl k a b n ks g r lS];have hc:=Zr g;cases nh:g.cst
   all_goals (
    rw [nh] at hc;simp only [if_true,if_false,Xw,yP];rcases lS with rfl|rfl|rfl
    all_goals (
     refine YL ?_;refine zn.ab (zJ rfl rfl rfl zb (xT _) rfl (zx _)) rfl rfl ?_;refine zw hc (by repeat (first|exact zf.nil|refine zf.cons zd ?_)) rfl rfl ?_;refine YL ?_
     first
     | (
       refine zn.ab (zJ rfl rfl rfl zb (xT _) rfl (zx _)) rfl rfl ?_;refine zn.aY (zA rfl rfl (ya _) rfl rfl rfl rfl (zx _)) rfl ?_;refine za ?_;exact FW.ret ⟨.inl rfl,zu rfl rfl rfl rfl zb rfl (zx _)⟩)
     | exact FW.ret ⟨.inl rfl, zu rfl rfl rfl rfl zb rfl rfl⟩))
  ·rw [Ga,yP];refine za ?_;exact FW.ret ⟨.inl rfl,zu rfl rfl rfl rfl zb rfl rfl⟩
  ·obtain ⟨g,h,r,rfl⟩:=two rfl;rw [Gc];have hc:=Zr h;have hq:=UO g fF (by have:=yC (ks:=g::h::r) (XC ..);omega);have hz:=Wn;generalize Yi g fF=e at hq ⊢;cases tM:h.cst with
   | true =>
    rw [tM] at hc;simp only [VH,if_true];refine Wd ?_;refine zI.ab (zJ rfl rfl rfl zb (Xd (xT _)) rfl (zx _)) rfl rfl ?_;refine yG hc (by repeat (first|exact zf.nil|refine zf.cons zd ?_)) rfl rfl ?_;refine zt ?_;refine ⟨by kernel_rfl,?_⟩;refine YL ?_;refine zn.ab (zJ rfl rfl rfl zb (Xd (xT _)) rfl (zx _)) rfl rfl ?_;refine zn.aY (zA rfl rfl (ya _) rfl rfl rfl rfl (zx _)) rfl ?_;refine za ?_;exact FW.ret ⟨.inl rfl,zu rfl rfl rfl rfl zb rfl (zx _)⟩
   | false=>
    rw [tM] at hc;simp only [yX];cases e
    all_goals (
     simp only [if_true,if_false,Xw,yP];refine Wd ?_;refine zI.ab (zJ rfl rfl rfl zb (Xd (xT _)) rfl (zx _)) rfl rfl ?_;refine yG hc (by repeat (first|exact zf.nil|refine zf.cons zd ?_)) rfl rfl ?_;refine YK ?_;refine zI.ab (zJ rfl rfl rfl zb (xT _) rfl (zx _)) rfl ⟨_,_,rfl,rfl,rfl⟩ ?_;refine zK hz xK rfl ⟨_,_,rfl,rfl,rfl⟩ ?_;refine yG hq (by repeat (first|exact zf.nil|refine zf.cons zd ?_)) rfl ⟨_,_,rfl,rfl,rfl⟩ ?_;refine zt ?_;refine ⟨by kernel_rfl,?_⟩;refine YL ?_
     first
     | (
       refine zn.ab (zJ rfl rfl rfl zb (Xd (xT _)) rfl (zx _)) rfl rfl ?_;refine zn.aY (zA rfl rfl (ya _) rfl rfl rfl rfl (zx _)) rfl ?_;refine za ?_;exact FW.ret ⟨.inl rfl,zu rfl rfl rfl rfl zb rfl (zx _)⟩)
     | exact FW.ret ⟨.inl rfl, zu rfl rfl rfl rfl zb rfl rfl⟩)
theorem Fj {f x:Fo} (h:zW f * (1+4 * bU f)≤1000000000000) (hx:x∈f.ks):zW x * (1+4 * bU x)≤1000000000000:=by
 have h1:=yC hx;have h2:=YY hx;have h3:=YO f;have h4:=o7 f;exact zR (WE (show zW x≤zW f by omega) (show 1+4 * bU x≤1+4 * bU f by omega)) h
theorem Et {f:Fo} (h:zW f * (1+4 * bU f)≤1000000000000):zG (f.ks.map (yw vs))≤1000000000000:=by
 have h1:=WS (ks:=f.ks) (h:=yw vs) fun x _=>UI vs x;have h3:=YO f;have h4:=o7 f;exact zR h1 (zR (WE (show zG f.ks≤zW f by omega) (show 1+4 * Vw f.ks≤1+4 * bU f by omega)) h)
theorem Fk {f:Fo} (ht:eX f.k=1) (h:zW f * (1+4 * bU f)≤1000000000000):zG (f.ks.map (yw vs))+zW f+4≤1000000000000:=by
 have h1:=WS (ks:=f.ks) (h:=yw vs) fun x _=>UI vs x;have h3:=YO f;have h4:=o7 f;have h5:=Uh h1;rw [ht] at h4;rw [← h3,← h4] at h5;omega
theorem uv (k a b n:Int) (ks:List Fo) (vs:List Int) (hk:k=2∨k=3∨k=4) (hlen:ks.length≤1000000000000) (B:Fo) (hb:∀ X Y,X=.agg (Fo.fv (.mk k a b n ks))→Y=.list 5 ((ks.map (yw vs)).map Fo.fv)→zP Tryz.prog 75 [X,Y] .sh (.agg B.fv))
  (h1:∀ j,j<ks.length→zP Tryz.prog 76 ([.int .i64 (j:Nat)]++[.ay 5 [[.int .i64 k,.int .i64 a,.int .i64 b,.int .i64 n,.list 5 (ks.map Fo.fv)]] 0 0,.ay 1 [[.list 1 (vs.map yQ)]] 0 0]) .sh (.agg (yw vs (nth ks j)).fv)) :
  zP Tryz.prog 28 [.agg (Fo.fv (.mk k a b n ks)),.list 1 (vs.map yQ)] .sh (.agg B.fv):=by
 have hb:=hb _ _ rfl rfl;rw [yP] at hb ⊢;refine zj 93 Tryz.func28 Tryz.ntmps28 rfl ?_;change FW _ _ _ ⟨[(0,_),(1,_)],[]⟩;refine FW.seq ?_;refine FW.region ?_;refine Zp ?_;refine FW.le ?_ (au.aL 2 rfl rfl);refine FW.le ?_ (au.aL 3 rfl rfl);refine za ?_;refine FW.cond rfl (fun h=>absurd (of_decide_eq_true h) zc) (fun _=>?_);refine za ?_;refine FW.cond rfl (fun h=>absurd (of_decide_eq_true h) zc) (fun _=>?_);refine za ?_;refine FW.cond rfl (fun h=>absurd (of_decide_eq_true h) zc) (fun _=>?_);refine za ?_;refine FW.cond rfl (fun h=>absurd (of_decide_eq_true h) zc) (fun _=>?_);refine za ?_;refine FW.cond rfl (fun h=>absurd (of_decide_eq_true h) zc) (fun _=>?_);refine za ?_;refine FW.loop (fun i:Nat=>⟨[(2,.ay 5 [[.int .i64 k,.int .i64 a,.int .i64 b,.int .i64 n,.list 5 (ks.map Fo.fv)]] 0 0),(4,.ptr 104 0 0 0),(5,.fn 76 [.ay 5 [[.int .i64 k,.int .i64 a,.int .i64 b,.int .i64 n,.list 5 (ks.map Fo.fv)]] 0 0,.ay 1 [[.list 1 (vs.map yQ)]] 0 0]),(7,.own 107 0 0 ((ks.take i).map (yw vs)).length),(79,.int .i64 ks.length),(80,.int .i64 i)],[(104,⟨0,.own,34,5,[[.int .i64 0,.int .i64 0,.int .i64 0,.int .i64 0,.nil]]⟩),(107,⟨0,.own,34,5,((ks.take i).map (yw vs)).map Fo.fv⟩)]⟩) (fun i=>i≤ks.length) (fun i=>ks.length - i) 0 (zB _) ?_ ?_
 ·show au _ ⟨[(2,.ay 5 [[.int .i64 k,.int .i64 a,.int .i64 b,.int .i64 n,.list 5 (ks.map Fo.fv)]] 0 0),(4,.ptr 104 0 0 0),(5,.fn 76 [.ay 5 [[.int .i64 k,.int .i64 a,.int .i64 b,.int .i64 n,.list 5 (ks.map Fo.fv)]] 0 0,.ay 1 [[.list 1 (vs.map yQ)]] 0 0]),(7,.own 107 0 0 0),(79,.int .i64 ks.length),(80,.int .i64 (0:Nat))],[(104,⟨0,.own,34,5,[[.int .i64 0,.int .i64 0,.int .i64 0,.int .i64 0,.nil]]⟩),(107,⟨0,.own,34,5,[]⟩)]⟩;exact (au.cv [⟨104,some 4,1,⟨0,.own,34,5,[[.int .i64 0,.int .i64 0,.int .i64 0,.int .i64 0,.nil]]⟩⟩,⟨107,none,0,⟨0,.own,34,5,[]⟩⟩] zm zq)
 intro i hi;have il:=Yj (yw vs) hi;refine za ?_;refine FW.cond rfl (fun h=>?_) (fun h=>?_)
 ·have az:i<ks.length:=by have:=of_decide_eq_true (p:=(i:Int)<ks.length) h;omega
  clear h;have bz:=pX (yw vs) az;have gS:=Yj (yw vs) (show i+1≤ks.length from az);have h1:=h1 i az;generalize yw vs (nth ks i)=S at h1 bz;generalize (ks.take i).map (yw vs)=L at il bz ⊢;refine za ?_;refine EP rfl h1 (by repeat (first|exact zf.nil|refine zf.cons zd ?_)) rfl rfl ?_;refine zn.aR (xN rfl rfl rfl rfl (ya _) (zx _) rfl rfl) rfl rfl ?_;refine za ?_;refine ⟨i+1,by omega,by omega,?_⟩;rw [gS,bz];exact (au.cv [⟨104,some 104,0,⟨0,.own,34,5,[[.int .i64 0,.int .i64 0,.int .i64 0,.int .i64 0,.nil]]⟩⟩,⟨107,some 88,1,⟨0,.own,34,5,L.map Fo.fv++[S.fv]⟩⟩] zm zq)
 have he:i=ks.length:=by have:=of_decide_eq_false (p:=(i:Int)<ks.length) h;omega
 rw [he,yI];refine FW.le ?_ (au.share 7 rfl rfl (zy _).symm);refine za ?_;refine zX hb (by repeat (first|exact zf.nil|refine zf.cons zd ?_)) rfl rfl ?_;refine zn.aY (zA rfl rfl (ya _) rfl rfl rfl rfl (zx _)) rfl ?_;refine za ?_;exact FW.ret ⟨.inl rfl,zu rfl rfl rfl rfl zb rfl (zx _)⟩
theorem CV (a b n:Int) (vs:List Int) (ha:0≤a) (hb:0≤b) (dc:b≤2):zP Tryz.prog 28 [.agg (Fo.fv (.mk 1 a b n [])),.list 1 (vs.map yQ)] .sh (.agg (Wt (ky b (g9 vs a) n)).fv):=by
 have hc:=ZI (ky b (g9 vs a) n);rw [yP];obtain ⟨a,rfl⟩:∃ m:Nat,a=m:=⟨a.toNat,by omega⟩
 have hv:g9 vs a=if (a:Int)<vs.length then nth vs a else 0:=rfl
 generalize g9 vs a=v at hc hv ⊢;generalize hC:Wt (ky b v n)=C at hc ⊢;refine zj 93 Tryz.func28 Tryz.ntmps28 rfl ?_;change FW _ _ _ ⟨[(0,_),(1,_)],[]⟩;refine FW.seq ?_;refine FW.region ?_;refine Zp ?_;refine FW.le ?_ (au.aL 2 rfl rfl);refine FW.le ?_ (au.aL 3 rfl rfl);refine za ?_;obtain rfl|rfl|rfl:b=0∨b=1∨b=2:=by omega
 all_goals (
  refine FW.cond rfl (fun h=>?_) (fun h=>?_)
  (·
    have h:decide ((a:Int)<vs.length)=true:=h;have h:=of_decide_eq_true h;rw [if_pos h] at hv;refine za ?_;rw [← hv];skip;refine zC (es:=[[.bool (decide (v<n))],[.bool (decide (v=n))],[.bool (decide (v > n))]]) rfl rfl rfl (by refine zY.bool rfl rfl ?_;refine zY.bool rfl rfl ?_;refine zY.bool rfl rfl ?_;exact zY.nil) rfl rfl rfl rfl rfl ?_;refine za ?_;refine zX hc (by repeat (first|exact zf.nil|refine zf.cons zd ?_)) rfl rfl ?_;refine zn.aY (zA rfl rfl (ya _) rfl rfl rfl rfl (zx _)) rfl ?_;refine za ?_;exact FW.ret ⟨.inl rfl,zu rfl rfl rfl rfl zb rfl (zx _)⟩)
  (·
    have h:decide ((a:Int)<vs.length)=false:=h;have h:=of_decide_eq_false h;rw [if_neg h] at hv;subst hv;refine za ?_;refine zC (es:=[[.bool (decide ((0:Int)<n))],[.bool (decide ((0:Int)=n))],[.bool (decide ((0:Int) > n))]]) rfl rfl rfl (by refine zY.bool rfl rfl ?_;refine zY.bool rfl rfl ?_;refine zY.bool rfl rfl ?_;exact zY.nil) rfl rfl rfl rfl rfl ?_;refine za ?_;refine zX hc (by repeat (first|exact zf.nil|refine zf.cons zd ?_)) rfl rfl ?_;refine zn.aY (zA rfl rfl (ya _) rfl rfl rfl rfl (zx _)) rfl ?_;refine za ?_;exact FW.ret ⟨.inl rfl,zu rfl rfl rfl rfl zb rfl (zx _)⟩))
end Go.Proofs.YtedkppfghdipdaaGreatDoor
