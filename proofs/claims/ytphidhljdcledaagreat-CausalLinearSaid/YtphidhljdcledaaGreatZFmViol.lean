/-
  Lemmas, in parts.
-/
import Derived.Test.YtphidhljdcledaaGreatZFmLin2
import Derived.Test.YtphidhljdcledaaGreatZD
import Derived.Test.YtphidhljdcledaaGreatZC
import Derived.RangeFuncLeaves
import Derived.RangeFuncRecord
import Derived.Test.YtphidhljdcledaaGreatZJ
namespace Go.Proofs.YtphidhljdcledaaGreat
set_option linter.unusedVariables false
set_option maxHeartbeats 16000000
variable {f:Nat→zE} {args:List FV} {b i k n:Nat} {p:Nat→Bool} {w:World} {A B out row:List Nat} {a:Act} {α:Type} {W:List Int} {code x:Code} {R:Nat→Nat→Bool} {o:Oper} {t t' : List (Nat×FV)} {I:Nat→Prop} {l ob:List (Nat×zE)} {g:Nat→FV} {c:Ctx} {K:Act→World→Prop} {Q:Exit→Act→World→Prop} {ops:Array Oper} {L:List Oper}
section
open Go.RowKit
theorem xA.V1 {P:Program} {f:Nat} {r r' : FV} (h:xA P f args .sh r) (hle:FV.le r r') (hh:r'.hand=none):xA P f args .sh r' where
 go:=h.go
 hand:=hh
 calls w I vs hI hv:=(h.calls w I vs hI hv).mono fun e w' ⟨v,e1,hb,hr⟩=>⟨v,e1,hb,Rd.le hle hr⟩
def LV.fv (c:Int) (v:LV):List FV:=[.int .i64 2,.int .i64 v.cls,.int .i64 c,.list 1 (v.ord.map yx),.list 3 (v.ed.map Hg)]
def zye (o:List Nat):FV:=match o with|[]=>.nil|x::o=>.list 1 ((x::o).map yx)
def LV.raw (c:Int) (v:LV):List FV:=[.int .i64 2,.int .i64 v.cls,.int .i64 c,zye v.ord,IM v.ed]
theorem LV.le (c:Int) (v:LV) (b:FV):FV.le (.bd [.agg (v.raw c),b]) (.bd [.agg (v.fv c),b]):=by
 refine .bd (.cons (.agg (.cons (.refl _) (.cons (.refl _) (.cons (.refl _) (.cons ?_ (.cons ?_ .nil)))))) (.cons (.refl _) .nil))
 ·unfold zye;cases v.ord with
  | nil => exact .nil 1
  | cons => exact .refl _
 ·unfold IM;cases v.ed with
  | nil => exact .nil 3
  | cons => exact .refl _
def SQ (e:Option (Nat×Nat)):FV:=match e with|none=>.nil|some p=>.list 1 [yx p.1,yx p.2]
theorem zh3 (l:List aq) (c:Int) (ins:List Bool) (hl:l.length≤300) (aP:∀ o∈l,Ue o) (hc:bU c) (D:yE l) (eZ:ins.length=l.length) (iD:∀ i,i<l.length→nth ins i=yC l i) :
  xA Tryz.prog 16 [.list 8 (l.map aq.fv),.int .i64 c,.smap (mY l l.length),.list 1 (ins.map dz)] .sh (.bd [.agg ((jP l c).fv c),.bool (decide ((jP l c).cls≠0))]):=by
 refine xA.V1 ?_ (LV.le c _ _) rfl;have kx:=UR (l:=l) (i:=l.length) (zg _) aP;have dp:=zxl l;generalize mY l l.length=W at kx dp;have bk:=W0 l c ins hl aP hc D eZ iD;refine ym 118 Tryz.func16 Tryz.ntmps16 rfl ?_;change FW _ _ _ ⟨[(0,.list 8 (l.map aq.fv)),(1,.int .i64 c),(2,.smap W),(3,.list 1 (ins.map dz))],[]⟩;refine zb ?_;refine FW.loop (fun p:Nat×Option (Nat×Nat)=>⟨[(0,.list 8 (l.map aq.fv)),(1,.int .i64 c),(2,.smap W),(3,.list 1 (ins.map dz)),(8,.ptr 102 0 0 0),(10,.ptr 103 0 0 0),(11,SQ p.2),(22,.list 8 (l.map aq.fv)),(23,.int .i64 l.length),(24,.int .i64 p.1)],[(102,⟨0,.own,31,5,[[.int .i64 0,.int .i64 0,.int .i64 0,.nil,.nil]]⟩),(103,⟨0,.own,31,5,[[.int .i64 2,.int .i64 0,.int .i64 c,.nil,.nil]]⟩)]⟩) (fun p=>p.1≤l.length∧(∀ j,j<p.1→tK l c j=false)∧match p.2 with|none=>∀ j,j<p.1→UA l c j=false|some q=>q.1<p.1∧UA l c q.1=true∧IW l q.1=q.2∧∀ j,j<q.1→UA l c j=false) (fun p=>l.length - p.1) (0,none) ⟨zp _,fun j hj=>by omega,fun j hj=>by dsimp only at hj;omega⟩ ?_ ?_
 ·exact (ar.cv [⟨102,some 8,0+1,⟨0,.own,31,5,[[.int .i64 0,.int .i64 0,.int .i64 0,.nil,.nil]]⟩⟩,⟨103,some 10,0+1,⟨0,.own,31,5,[[.int .i64 2,.int .i64 0,.int .i64 c,.nil,.nil]]⟩⟩] zh zf)
 rintro ⟨i,e⟩ ⟨hi,qC,vQ⟩;dsimp only at hi qC vQ ⊢;refine zb ?_;refine FW.cond rfl (fun h=>?_) (fun h=>?_)
 ·have aA:i<l.length:=by simpa using h
  clear h;have ho:=aP _ (zu aA);have dR:=WY (nth l i);have dp:=dp (nth l i).key (nth l i).res;have kY:tK l c i=(decide ((nth l i).key=c) && (decide ((nth l i).k=0) && ((nth l i).done && (decide ((nth l i).res≠0) && (jH l (nth l i).key (nth l i).res).isNone)))):=rfl;have m9:UA l c i=(decide ((nth l i).key=c) && (decide ((nth l i).k=0) && ((nth l i).done && (decide ((nth l i).res≠0) && match jH l (nth l i).key (nth l i).res with|none=>false|some w=>gN l i w)))):=rfl;have GP:IW l i=(jH l (nth l i).key (nth l i).res).getD 0:=rfl;have fw:∀ e',tK l c i=false→(e'=e∧(e=none→UA l c i=false)∨(e=none∧e'=some (i,IW l i)∧UA l c i=true))→(i+1≤l.length∧(∀ j,j<i+1→tK l c j=false)∧match e' with|none=>∀ j,j<i+1→UA l c j=false|some q=>q.1<i+1∧UA l c q.1=true∧IW l q.1=q.2∧∀ j,j<q.1→UA l c j=false):=fun e' h1 h2=>by
   refine ⟨by omega,fun j hj=>?_,?_⟩
   ·by_cases Be:j=i
    ·subst Be;exact h1
    ·exact qC j za
   ·rcases h2 with ⟨rfl,h2⟩|⟨rfl,rfl,h2⟩
    ·cases e' with
     | none =>
      dsimp only at vQ ⊢;intro j hj;by_cases Be:j=i
      ·subst Be;exact h2 rfl
      ·exact vQ j za
     | some q =>
      dsimp only at vQ ⊢;exact ⟨by omega,vQ.2⟩
    ·exact ⟨by dsimp only;omega,h2,rfl,fun j hj=>vQ j hj⟩
  obtain ⟨o,er⟩:∃ o,nth l i=o:=⟨_,rfl⟩
  rw [er] at ho dR kY m9 GP dp;have heh:(SQ e).hand=none:=by cases e <;> rfl
  refine zb ?_;rw [er];skip;refine yR (fun h1=>?_) (fun h1=>?_)
  ·have iB : ¬ o.key=c:=by simpa using h1
   rw [decide_eq_false iB,Zo] at kY m9;refine zb ?_;exact ⟨(i+1,e),fw e kY (.inl ⟨rfl,fun _=>m9⟩),by dsimp only;omega,(ar.cv [⟨102,some 102,0,⟨0,.own,31,5,[[.int .i64 0,.int .i64 0,.int .i64 0,.nil,.nil]]⟩⟩,⟨103,some 103,0,⟨0,.own,31,5,[[.int .i64 2,.int .i64 0,.int .i64 c,.nil,.nil]]⟩⟩] zh zf)⟩
  have iB : o.key=c:=by simpa using h1
  rw [decide_eq_true iB,yN] at kY m9;refine zb ?_;refine yR (fun h2=>?_) (fun h2=>?_)
  ·have eG : ¬ o.k=0:=by simpa using h2
   rw [decide_eq_false eG,Zo] at kY m9;refine zb ?_;exact ⟨(i+1,e),fw e kY (.inl ⟨rfl,fun _=>m9⟩),by dsimp only;omega,(ar.cv [⟨102,some 102,0,⟨0,.own,31,5,[[.int .i64 0,.int .i64 0,.int .i64 0,.nil,.nil]]⟩⟩,⟨103,some 103,0,⟨0,.own,31,5,[[.int .i64 2,.int .i64 0,.int .i64 c,.nil,.nil]]⟩⟩] zh zf)⟩
  have eG : o.k=0:=by simpa using h2
  rw [decide_eq_true eG,yN] at kY m9;refine zb ?_;cases hd:o.done with
  | false =>
   rw [hd,Zo] at kY m9;refine zb ?_;exact ⟨(i+1,e),fw e kY (.inl ⟨rfl,fun _=>m9⟩),by dsimp only;omega,(ar.cv [⟨102,some 102,0,⟨0,.own,31,5,[[.int .i64 0,.int .i64 0,.int .i64 0,.nil,.nil]]⟩⟩,⟨103,some 103,0,⟨0,.own,31,5,[[.int .i64 2,.int .i64 0,.int .i64 c,.nil,.nil]]⟩⟩] zh zf)⟩
  | true=>
   rw [hd,yN] at kY m9;refine zb ?_;refine FW.cond rfl (fun h3=>?_) (fun h3=>?_)
   ·have MI : ¬ o.res≠0:=by simpa using h3
    rw [decide_eq_false MI,Zo] at kY m9;refine zb ?_;exact ⟨(i+1,e),fw e kY (.inl ⟨rfl,fun _=>m9⟩),by dsimp only;omega,(ar.cv [⟨102,some 102,0,⟨0,.own,31,5,[[.int .i64 0,.int .i64 0,.int .i64 0,.nil,.nil]]⟩⟩,⟨103,some 103,0,⟨0,.own,31,5,[[.int .i64 2,.int .i64 0,.int .i64 c,.nil,.nil]]⟩⟩] zh zf)⟩
   have MI : o.res≠0:=by simpa using h3
   rw [decide_eq_true MI,yN] at kY m9;have aI:VQ o=UV o.key o.res:=by unfold VQ;rw [UQ eG]
   rw [aI] at dR;unfold Sn at dp;have BE:=fun w h=>WM (l:=l) (key:=o.key) (v:=o.res) (w:=w) h;refine zb ?_;refine yP dR (by repeat (first|exact zH.nil|refine zH.cons zB ?_)) rfl rfl ?_;skip;refine Wt (e:=3) u9 kx (tO ho.2.2.1 ho.2.2.2.2.1) dp rfl rfl rfl rfl rfl rfl rfl ?_;cases hw:jH l o.key o.res with
   | none=>
    rw [hw] at kY;have hv:jP l c=⟨2,[i],[]⟩:=by
     unfold jP;rw [zlc aA (show tK l c i=true from kY) qC]
    rw [hv];refine zb ?_;refine zt.le ?_ (ar.share 58 rfl rfl rfl);refine zb ?_;refine FW.ret ⟨.inl rfl,.sh (.cons (yD rfl rfl rfl rfl rfl rfl zd) (.cons (.tmp 9 rfl rfl) .nil)) ?_ rfl⟩;rfl
   | some w=>
    have qD:=(BE w hw).1;rw [hw] at kY m9 GP;have Np:=X4 l i w aA qD;refine zb ?_;cases e with
    | some q =>
     skip;refine zt.ai (zrA rfl rfl rfl zc) rfl rfl ?_;refine zb ?_;exact ⟨(i+1,some q),fw (some q) kY (.inl ⟨rfl,fun h=>by cases h⟩),by dsimp only;omega,(ar.cv [⟨102,some 102,0,⟨0,.own,31,5,[[.int .i64 0,.int .i64 0,.int .i64 0,.nil,.nil]]⟩⟩,⟨103,some 103,0,⟨0,.own,31,5,[[.int .i64 2,.int .i64 0,.int .i64 c,.nil,.nil]]⟩⟩] zh zf)⟩
    | none=>
     refine zb ?_;refine yP Np (by repeat (first|exact zH.nil|refine zH.cons zB ?_)) rfl ⟨_,_,rfl,rfl,rfl⟩ ?_;refine zb ?_;refine FW.cond rfl (fun h4=>?_) (fun h4=>?_)
     ·(repeat (first|refine FW.region ?_|refine zt.ai (zD rfl) rfl rfl ?_))
      refine Vy (es:=[yx i,yx w]) rfl rfl rfl (by refine Xi.int rfl rfl ?_;refine Xi.int rfl rfl ?_;exact Xi.nil) rfl rfl rfl rfl rfl rfl ?_;refine zb ?_;refine ⟨(i+1,some (i,w)),fw (some (i,w)) kY (.inr ⟨rfl,by rw [GP];rfl,m9.trans h4⟩),by dsimp only;omega,ar.trans (ar.share 11 rfl rfl rfl) ?_⟩;exact (ar.cv [⟨102,some 102,0,⟨0,.own,31,5,[[.int .i64 0,.int .i64 0,.int .i64 0,.nil,.nil]]⟩⟩,⟨103,some 103,0,⟨0,.own,31,5,[[.int .i64 2,.int .i64 0,.int .i64 c,.nil,.nil]]⟩⟩] zh zf)
     ·refine zb ?_;exact ⟨(i+1,none),fw none kY (.inl ⟨rfl,fun _=>m9.trans h4⟩),by dsimp only;omega,(ar.cv [⟨102,some 102,0,⟨0,.own,31,5,[[.int .i64 0,.int .i64 0,.int .i64 0,.nil,.nil]]⟩⟩,⟨103,some 103,0,⟨0,.own,31,5,[[.int .i64 2,.int .i64 0,.int .i64 c,.nil,.nil]]⟩⟩] zh zf)⟩
 obtain rfl:i=l.length:=by simp at h;omega
 clear h;have TU:=zlb qC;refine zb ?_;cases e with
 | some q=>
  obtain ⟨q1,q2,q3,q4⟩:=vQ;have hv:jP l c=⟨3,[q.1,q.2],[]⟩:=by
   unfold jP;rw [TU];dsimp only;rw [zlc q1 q2 q4];dsimp only;rw [q3]
  rw [hv];skip;refine zt.ai (zk2 rfl rfl rfl zc) rfl rfl ?_;refine zb ?_;refine FW.ret ⟨.inl rfl,.sh (.cons (yD rfl rfl rfl rfl rfl rfl zd) (.cons (.tmp 9 rfl rfl) .nil)) ?_ rfl⟩;rfl
 | none=>
  have aN:=zlb vQ;have hv:jP l c=if tL l c=[] then ⟨0,[],[]⟩ else ⟨4,[],tL l c⟩:=by
   unfold jP;rw [TU];dsimp only;rw [aN]
  have bk:=bk fun i hi hk=>by
   have:=qC i hi;unfold tK at this;rw [decide_eq_true hk,yN] at this;exact this
  unfold tL at hv;have hK:=Y8 (l:=l) (c:=c);have oI:∀ j,j<(ZI l c).length→0<(nth (ZI l c) j).ops.length∧(nth (ZI l c) j).ops.length≤1000000000∧∀ i∈(nth (ZI l c) j).ops,i<l.length:=fun j hj=>⟨Ij D hj,by have:=zre hj;omega,fun i hi=>((Yn D hj).1 hi).1⟩
  obtain ⟨C,hC⟩:∃ C,ZI l c=C:=⟨_,rfl⟩
  rw [hC] at bk hv hK oI;obtain ⟨V,hV⟩:∃ V,jP l c=V:=⟨_,rfl⟩
  rw [hV] at hv ⊢;obtain ⟨A,hA⟩:∃ A,sW l C C.length 0=A:=⟨_,rfl⟩
  rw [hA] at hv;refine zb ?_;refine Zg bk (by repeat (first|exact zH.nil|refine zH.cons zB ?_)) rfl rfl ?_;refine zb ?_;refine FW.loop (fun i:Nat=>⟨[(0,.list 8 (l.map aq.fv)),(1,.int .i64 c),(2,.smap W),(3,.list 1 (ins.map dz)),(8,.ptr 102 0 0 0),(10,.ptr 103 0 0 0),(16,.list 2 (C.map dx.fv)),(87,.int .i64 C.length),(88,.int .i64 i)],[(102,⟨0,.own,31,5,[[.int .i64 0,.int .i64 0,.int .i64 0,.nil,.nil]]⟩),(103,⟨0,.own,31,5,[[.int .i64 2,.int .i64 0,.int .i64 c,.nil,.nil]]⟩)]⟩) (fun i=>i≤C.length∧sW l C (C.length - i) i=A) (fun i=>C.length - i) 0 ⟨zp _,hA⟩ ?_ ?_
  ·exact (ar.cv [⟨102,some 102,0,⟨0,.own,31,5,[[.int .i64 0,.int .i64 0,.int .i64 0,.nil,.nil]]⟩⟩,⟨103,some 103,0,⟨0,.own,31,5,[[.int .i64 2,.int .i64 0,.int .i64 c,.nil,.nil]]⟩⟩] zh zf)
  rintro i ⟨hi,kq⟩;refine zb ?_;refine FW.cond rfl (fun h=>?_) (fun h=>?_)
  ·have aA:i<C.length:=by simpa using h
   clear h;rw [show C.length - i=(C.length - (i+1))+1 by omega] at kq;unfold sW at kq;obtain ⟨B,hB⟩:∃ B,pd l C i (C.length - (i+1)) (i+1)=B:=⟨_,rfl⟩
   rw [hB] at kq;refine zb ?_;refine FW.loop (fun k:Nat=>⟨[(0,.list 8 (l.map aq.fv)),(1,.int .i64 c),(2,.smap W),(3,.list 1 (ins.map dz)),(8,.ptr 102 0 0 0),(10,.ptr 103 0 0 0),(16,.list 2 (C.map dx.fv)),(17,.int .i64 i),(18,.int .i64 k),(87,.int .i64 C.length),(88,.int .i64 i)],[(102,⟨0,.own,31,5,[[.int .i64 0,.int .i64 0,.int .i64 0,.nil,.nil]]⟩),(103,⟨0,.own,31,5,[[.int .i64 2,.int .i64 0,.int .i64 c,.nil,.nil]]⟩)]⟩) (fun k=>i+1≤k∧k≤C.length∧pd l C i (C.length - k) k=B) (fun k=>C.length - k) (i+1) ⟨zg _,aA,hB⟩ ?_ ?_
   ·exact (ar.cv [⟨102,some 102,0,⟨0,.own,31,5,[[.int .i64 0,.int .i64 0,.int .i64 0,.nil,.nil]]⟩⟩,⟨103,some 103,0,⟨0,.own,31,5,[[.int .i64 2,.int .i64 0,.int .i64 c,.nil,.nil]]⟩⟩] zh zf)
   rintro k ⟨dI,hk,hcK⟩;refine zb ?_;refine FW.cond rfl (fun h=>?_) (fun h=>?_)
   ·have Bi:k<C.length:=by simpa using h
    clear h;rw [show C.length - k=(C.length - (k+1))+1 by omega] at hcK;unfold pd at hcK;obtain ⟨x0,x1,x2⟩:=oI i aA;obtain ⟨y0,y1,y2⟩:=oI k Bi;obtain ⟨X,hX⟩:∃ X,nth C i=X:=⟨_,rfl⟩
    obtain ⟨Y,hY⟩:∃ Y,nth C k=Y:=⟨_,rfl⟩
    rw [hX] at x0 x1 x2 hcK;rw [hY] at y0 y1 y2 hcK;have Nu:=zjB l X Y za x1 y1 x0 y0 x2 y2;refine zb ?_;refine FW.ko zw ?_;refine yH ?_;rw [hX,hY];refine LA Nu (by repeat (first|exact zH.nil|refine zH.cons zB ?_)) rfl rfl ?_;refine yH ?_;refine ⟨by kernel_rfl,?_⟩;cases hE:mU l X Y with
    | nil =>
     rw [hE,if_pos rfl] at hcK;refine zb ?_;exact ⟨k+1,⟨by omega,by omega,hcK⟩,by omega,(ar.cv [⟨102,some 102,0,⟨0,.own,31,5,[[.int .i64 0,.int .i64 0,.int .i64 0,.nil,.nil]]⟩⟩,⟨103,some 103,0,⟨0,.own,31,5,[[.int .i64 2,.int .i64 0,.int .i64 c,.nil,.nil]]⟩⟩] zh zf)⟩
    | cons e0 E =>
     rw [hE,if_neg zc] at hcK;subst hcK;rw [if_neg zc] at kq;subst kq;rw [if_neg zc] at hv;subst hv;refine zb ?_;refine zt.ai (zk2 rfl rfl rfl zc) rfl rfl ?_;refine zb ?_;refine FW.ret ⟨.inl rfl,.sh (.cons (yD rfl rfl rfl rfl rfl rfl zd) (.cons (.tmp 9 rfl rfl) .nil)) ?_ rfl⟩;rfl
   ·obtain rfl:k=C.length:=by simp at h;omega
    rw [xZ] at hcK;have hB0:B=[]:=hcK.symm;rw [if_pos hB0] at kq;refine zb ?_;exact ⟨i+1,⟨by omega,kq⟩,by omega,(ar.cv [⟨102,some 102,0,⟨0,.own,31,5,[[.int .i64 0,.int .i64 0,.int .i64 0,.nil,.nil]]⟩⟩,⟨103,some 103,0,⟨0,.own,31,5,[[.int .i64 2,.int .i64 0,.int .i64 c,.nil,.nil]]⟩⟩] zh zf)⟩
  ·obtain rfl:i=C.length:=by simp at h;omega
   rw [xZ] at kq;have iU:A=[]:=kq.symm;rw [if_pos iU] at hv;subst hv;refine zb ?_;refine FW.ret ⟨.inl rfl,.sh (.cons (yD rfl rfl rfl rfl rfl rfl zd) (.cons (.tmp 9 rfl rfl) .nil)) ?_ rfl⟩;rfl
end
def D4 (p:Nat→Bool) (i:Nat):Nat→Nat
 | 0 => 0
 | j+1 => (if p (64 * i+j)=true then 2 ^ j else 0)+D4 p i j
def u6 (p:Nat→Bool) (i:Nat):Nat:=D4 p i 64
def Xb (n:Nat):Nat:=(n+63) / 64
def XE (n:Nat) (p:Nat→Bool):List Nat:=(List.range (Xb n)).map (u6 p)
def gb (w:Nat):List FV:=[.int .u64 (w:Int)]
theorem QY (p:Nat→Bool) (i:Nat):∀ j,D4 p i j<2 ^ j
 | 0 => by show 0<1; omega
 | j+1 => by
  have:=QY p i j;show (if p (64 * i+j)=true then 2 ^ j else 0)+D4 p i j<2 ^ (j+1);rw [Nat.pow_succ];split <;> omega
theorem PT (p:Nat→Bool) (i b:Nat):∀ j,(D4 p i j).testBit b=(decide (b<j) && p (64 * i+b))
 | 0 => by show Nat.testBit 0 b=_; simp
 | j+1=>by
  have ih:=PT p i b j;have aA:=QY p i j;show ((if p (64 * i+j)=true then 2 ^ j else 0)+D4 p i j).testBit b=_;rcases Yw b j with h|h|h
  ·rw [decide_eq_true (show b<j+1 by omega)];rw [decide_eq_true h] at ih;split
   ·rw [Nat.testBit_two_pow_add_gt h,ih]
   ·rw [yh,ih]
  ·subst h;rw [decide_eq_true (show b<b+1 by omega),yN];rw [decide_eq_false (KF b),Zo] at ih;split
   ·rename_i h;rw [Nat.testBit_two_pow_add_eq,ih,h];rfl
   ·rename_i h;rw [yh,ih];simpa using h
  ·rw [decide_eq_false (show ¬ b<j+1 by omega),Zo];refine Nat.testBit_lt_two_pow ?_;have h2:2 ^ (j+1)≤2 ^ b:=Nat.pow_le_pow_right za za;rw [Nat.pow_succ] at h2;split <;> omega
theorem UT (p:Nat→Bool) (i:Nat):u6 p i<18446744073709551616:=QY p i 64
theorem US (p:Nat→Bool) (i:Nat) (h:b<64):(u6 p i).testBit b=p (64 * i+b):=by
 unfold u6;rw [PT,decide_eq_true h,yN]
theorem Km {w:Nat} (hw:w<18446744073709551616) (h:∀ b,b<64→w.testBit b=p (64 * i+b)):w=u6 p i:=by
 apply Nat.eq_of_testBit_eq;intro b;unfold u6;rw [PT];by_cases hb:b<64
 ·rw [decide_eq_true hb,yN,h b hb]
 ·rw [decide_eq_false hb,Zo];exact Nat.testBit_lt_two_pow (xx (show w<2 ^ 64 from hw) (Nat.pow_le_pow_right za (KE hb)))
theorem ZN (n:Nat) (p:Nat→Bool):(XE n p).length=Xb n:=by simp [XE]
theorem XF (p:Nat→Bool) (h:i<Xb n):nth (XE n p) i=u6 p i:=by
 unfold XE;rw [ak (by simpa using h)];simp
theorem Qw (h:b<n):b / 64<Xb n:=by unfold Xb;omega
theorem zqL (n:Nat):XE n (fun _=>false)=List.replicate (Xb n) 0:=by
 refine ya (by simp [ZN]) fun i hi=>?_;rw [ZN] at hi;rw [XF _ hi,ak (show i<(List.replicate (Xb n) 0).length by simpa using hi),List.getElem_replicate];exact (Km za fun b _=>by simp).symm
theorem ztH (p:Nat→Bool) (h:b<n):(XE n p).set (b / 64) (nth (XE n p) (b / 64) ||| 2 ^ (b % 64))=XE n fun x=>p x || decide (x=b):=by
 have hb:=Qw h;refine ya (by simp [ZN]) fun i hi=>?_;rw [yA,ZN] at hi;rw [YH (by rw [ZN];exact hi),XF _ hi,XF _ hi,XF _ hb];have aA:=UT p i;split
 ·rename_i e;subst e;refine Km ?_ fun j hj=>?_
  ·exact Qa (n:=64) aA (Qb za (Xr _ za))
  ·rw [Uu,US _ _ hj,Nat.testBit_two_pow];congr 1;have h2:64 * (b / 64)+b % 64=b:=P9 b 64;exact decide_eq_decide.2 ⟨fun e=>by omega,fun e=>by omega⟩
 ·rename_i e;refine Km aA fun j hj=>?_;rw [US _ _ hj,decide_eq_false (show ¬ 64 * i+j=b from fun e2=>e za),Bool.or_false]
def YZ (A B:List Nat) (k:Nat):List Nat:=(List.range A.length).map fun i=>if i<k then nth A i ||| nth B i else nth A i
theorem YG (A B:List Nat) (k:Nat):(YZ A B k).length=A.length:=by simp [YZ]
theorem XL (h:i<A.length):nth (YZ A B k) i=if i<k then nth A i ||| nth B i else nth A i:=by
 unfold YZ;rw [ak (by simpa using h)];simp
theorem Z7 (A B:List Nat):YZ A B 0=A:=by
 refine ya (YG A B 0) fun i hi=>?_;rw [YG] at hi;rw [XL hi,if_neg za]
theorem Z6 (h:k<A.length):YZ A B (k+1)=(YZ A B k).set k (nth (YZ A B k) k ||| nth B k):=by
 refine ya (by simp [YG]) fun i hi=>?_;rw [YG] at hi;rw [XL hi,YH (by rw [YG];exact hi),XL hi,XL h,if_neg (KF k)];by_cases e:k=i
 ·subst e;rw [if_pos rfl,if_pos za]
 ·rw [if_neg e];by_cases h2:i<k
  ·rw [if_pos h2,if_pos za]
  ·rw [if_neg h2,if_neg za]
theorem zqK (n:Nat) (p q:Nat→Bool):YZ (XE n p) (XE n q) (Xb n)=XE n fun x=>p x || q x:=by
 refine ya (by simp [YG,ZN]) fun i hi=>?_;rw [YG,ZN] at hi;rw [XL (by rw [ZN];exact hi),if_pos hi,XF _ hi,XF _ hi,XF _ hi];refine Km (Qa (n:=64) (UT p i) (UT q i)) fun j hj=>?_;rw [Uu,US _ _ hj,US _ _ hj]
theorem zo6:∀ w∈XE n p,w<18446744073709551616:=fun w hw=>by
 obtain ⟨i,_,rfl⟩:=zi.1 hw;exact UT p i
theorem St {z:Nat} (h:z<18446744073709551616):IntKind.u64.wrap (z:Int)=z:=by
 show (z:Int) % (2 ^ 64:Int)=z;have h64:(2:Int) ^ 64=18446744073709551616:=by decide
 exact Int.emod_eq_of_lt za za
theorem zxf {w:Nat} (hw:w<18446744073709551616) (hk:k<64):IntKind.u64.wrap ((BitVec.ofInt IntKind.u64.bits ((w:Int).fdiv (2 ^ (min k IntKind.u64.bits))) &&& BitVec.ofInt IntKind.u64.bits 1).toNat:Int)=((if w.testBit k then 1 else 0:Nat):Int):=by
 have hm:min k IntKind.u64.bits=k:=by show min k 64=k;omega
 rw [hm,Int.fdiv_eq_ediv_of_nonneg _ (Int.pow_nonneg zd)];have e1:(w:Int) / 2 ^ k=((w / 2 ^ k:Nat):Int):=by rw [Int.natCast_ediv,Int.natCast_pow];rfl
 rw [e1,Lq,show (1:Int)=((1:Nat):Int) from rfl,Lq,BitVec.toNat_and,Lr,Lr];show IntKind.u64.wrap (((w / 2 ^ k % 2 ^ 64) &&& (1 % 2 ^ 64):Nat):Int)=_;rw [KM (Nat.lt_of_le_of_lt (Nat.div_le_self _ _) hw),show 1 % 2 ^ 64=1 by decide,Nat.and_one_is_mod,St (xx (Xr _ za) za),Nat.testBit_eq_decide_div_mod_eq];congr 1;have:=Xr (w / 2 ^ k) (show 2 > 0 by omega);by_cases h:w / 2 ^ k % 2=1
 ·simp [h]
 ·simp only [h,decide_false];rw [if_neg zd];omega
theorem Pc {a:Nat} (ha:a<18446744073709551616) (hb:b<18446744073709551616):IntKind.u64.wrap ((BitVec.ofInt IntKind.u64.bits (a:Int) ||| BitVec.ofInt IntKind.u64.bits (b:Int)).toNat:Int)=((a ||| b:Nat):Int):=by
 rw [Lq,Lq,BitVec.toNat_or,Lr,Lr];show IntKind.u64.wrap (((a % 2 ^ 64) ||| (b % 2 ^ 64):Nat):Int)=_;rw [KM ha,KM hb,St (Qa (n:=64) ha hb)]
theorem zym (hk:k<64):IntKind.u64.wrap (1 * 2 ^ (min k IntKind.u64.bits))=((2 ^ k:Nat):Int):=by
 have hm:min k IntKind.u64.bits=k:=by show min k 64=k;omega
 rw [hm,Int.one_mul,show (2:Int) ^ k=((2 ^ k:Nat):Int) by rw [Int.natCast_pow];rfl];exact St (Qb za hk)
theorem zoG [Inhabited α] (a:List α) (x:α):nth (a++[x]) a.length=x:=by
 rw [ak zc];simp
section
variable (R:Nat→Nat→Bool) (n:Nat)
def kD (out:List Nat) (b:Nat):Nat:=(List.range n).countP fun a=>R a b && !decide (a∈out)
def sJ (out:List Nat) (a:Nat):Bool:=decide (a∈out) || decide (0<kD R n out a)
def sI (out:List Nat):Nat:=((List.range n).find? fun a=>!sJ R n out a).getD 0
def ZV:Nat→List Nat
 | 0 => []
 | k+1 => ZV k ++ [sI R n (ZV k)]
def Ix:Prop:=∃ f:Nat→Nat,∀ a b,a<n→b<n→R a b=true→f a<f b
end
section
variable {R:Nat→Nat→Bool} {n:Nat}
theorem X9 {a:Nat} {p:Nat→Bool}:∀ {l:List Nat},l.Nodup→a∈l→l.countP p=l.countP (fun x=>p x && !decide (x=a))+if p a=true then 1 else 0
 | x::l,hn,ha=>by
  obtain ⟨h1,h2⟩:=yp.1 hn;rw [Xd,Xd];by_cases e:x=a
  ·subst e;have:l.countP p=l.countP fun y=>p y && !decide (y=x):=List.countP_congr fun y hy=>by
    have:y≠x:=fun e=>h1 (e▸hy);simp [this]
   rw [← this];simp
  ·have hm:a∈l:=by
    rcases zA.1 ha with e2|h
    ·exact absurd e2.symm e
    ·exact h
   rw [X9 h2 hm];simp only [decide_eq_false e,Bool.not_false,Bool.and_true];omega
theorem zob {a:Nat} (ha:a<n) (bl:a∉out):kD R n out b=kD R n (out++[a]) b+if R a b=true then 1 else 0:=by
 unfold kD;rw [X9 (a:=a) Wd (zn.2 ha)];congr 1
 ·refine List.countP_congr fun x _=>?_;simp only [zC,zq,zx,HQ,decide_eq_false_iff_not,not_or];exact ⟨fun h=>⟨h.1.1,h.1.2,h.2⟩,fun h=>⟨⟨h.1,h.2.1⟩,h.2.2⟩⟩
 ·simp [bl]
theorem zri (out:List Nat) (b:Nat):kD R n out b≤n:=by
 unfold kD;exact yc (XS) zc
theorem zoD {f:Nat→Nat} {n:Nat} (h:∃ a,a<n∧p a=true):∃ a,a<n∧p a=true∧∀ b,b<n→p b=true→f a≤f b:=by
 obtain ⟨a,ha,hp⟩:=h;have key:∀ (k:Nat) (a:Nat),f a≤k→a<n→p a=true→∃ a,a<n∧p a=true∧∀ b,b<n→p b=true→f a≤f b:=by
  intro k
  induction k with
  | zero => intro a h0 ha hp; exact ⟨a, ha, hp, fun b _ _ => by omega⟩
  | succ k ih=>
   intro a h0 ha hp;by_cases h:∃ b,b<n∧p b=true∧f b<f a
   ·obtain ⟨b,hb,JN,aA⟩:=h;exact ih b za hb JN
   ·refine ⟨a,ha,hp,fun b hb JN=>?_⟩;rcases yg (f b) (f a) with h2|h2
    ·exact absurd ⟨b,hb,JN,h2⟩ h
    ·exact h2
 exact key (f a) a (zg _) ha hp
theorem zmh (hlen:out.length<n):∃ a,a<n∧a∉out:=by
 refine ZS fun bl=>?_;have cR:∀ a,a<n→a∈out:=fun a ha=>ZS fun h=>bl ⟨a,ha,h⟩;have key:∀ (l m:List Nat),l.Nodup→(∀ x∈l,x∈m)→l.length≤m.length:=by
  intro l
  induction l with
  | nil => intro m _ _; exact zp _
  | cons x l ih =>
   intro m hn hs;obtain ⟨h1,h2⟩:=yp.1 hn;have hx:=hs x zc;have hl:=Yt hx;have bm:0<m.length:=Xp hx;have:=ih (m.erase x) h2 fun y hy=>(YO (fun e:y=x=>h1 (by rw [← e];exact hy))).2 (hs y (by simp [hy]));rw [yS];omega
 have:=key (List.range n) out Wd fun x hx=>cR x (zn.1 hx);rw [YN] at this;omega
theorem R6 (hr:Ix R n) (hlen:out.length<n):sI R n out<n∧sJ R n out (sI R n out)=false∧∀ a,a<sI R n out→sJ R n out a=true:=by
 obtain ⟨f,hf⟩:=hr;obtain ⟨a0,h0,h1⟩:=zmh hlen;obtain ⟨a,ha,hp,gV⟩:=zoD (f:=f) (p:=fun a=>!decide (a∈out)) ⟨a0,h0,by simpa using h1⟩;have hb:sJ R n out a=false:=by
  unfold sJ;have wq : a∉out:=by simpa using hp
  rw [decide_eq_false wq,ZR];refine decide_eq_false fun hc=>?_;unfold kD at hc;obtain ⟨x,hx,OY⟩:=List.countP_pos_iff.1 hc;simp only [zx] at OY;have nX:=zn.1 hx;have h2:=hf x a nX ha OY.1;have h3:=gV x nX OY.2;omega
 unfold sI;cases NC:(List.range n).find? fun a=>!sJ R n out a with
 | none =>
  have:=xq.1 NC a (zn.2 ha);rw [hb] at this;simp at this
 | some z =>
  rw [HX] at NC;obtain ⟨z1,z2,z3⟩:=NC;refine ⟨zn.1 z2,by simpa using z1,fun a ha=>?_⟩;simpa using z3 a ha
theorem YY:∀ k,(ZV R n k).length=k
 | 0 => rfl
 | k+1 => by show (ZV R n k ++ [_]).length=_; rw [zN, YY k]; rfl
theorem ziv {m:Nat} (h:k≤m):(ZV R n m).take k=ZV R n k:=by
 induction m with
 | zero => obtain rfl:k=0:=by omega
           rfl
 | succ m ih=>
  show (ZV R n m++[_]).take k=_;by_cases e:k=m+1
  ·subst e;rw [zS (by rw [zN,YY];exact zg _)];rfl
  ·rw [YS (by rw [YY];omega),ih za]
theorem H7 (hr:Ix R n):∀ {k},k≤n→(ZV R n k).Nodup∧∀ x∈ZV R n k,x<n
 | 0, _ => ⟨Ul, by intro x hx; cases hx⟩
 | k+1,hk=>by
  obtain ⟨h1,h2⟩:=H7 hr (show k≤n by omega);obtain ⟨p1,p2,_⟩:=R6 hr (out:=ZV R n k) (by rw [YY];omega);have bl:sI R n (ZV R n k)∉ZV R n k:=fun h=>by
   unfold sJ at p2;rw [decide_eq_true h] at p2;cases p2
  refine ⟨xX.2 ⟨h1,by simp,fun a ha b hb e=>?_⟩,fun x hx=>?_⟩
  ·rw [zq.1 hb] at e;exact bl (e▸ha)
  ·rcases zC.1 hx with hx|hx
   ·exact h2 x hx
   ·rw [zq.1 hx];exact p1
structure CB (R:Nat→Nat→Bool) (n:Nat) (L:List Nat):Prop where
 len:L.length=n
 nd:L.Nodup
 cW:∀ x∈L,x<n
 ord:∀ i j,i<n→j<n→R (nth L i) (nth L j)=true→i<j
theorem zoi (hr:Ix R n):CB R n (ZV R n n) where
 len:=YY n
 nd:=(H7 hr (zg n)).1
 cW:=(H7 hr (zg n)).2
 ord i j hi hj h:=by
  have hL:=YY (R:=R) (n:=n) n;have dP:=(H7 hr (zg n)).1;have Oz:=(H7 hr (zg n)).2;refine ZS fun dc=>?_;have hxi:nth (ZV R n n) i<n:=Oz _ (zu za);have kS:nth (ZV R n n) j=sI R n (ZV R n j):=by
   have e1:=ziv (R:=R) (n:=n) (show j+1≤n by omega);have:nth (ZV R n (j+1)) j=sI R n (ZV R n j):=by
    have h2:=zoG (ZV R n j) (sI R n (ZV R n j));rw [YY] at h2;exact h2
   rw [← this,← e1,ak za,ak (by rw [zW];omega),Uj]
  obtain ⟨p1,p2,_⟩:=R6 hr (out:=ZV R n j) (by rw [YY];exact hj);rw [← kS] at p2;unfold sJ at p2;rw [Rl] at p2;have hc:kD R n (ZV R n j) (nth (ZV R n n) j)=0:=by
   have:=of_decide_eq_false p2.2;omega
  have hm:nth (ZV R n n) i∈ZV R n j:=by
   refine ZS fun bl=>?_;unfold kD at hc;rw [BV] at hc;have:=hc _ (zn.2 hxi);rw [h,decide_eq_false bl] at this;simp at this
  rw [← ziv (R:=R) (n:=n) (show j≤n by omega)] at hm;obtain ⟨k,hk,e⟩:=P1.1 hm;rw [ak (show i<(ZV R n n).length by omega)] at e;have:=(WI dP).1 e;omega
end
abbrev eQ:=List (Nat×Nat)
def lV (P:eQ) (v k:Nat):List Nat:=((P.take k).filter fun e=>decide (e.1=v)).map fun e=>e.2
def kc (P:eQ) (v:Nat):List Nat:=lV P v P.length
theorem ztZ {P:eQ} {v:Nat} (h:k<P.length):lV P v (k+1)=lV P v k++if v=(nth P k).1 then [(nth P k).2] else []:=by
 unfold lV;rw [xe h,ZT,zF,ak h];congr 1;by_cases hv:P[k].1=v
 ·simp [hv]
 ·have:¬ v=P[k].1:=fun e=>hv e.symm;simp [hv,this]
theorem RS (P:eQ) (v k:Nat):(lV P v k).length≤P.length:=by
 unfold lV;rw [zj];exact yc (xV _ _) (by rw [zW];omega)
theorem HO {P:eQ} {v b:Nat}:b∈kc P v↔(v,b)∈P:=by
 unfold kc lV;rw [yy,zi];constructor
 ·rintro ⟨e,he,rfl⟩;obtain ⟨h1,h2⟩:=zY.1 he;have h2:e.1=v:=by simpa using h2
  rw [← h2];exact h1
 ·intro h;exact ⟨(v,b),zY.2 ⟨h,by simp⟩,rfl⟩
def oS (P:eQ) (V:List Nat) (b:Nat):Nat:=P.countP fun e=>decide (e.2=b) && !decide (e.1∈V)
theorem zxi (P:eQ) (V:List Nat) (b:Nat):oS P V b≤P.length:=XS
theorem R1 {V:List Nat} {v b:Nat} (hv:v∉V):∀ P:eQ,oS P V b=oS P (V++[v]) b+(kc P v).count b
 | [] => rfl
 | e::P=>by
  have ih:=R1 (b:=b) hv P;unfold oS kc lV at *;rw [yy] at ih ⊢;by_cases h2:e.1=v
  ·have e1:List.filter (fun e:Nat×Nat=>decide (e.1=v)) (e::P)=e::List.filter (fun e=>decide (e.1=v)) P:=by simp [h2]
   have e2:decide (e.1∈V)=false:=decide_eq_false (h2▸hv);have e3:decide (e.1∈V++[v])=true:=decide_eq_true (by simp [h2]);rw [Xd,Xd,e1,zZ,List.count_cons,e2,e3,ih];by_cases h1:e.2=b
   ·simp [h1];omega
   ·have h5:(e.2 == b)=false:=by simpa using h1
    simp [h1]
  ·have e1:List.filter (fun e:Nat×Nat=>decide (e.1=v)) (e::P)=List.filter (fun e=>decide (e.1=v)) P:=by simp [h2]
   have e3:decide (e.1∈V++[v])=decide (e.1∈V):=decide_eq_decide.2 (by simp [h2]);rw [Xd,Xd,e1,e3,ih];omega
theorem zos {P:eQ} {V:List Nat} (h:oS P V b=0):∀ e∈P,e.2=b→e.1∈V:=fun e he hb=>by
 unfold oS at h;rw [BV] at h;have:=h e he;rw [hb] at this;simpa using this
structure KR (P:eQ) (n:Nat) (row:List Nat) (W:List Int):Prop where
 len:W.length=n
 nd:row.Nodup
 cW:∀ x∈row,x<n
 mem:∀ b,b<n→(b∈row↔nth W b=0)
 uW:∀ i,i<row.length→∀ e∈P,e.2=nth row i→∃ i',i'<i∧nth row i'=e.1
structure KI (P:eQ) (n k:Nat) (row:List Nat) (W:List Int):Prop where
 r:KR P n row W
 le:k≤row.length
 wt:∀ b,b<n→nth W b=(oS P (row.take k) b:Int)
structure KJ (P:eQ) (n k:Nat) (cX:List Nat) (j:Nat) (row:List Nat) (W:List Int):Prop where
 r:KR P n row W
 pre:∃ ext,row=cX++ext
 wt:∀ b,b<n→nth W b=(oS P (cX.take k) b:Int) - (((kc P (nth cX k)).take j).count b:Int)
section
variable {P:eQ} {n:Nat}
theorem KR.lh (h:KR P n row W):row.length≤n:=by
 refine KE fun aA=>?_;have key:∀ (l m:List Nat),l.Nodup→(∀ x∈l,x∈m)→l.length≤m.length:=by
  intro l
  induction l with
  | nil => intro m _ _; exact zp _
  | cons x l ih =>
   intro m hn hs;obtain ⟨h1,h2⟩:=yp.1 hn;have hx:=hs x zc;have hl:=Yt hx;have bm:0<m.length:=Xp hx;have:=ih (m.erase x) h2 fun y hy=>(YO (fun e:y=x=>h1 (by rw [← e];exact hy))).2 (hs y (by simp [hy]));rw [yS];omega
 have:=key row (List.range n) h.nd fun x hx=>zn.2 (h.cW x hx);rw [YN] at this;omega
theorem KI.start (h:KI P n k row W):KJ P n k row 0 row W where
 r:=h.r
 pre:=⟨[],by simp⟩
 wt b hb:=by rw [h.wt b hb];simp
theorem ziK (hn:row.Nodup) (hk:k<row.length):nth row k∉row.take k:=fun h=>by
 obtain ⟨i,hi,e⟩:=P1.1 h;rw [ak hk] at e;have:=(WI hn).1 e;omega
theorem XW [Inhabited α] {l:List α} (hk:k<l.length):l.take (k+1)=l.take k++[nth l k]:=by rw [xe hk,ak hk]
theorem KJ.stop {cX:List Nat} (hk:k<cX.length) (ja:cX.Nodup) (h:KJ P n k cX (kc P (nth cX k)).length row W):KI P n (k+1) row W where
 r:=h.r
 le:=by obtain ⟨ext,rfl⟩:=h.pre;simp;omega
 wt b hb:=by
  obtain ⟨ext,rfl⟩:=h.pre;rw [h.wt b hb,yy,YS za,XW hk];have:=R1 (P:=P) (b:=b) (ziK ja hk);omega
theorem KJ.step (aP:∀ e∈P,e.1<n∧e.2<n) {k j:Nat} {cX row:List Nat} {W:List Int} (hk:k<cX.length) (ja:cX.Nodup) (h:KJ P n k cX j row W) (hj:j<(kc P (nth cX k)).length) :
  nth (kc P (nth cX k)) j<n∧0<nth W (nth (kc P (nth cX k)) j)∧KJ P n k cX (j+1) (if nth W (nth (kc P (nth cX k)) j) - 1=0 then row++[nth (kc P (nth cX k)) j] else row) (W.set (nth (kc P (nth cX k)) j) (nth W (nth (kc P (nth cX k)) j) - 1)):=by
 have hm:=zu hj;have pM:=XW hj;have kM:=fun b=>R1 (P:=P) (V:=cX.take k) (v:=nth cX k) (b:=b) (ziK ja hk);have hA:=fun b=>@HO P (nth cX k) b;have GQ:=h.wt;obtain ⟨A,Jh⟩:∃ A,kc P (nth cX k)=A:=⟨_,rfl⟩
 rw [Jh] at hj hm pM ⊢;simp only [Jh] at kM hA GQ;obtain ⟨b,hb⟩:∃ b,nth A j=b:=⟨_,rfl⟩
 rw [hb] at hm pM ⊢;have gS:=(aP _ ((hA b).1 hm)).2;have nI:∀ x,(A.take (j+1)).count x=(A.take j).count x+if b=x then 1 else 0:=fun x=>by
  rw [pM,List.count_append];congr 1;by_cases e:b=x
  ·subst e;simp
  ·rw [if_neg e];simp [e]
 have ch:∀ x,(A.take (j+1)).count x≤A.count x:=fun x=>List.Sublist.count_le _ (HC _ _);have bm:0<nth W b:=by
  have h1:=GQ b gS;have h2:=nI b;rw [if_pos rfl] at h2;have h3:=ch b;have h4:=kM b;omega
 have Fj:b∉row:=fun hm=>by
  have:=(h.r.mem b gS).1 hm;omega
 have Jw:∀ x,x<n→nth (W.set b (nth W b - 1)) x=if b=x then nth W b - 1 else nth W x:=fun x hx=>YH (by rw [h.r.len];exact hx)
 have BF : ∀ x,x<n→nth (W.set b (nth W b - 1)) x=(oS P (cX.take k) x:Int) - ((A.take (j+1)).count x:Int):=fun x hx=>by
  rw [Jw x hx,nI];have:=GQ x hx;split
  ·rename_i e;subst e;rw [this];omega
  ·rw [this];omega
 refine ⟨gS,bm,?_⟩;by_cases hz:nth W b - 1=0
 ·rw [if_pos hz];obtain ⟨ext,AX⟩:=h.pre;refine ⟨⟨by rw [yA];exact h.r.len,xX.2 ⟨h.r.nd,by simp,fun x hx y hy e=>?_⟩,fun x hx=>?_,fun x hx=>?_,fun i hi e he oJ=>?_⟩,⟨ext++[b],by rw [AX,yV]⟩,fun x hx=>by rw [Jh];exact BF x hx⟩
  ·rw [zq.1 hy] at e;exact Fj (e▸hx)
  ·rcases zC.1 hx with hx|hx
   ·exact h.r.cW x hx
   ·rw [zq.1 hx];exact gS
  ·rw [Jw x hx,zC,zq];by_cases e:b=x
   ·subst e;rw [if_pos rfl];exact ⟨fun _=>hz,fun _=>.inr rfl⟩
   ·rw [if_neg e,← h.r.mem x hx];exact ⟨fun h=>h.resolve_right (fun e2=>e e2.symm),.inl⟩
  ·rw [zN] at hi;by_cases eZ:i<row.length
   ·have e1:nth (row++[b]) i=nth row i:=by rw [ak zM,ak eZ,DG eZ]
    rw [e1] at oJ;obtain ⟨i',h1,h2⟩:=h.r.uW i eZ e he oJ;exact ⟨i',h1,by rw [ak zM,DG za,← ak za];exact h2⟩
   ·have:i=row.length:=by simp at hi;omega
    subst this;rw [zoG] at oJ;have ni:=BF b gS;rw [Jw b gS,if_pos rfl,hz] at ni;have h3:=kM b;have h4:=ch b;have h5:oS P (cX.take k++[nth cX k]) b=0:=by omega
    rw [← XW hk] at h5;have h6:=zos h5 e he oJ;obtain ⟨i',jU,e'⟩:=P1.1 h6;refine ⟨i',by rw [AX,zN];omega,?_⟩;rw [← e',AX,ak zM,DG zM,DG za]
 ·rw [if_neg hz];refine ⟨⟨by rw [yA];exact h.r.len,h.r.nd,h.r.cW,fun x hx=>?_,h.r.uW⟩,h.pre,fun x hx=>by rw [Jh];exact BF x hx⟩;rw [Jw x hx];by_cases e:b=x
  ·subst e;rw [if_pos rfl];exact ⟨fun h=>absurd h Fj,fun h=>absurd h hz⟩
  ·rw [if_neg e];exact h.r.mem x hx
theorem KI.all (aP:∀ e∈P,e.1<n∧e.2<n) {f:Nat→Nat} (hf:∀ e∈P,f e.1<f e.2) (h:KI P n row.length row W):row.length=n:=by
 refine Nat.le_antisymm h.r.lh (KE fun aA=>?_);obtain ⟨a0,h0,h1⟩:=zmh aA;obtain ⟨a,ha,hp,gV⟩:=zoD (f:=f) (p:=fun a=>!decide (a∈row)) ⟨a0,h0,by simpa using h1⟩;have bl:a∉row:=by simpa using hp
 have hw:=h.wt a ha;rw [yy] at hw;have:oS P row a=0:=by
  unfold oS;rw [BV];intro e he hc;simp only [zx,decide_eq_true_eq] at hc;have h2:=gV e.1 (aP e he).1 hc.2;have h3:=hf e he;rw [hc.1] at h3;omega
 exact bl ((h.r.mem a ha).2 za)
def Ww (P:eQ) (n k:Nat):List Int:=(List.range n).map fun b=>((P.take k).countP fun e=>decide (e.2=b):Nat)
theorem Wn (k:Nat):(Ww P n k).length=n:=by simp [Ww]
theorem Uy (h:b<n):nth (Ww P n k) b=((P.take k).countP fun e=>decide (e.2=b):Nat):=by unfold Ww;rw [ak (by simpa using h)];simp
theorem zps:Ww P n 0=List.replicate n 0:=by
 refine ya (by simp [Wn]) fun i hi=>?_;rw [Wn] at hi;rw [Uy hi,ak (show i<(List.replicate n (0:Int)).length by simpa using hi)];simp
theorem zpr (h:k<P.length):Ww P n (k+1)=(Ww P n k).set (nth P k).2 (nth (Ww P n k) (nth P k).2+1):=by
 refine ya (by simp [Wn]) fun i hi=>?_;rw [Wn] at hi;rw [Uy hi,YH (by rw [Wn];exact hi),XW h,List.countP_append];by_cases e:(nth P k).2=i
 ·rw [if_pos e];subst e;rw [Uy hi];simp
 ·rw [if_neg e,Uy hi];simp [e]
theorem zkW (h:b<n):nth (Ww P n P.length) b=(oS P [] b:Int):=by
 rw [Uy h,yy];unfold oS;simp
def ox (W:List Int) (k:Nat):List Nat:=(List.range k).filter fun b=>decide (nth W b=0)
theorem zth (W:List Int) (k:Nat):ox W (k+1)=ox W k++if nth W k=0 then [k] else []:=by
 unfold ox;rw [yQ,ZT];congr 1;by_cases h:nth W k=0 <;> simp [h]
theorem zu0 (W:List Int) (k:Nat):(ox W k).length≤k:=by unfold ox;exact yc (xV _ _) zc
theorem zu1 {x:Nat}:x∈ox W k↔x<k∧nth W x=0:=by unfold ox;rw [zY,zn];simp
theorem KI.first (aP:∀ e∈P,e.1<n∧e.2<n):KI P n 0 (ox (Ww P n P.length) n) (Ww P n P.length) where
 r :={
  len:=Wn _
  nd:=List.nodup_range.sublist Li
  cW:=fun x hx=>zn.1 (zY.1 hx).1
  mem:=fun b hb=>by
   unfold ox;rw [zY,zn];simp [hb]
  uW:=fun i hi e he oJ=>by
   obtain ⟨iB,h2⟩:=zu1.1 (zu hi);rw [zkW iB] at h2;have:=zos (P:=P) (V:=[]) (b:=nth (ox (Ww P n P.length) n) i) za e he oJ;cases this }
 le:=zp _
 wt b hb:=by rw [zkW hb];rfl
end
inductive vz (P:eQ):Nat→Nat→Prop where
 | one {a b:Nat} (h:(a, b) ∈ P):vz P a b
 | step {a b c:Nat} (h:(a, b) ∈ P) (k:vz P b c):vz P a c
open Classical in
noncomputable def YK (P:eQ) (a b:Nat):Bool:=decide (vz P a b)
open Classical in
theorem XN {P:eQ} {a:Nat}:YK P a b=true↔vz P a b:=by unfold YK;exact decide_eq_true_iff
theorem vz.rel {P:eQ} {R:Nat→Nat→Prop} (h1:∀ e∈P,R e.1 e.2) (ht:∀ a b c,R a b→R b c→R a c) {a:Nat} (h:vz P a b):R a b:=by
 induction h with
 | one h => exact h1 _ h
 | step h k ih => exact ht _ _ _ (h1 _ h) ih
theorem VW {P:eQ} {f:Nat→Nat} (hf:∀ e∈P,f e.1<f e.2):Ix (YK P) n:=⟨f,fun a b _ _ h=>vz.rel (R:=fun a b=>f a<f b) hf (fun _ _ _=>Nat.lt_trans) (XN.1 h)⟩
noncomputable def uR (P:eQ) (bs:List Nat) (x:Nat):Bool:=bs.any fun b=>decide (x=b) || YK P b x
theorem zwg (P:eQ):uR P []=fun _=>false:=rfl
theorem zuS (P:eQ) (bs:List Nat) (b:Nat):uR P (bs++[b])=fun x=>(uR P bs x || decide (x=b)) || YK P b x:=by
 funext x;unfold uR;rw [Dy];simp [Bool.or_assoc]
theorem zwf (P:eQ) (a:Nat):uR P (kc P a)=YK P a:=by
 funext x;rw [VM,XN];unfold uR;rw [Yk];constructor
 ·rintro ⟨b,hb,h⟩;rw [HO] at hb;rw [xB,decide_eq_true_eq] at h;rcases h with rfl|h
  ·exact .one hb
  ·exact .step hb (XN.1 h)
 ·intro h;cases h with
  | one h => exact ⟨x, HO.2 h, by simp⟩
  | step h k => exact ⟨_, HO.2 h, by rw [xB]; exact .inr (XN.2 k)⟩
section
open Go.RowKit
def Ud (v:Nat) (W:List Nat):zE:=⟨v,.own,156,1,W.map gb⟩
theorem zsu {v u:Nat} {res:FV} {o:Nat→zE} {A' : List Nat} (hr:res.cl [5000,5001]=true) (h0:o 5000=Ud v A') (h1:o 5001=Ud u B):VK [(5000,Ud v A),(5001,Ud u B)] [] res o where
 bL k hk _:=by
  simp at hk;rcases hk with rfl|rfl
  ·rw [h0];exact ⟨rfl,rfl,rfl⟩
  ·rw [h1];exact ⟨rfl,rfl,rfl⟩
 new k hk:=by cases hk
 cl k hk:=by
  simp at hk;rcases hk with rfl|rfl
  ·rw [h0];rfl
  ·rw [h1];rfl
 res:=hr
theorem znG (n b:Nat) (p:Nat→Bool) (hb:b<n) (hn:n≤1000000):xA Tryz.prog 84 [.list 1 ((XE n p).map gb),.int .i64 b] .fr (.bool (p b)):=by
 have qD:=ZN n p;have gS:=Qw hb;have hw:=XF p gS;have aA:=UT p (b / 64);have Fi:=US p (b / 64) (Xr b (show 0<64 by omega));rw [P9 b 64] at Fi;have hh:=zxf aA (Xr b (show 0<64 by omega));rw [Fi] at hh;obtain ⟨q,hq⟩:∃ q,(b:Int) / 64=q:=⟨_,rfl⟩
 have ku : q=((b / 64:Nat):Int):=by omega
 obtain ⟨r,hr⟩:∃ r,(b:Int) % 64=r:=⟨_,rfl⟩
 have nU : r=((b % 64:Nat):Int):=by omega
 generalize XE n p=W at qD hw;generalize u6 p (b / 64)=w at hw aA hh;generalize b / 64=i at gS hw ku;refine ym 15 Tryz.func84 Tryz.ntmps84 rfl ?_;change FW _ _ _ ⟨[(0,.list 1 (W.map gb)),(1,.int .i64 b)],[]⟩;refine yW ?_;refine zt.ai (yj rfl) rfl rfl ?_;refine yW ?_;refine zt.ai (zD rfl) rfl rfl ?_;refine zt.ai (zD rfl) rfl rfl ?_;refine zt.ai (Se rfl rfl za) rfl rfl ?_;rw [hq,ku];refine zt.ai (Yc rfl rfl rfl rfl rfl rfl zM) rfl rfl ?_;refine zt.ai (yX rfl rfl rfl zM Vh rfl rfl) rfl rfl ?_;refine zt.ai (zD rfl) rfl rfl ?_;refine zt.ai (Sf rfl rfl za) rfl rfl ?_;rw [hr,nU,hw];refine zt.ai (D3 rfl rfl za) rfl rfl ?_;rw [zK];refine zt.ai (Kv rfl rfl) rfl rfl ?_;rw [hh];refine zb ?_;refine FW.ret ⟨.inl rfl,yt rfl rfl ?_ rfl⟩;refine congrArg FV.bool ?_;cases p b <;> rfl
theorem zmg (n b v:Nat) (p:Nat→Bool) (hb:b<n) (hn:n≤1000000):xN Tryz.prog 59 [.own 5000 v 0 (Xb n),.int .i64 b] [(5000,Ud v (XE n p))] [] (fun res o=>res=.bd []∧o 5000=Ud v (XE n fun x=>p x || decide (x=b))):=by
 have qD:=ZN n p;have gS:=Qw hb;have hw:=XF p gS;have aA:=UT p (b / 64);have kM:=ztH p hb;have nR:=Pc aA (show 2 ^ (b % 64)<18446744073709551616 from Qb za (Xr b (show 0<64 by omega)));have JS:=zym (Xr b (show 0<64 by omega));obtain ⟨q,hq⟩:∃ q,(b:Int) / 64=q:=⟨_,rfl⟩
 have ku : q=((b / 64:Nat):Int):=by omega
 obtain ⟨r,hr⟩:∃ r,(b:Int) % 64=r:=⟨_,rfl⟩
 have nU : r=((b % 64:Nat):Int):=by omega
 rw [hw] at kM;rw [← kM,← qD];rw [← qD] at gS;generalize XE n p=W at gS hw;generalize u6 p (b / 64)=w at hw aA nR;generalize b / 64=i at gS hw ku;generalize 2 ^ (b % 64)=z at nR JS;refine xN.bH (c:=(fP Tryz.prog xp yF 14)) ⟨Tryz.func59,rfl,Tryz.ntmps59,by kernel_rfl⟩ xt ?_ ?_
 ·rintro res o ⟨rfl,h1⟩;exact Vs (v:=v) rfl (by rw [h1] <;> rfl) (by rw [h1] <;> rfl) rfl
 change FW _ _ _ ⟨[(0,.own 5000 v 0 W.length),(1,.int .i64 b)],[(5000,Ud v W)]⟩;unfold Ud;skip;refine FW.draw ?_;refine zR.ai (zD rfl) rfl rfl ?_;refine zR.ai (zD rfl) rfl rfl ?_;refine zR.ai (Se rfl rfl za) rfl rfl ?_;rw [hq,ku];refine zR.ai (yL rfl rfl rfl rfl rfl rfl zd rfl xg) rfl rfl ?_;refine zR.ai (xC rfl rfl rfl rfl rfl xg Vh rfl rfl) rfl rfl ?_;refine zR.ai (zD rfl) rfl rfl ?_;refine zR.ai (Sf rfl rfl za) rfl rfl ?_;rw [hr,nU];refine zxx rfl rfl za rfl rfl ?_;rw [zK,JS,hw];refine zR.ai (zod rfl rfl) rfl rfl ?_;rw [nR];refine zR.ai (yL rfl rfl rfl rfl rfl rfl zd rfl xg) rfl rfl ?_;refine zR.dN (Vn rfl rfl rfl rfl rfl rfl xg Vh rfl rfl) rfl ?_;refine zR.nil ⟨by kernel_rfl,?_⟩;skip;exact ⟨.inr rfl,_,.plain .nil rfl rfl,rfl,by rw [xc];rfl⟩
theorem tD (v u m:Nat) (A B:List Nat) (hA:A.length=m) (hB:B.length=m) (hm:m≤1000000) (Au:∀ w∈A,w<18446744073709551616) (ML:∀ w∈B,w<18446744073709551616):xN Tryz.prog 60 [.own 5000 v 0 m,.own 5001 u 0 m] [(5000,Ud v A),(5001,Ud u B)] [] (fun res o=>res=.bd []∧o 5000=Ud v (YZ A B m)∧o 5001=Ud u B):=by
 refine xN.bH (c:=(fP Tryz.prog xp yF 21)) ⟨Tryz.func60,rfl,Tryz.ntmps60,by kernel_rfl⟩ xt ?_ ?_
 ·rintro res o ⟨rfl,h0,h1⟩;exact zsu rfl h0 h1
 change FW _ _ _ ⟨[(0,.own 5000 v 0 m),(1,.own 5001 u 0 m)],[(5000,Ud v A),(5001,Ud u B)]⟩;unfold Ud;refine FW.post ?_;refine zb ?_;refine FW.loop (fun k:Nat=>⟨[(0,.own 5000 v 0 m),(6,.own 5001 u 0 m),(7,.int .i64 m),(8,.int .i64 k)],[(5000,⟨v,.own,156,1,(YZ A B k).map gb⟩),(5001,⟨u,.own,156,1,B.map gb⟩)]⟩) (fun k=>k≤m) (fun k=>m - k) 0 (zp _) ?_ ?_
 ·rw [Z7];exact (ar.cv [⟨5000,some 5000,v,⟨v,.own,156,1,A.map gb⟩⟩,⟨5001,some 5001,u,⟨u,.own,156,1,B.map gb⟩⟩] zh zf)
 intro k hk;refine zb ?_;refine FW.cond rfl (fun h=>?_) (fun h=>?_)
 ·have aA:k<m:=by simpa using h
  clear h;have rA:=Z6 (A:=A) (B:=B) (show k<A.length by omega);have cN:=YG A B k;have FJ:k<A.length:=by omega
  have NT:k<B.length:=by omega
  have kS:nth (YZ A B k) k=nth A k:=by rw [XL FJ,if_neg (KF k)]
  have nR:=Pc (Au _ (zu FJ)) (ML _ (zu NT));rw [kS] at rA;generalize YZ A B k=J at rA cN kS;obtain ⟨x,hx⟩:∃ x,nth A k=x:=⟨_,rfl⟩
  obtain ⟨y,hy⟩:∃ y,nth B k=y:=⟨_,rfl⟩
  rw [hx] at kS nR rA;rw [hy] at nR rA;refine zb ?_;rw [kS,hy,nR];refine ⟨k+1,by omega,by omega,?_⟩;rw [rA,xc];exact (ar.cv [⟨5000,some 5000,v,⟨v,.own,156,1,(J.map gb).set k (gb (x ||| y))⟩⟩,⟨5001,some 5001,u,⟨u,.own,156,1,B.map gb⟩⟩] zh zf)
 ·obtain rfl:k=m:=by simp at h;omega
  refine zb ?_;refine ⟨⟨[],[(5000,⟨v,.own,156,1,(YZ A B k).map gb⟩),(5001,⟨u,.own,156,1,B.map gb⟩)]⟩,?_,.inr rfl,_,.plain .nil rfl rfl,rfl,rfl,rfl⟩;exact (ar.cv [⟨5000,some 5000,v,⟨v,.own,156,1,(YZ A B k).map gb⟩⟩,⟨5001,some 5001,u,⟨u,.own,156,1,B.map gb⟩⟩] zh xu)
theorem zh1 (v m:Nat) (A B:List Nat) (hA:A.length=m) (hB:B.length=m) (hm:m≤1000000) (Au:∀ w∈A,w<18446744073709551616) (ML:∀ w∈B,w<18446744073709551616):xN Tryz.prog 60 [.own 5000 v 0 m,.list 1 (B.map gb)] [(5000,Ud v A)] [] (fun res o=>res=.bd []∧o 5000=Ud v (YZ A B m)):=by
 refine xN.bH (c:=(fP Tryz.prog xp yF 21)) ⟨Tryz.func60,rfl,Tryz.ntmps60,by kernel_rfl⟩ xt ?_ ?_
 ·rintro res o ⟨rfl,h1⟩;exact Vs (v:=v) rfl (by rw [h1] <;> rfl) (by rw [h1] <;> rfl) rfl
 change FW _ _ _ ⟨[(0,.own 5000 v 0 m),(1,.list 1 (B.map gb))],[(5000,Ud v A)]⟩;unfold Ud;refine FW.post ?_;refine zb ?_;refine FW.loop (fun k:Nat=>⟨[(0,.own 5000 v 0 m),(6,.list 1 (B.map gb)),(7,.int .i64 m),(8,.int .i64 k)],[(5000,⟨v,.own,156,1,(YZ A B k).map gb⟩)]⟩) (fun k=>k≤m) (fun k=>m - k) 0 (zp _) ?_ ?_
 ·rw [Z7];exact (ar.cv [⟨5000,some 5000,v,⟨v,.own,156,1,A.map gb⟩⟩] zh zf)
 intro k hk;refine zb ?_;refine FW.cond rfl (fun h=>?_) (fun h=>?_)
 ·have aA:k<m:=by simpa using h
  clear h;have rA:=Z6 (A:=A) (B:=B) (show k<A.length by omega);have cN:=YG A B k;have FJ:k<A.length:=by omega
  have NT:k<B.length:=by omega
  have kS:nth (YZ A B k) k=nth A k:=by rw [XL FJ,if_neg (KF k)]
  have nR:=Pc (Au _ (zu FJ)) (ML _ (zu NT));rw [kS] at rA;generalize YZ A B k=J at rA cN kS;obtain ⟨x,hx⟩:∃ x,nth A k=x:=⟨_,rfl⟩
  obtain ⟨y,hy⟩:∃ y,nth B k=y:=⟨_,rfl⟩
  rw [hx] at kS nR rA;rw [hy] at nR rA;refine zb ?_;rw [kS,hy,nR];refine ⟨k+1,by omega,by omega,?_⟩;rw [rA,xc];exact (ar.cv [⟨5000,some 5000,v,⟨v,.own,156,1,(J.map gb).set k (gb (x ||| y))⟩⟩] zh zf)
 ·obtain rfl:k=m:=by simp at h;omega
  refine zb ?_;refine ⟨⟨[],[(5000,⟨v,.own,156,1,(YZ A B k).map gb⟩)]⟩,?_,.inr rfl,_,.plain .nil rfl rfl,rfl,rfl⟩;exact (ar.cv [⟨5000,some 5000,v,⟨v,.own,156,1,(YZ A B k).map gb⟩⟩] zh xu)
def setRow (n:Nat) (R:Nat→Nat→Bool) (a:Nat):List FV:=[.list 1 ((XE n (R a)).map gb)]
def Et (n:Nat) (R:Nat→Nat→Bool):List FV:=[.int .i64 n,.list 1 ((List.range n).map (setRow n R))]
def tY (n:Nat) (R:Nat→Nat→Bool):FV:=.ax 2 [Et n R] 0 0
theorem zlP (n:Nat) (R:Nat→Nat→Bool) (a:Int) (hn:n≤1000000):xA Tryz.prog 83 [tY n R,.int .i64 a] .fr (.bool (decide (0≤a∧a<n))):=by
 obtain ⟨q,hq⟩:∃ q,decide (0≤a∧a<(n:Int))=q:=⟨_,rfl⟩
 rw [hq];unfold tY Et;refine ym 15 Tryz.func83 Tryz.ntmps83 rfl ?_;change FW _ _ _ ⟨[(0,.ax 2 [[.int .i64 n,.list 1 ((List.range n).map (setRow n R))]] 0 0),(1,.int .i64 a)],[]⟩;refine zb ?_;refine yR (fun h=>?_) (fun h=>?_)
 ·refine zb ?_;refine FW.ret ⟨.inl rfl,yt rfl rfl ?_ rfl⟩;rw [← hq];have h:0≤a:=by simpa using h
  exact congrArg FV.bool (decide_eq_decide.2 ⟨fun h2=>⟨h,h2⟩,fun h2=>h2.2⟩)
 ·refine zb ?_;refine FW.ret ⟨.inl rfl,yt rfl rfl ?_ rfl⟩;rw [← hq];have h:¬ 0≤a:=by simpa using h
  exact congrArg FV.bool (decide_eq_false fun h2=>h h2.1).symm
theorem ziL (n:Nat) (R:Nat→Nat→Bool) (a b:Nat) (hn:n≤1000000) (ha:a<n) (hb:b<n):xA Tryz.prog 62 [tY n R,.int .i64 a,.int .i64 b] .fr (.bool (R a b)):=by
 have hA:=zlP n R a hn;have hB:=zlP n R b hn;rw [decide_eq_true (show 0≤(a:Int)∧(a:Int)<n by omega)] at hA;rw [decide_eq_true (show 0≤(b:Int)∧(b:Int)<n by omega)] at hB;have hS:=znG n b (R a) hb hn;have hg:((List.range n).map (setRow n R)).getD a []=setRow n R a:=by simp [ha]
 have hgl:((List.range n).map (setRow n R)).length=n:=by simp
 unfold tY Et at hA hB ⊢;refine ym 26 Tryz.func62 Tryz.ntmps62 rfl ?_;generalize (List.range n).map (setRow n R)=S at hA hB hg hgl;change FW _ _ _ ⟨[(0,.ax 2 [[.int .i64 n,.list 1 S]] 0 0),(1,.int .i64 a),(2,.int .i64 b)],[]⟩;refine zb ?_;refine yP hA (by repeat (first|exact zH.nil|refine zH.cons zB ?_)) rfl rfl ?_;refine zb ?_;refine yP hB (by repeat (first|exact zH.nil|refine zH.cons zB ?_)) rfl ⟨_,_,rfl,rfl,rfl⟩ ?_
 (repeat (first|refine zt.ai (zD rfl) rfl rfl ?_|refine zt.ai (H5 rfl rfl) rfl rfl ?_|refine zt.ai (zD rfl) rfl ⟨_,_,rfl,rfl,rfl⟩ ?_|refine zt.ai (wY rfl) rfl ⟨_,_,rfl,rfl,rfl⟩ ?_|refine zt.ai (Xw rfl rfl rfl rfl rfl) rfl ⟨_,_,rfl,rfl,rfl⟩ ?_))
 refine zt.ai (yX rfl rfl rfl (by exact HF) rfl rfl rfl) rfl ⟨_,_,rfl,rfl,rfl⟩ ?_
 (repeat (first|refine zt.ai (zD rfl) rfl ⟨_,_,rfl,rfl,rfl⟩ ?_|refine zt.ai (Yc rfl rfl rfl rfl rfl rfl za) rfl ⟨_,_,rfl,rfl,rfl⟩ ?_))
 refine zt.ai (yX rfl rfl rfl za hg rfl rfl) rfl ⟨_,_,rfl,rfl,rfl⟩ ?_
 (repeat (first|refine zt.ai (zD rfl) rfl ⟨_,_,rfl,rfl,rfl⟩ ?_))
 refine yP hS (by repeat (first|exact zH.nil|refine zH.cons zB ?_)) rfl ⟨_,_,rfl,rfl,rfl⟩ ?_;refine zb ?_;exact FW.ret ⟨.inl rfl,yt rfl rfl rfl rfl⟩
def ke (R:Nat→Nat→Bool) (n a b:Nat):List Int:=(List.range n).map fun j=>(((List.range a).countP fun x=>R x j)+if j<b∧R a j=true then 1 else 0:Nat)
theorem Xf (R:Nat→Nat→Bool) (n a b:Nat):(ke R n a b).length=n:=by simp [ke]
theorem XU {a j:Nat} (h:j<n):nth (ke R n a b) j=(((List.range a).countP fun x=>R x j)+if j<b∧R a j=true then 1 else 0:Nat):=by
 unfold ke;rw [ak (by simpa using h)];simp
theorem zq7 (R:Nat→Nat→Bool) (n:Nat):ke R n 0 0=List.replicate n 0:=by
 refine ya (by simp [Xf]) fun i hi=>?_;rw [Xf] at hi;rw [XU hi,ak (show i<(List.replicate n (0:Int)).length by simpa using hi)];simp
theorem zq6 (R:Nat→Nat→Bool) (n a:Nat):ke R n (a+1) 0=ke R n a n:=by
 refine ya (by simp [Xf]) fun i hi=>?_;rw [Xf] at hi;rw [XU hi,XU hi,yQ,List.countP_append];simp only [Xd,List.countP_nil,hi,true_and];simp
theorem zt2 {a:Nat} (hb:b<n) (h:R a b=true):ke R n a (b+1)=(ke R n a b).set b (nth (ke R n a b) b+1):=by
 refine ya (by simp [Xf]) fun i hi=>?_;rw [Xf] at hi;rw [YH (by rw [Xf];exact hi),XU hi,XU hi,XU hb];by_cases e:b=i
 ·subst e;rw [if_pos rfl,if_pos ⟨by omega,h⟩,if_neg za];omega
 ·rw [if_neg e];by_cases h2:i<b∧R a i=true
  ·rw [if_pos h2,if_pos ⟨by omega,h2.2⟩]
  ·rw [if_neg h2,if_neg (fun h3=>h2 ⟨by omega,h3.2⟩)]
theorem zvK {a:Nat} (h:R a b=false):ke R n a (b+1)=ke R n a b:=by
 refine ya (by simp [Xf]) fun i hi=>?_;rw [Xf] at hi;rw [XU hi,XU hi];by_cases h2:i<b∧R a i=true
 ·rw [if_pos h2,if_pos ⟨by omega,h2.2⟩]
 ·rw [if_neg h2,if_neg (fun h3=>?_)];by_cases e:i=b
  ·subst e;rw [h] at h3;exact absurd h3.2 zd
  ·exact h2 ⟨by omega,h3.2⟩
theorem zvJ {a j:Nat} (h:j<n) (ha:a≤n):0≤nth (ke R n a b) j∧nth (ke R n a b) j≤n+1:=by
 rw [XU h];have:(List.range a).countP (fun x=>R x j)≤a:=yc XS zc;split <;> omega
theorem zpg (n:Nat) (R:Nat→Nat→Bool) (hn:n≤1000000):xA Tryz.prog 61 [tY n R] (.ow 3 1) (.list 1 ((ke R n n 0).map zJ)):=by
 have lD:=fun a b=>ziL n R a b hn;unfold tY Et at lD ⊢;obtain ⟨S,hS⟩:∃ S,(List.range n).map (setRow n R)=S:=⟨_,rfl⟩
 rw [hS] at lD ⊢;refine ym 38 Tryz.func61 Tryz.ntmps61 rfl ?_;change FW _ _ _ ⟨[(0,.ax 2 [[.int .i64 n,.list 1 S]] 0 0)],[]⟩;refine zb ?_;refine FW.loop (fun a:Nat=>⟨[(0,.ax 2 [[.int .i64 n,.list 1 S]] 0 0),(3,.own 100 0 0 n),(14,.int .i64 n),(15,.int .i64 a)],[(100,⟨0,.own,3,1,(ke R n a 0).map zJ⟩)]⟩) (fun a=>a≤n) (fun a=>n - a) 0 (zp _) ?_ ?_
 ·rw [zq7,Wc];exact (ar.cv [⟨100,some 10,0+1,⟨0,.own,3,1,List.replicate n (zJ 0)⟩⟩] zh zf)
 intro a ha;refine zb ?_;refine FW.cond rfl (fun h=>?_) (fun h=>?_)
 ·have aA:a<n:=by simpa using h
  clear h;refine zb ?_;refine FW.loop (fun b:Nat=>⟨[(0,.ax 2 [[.int .i64 n,.list 1 S]] 0 0),(3,.own 100 0 0 n),(4,.int .i64 a),(14,.int .i64 n),(15,.int .i64 a),(21,.int .i64 n),(22,.int .i64 b)],[(100,⟨0,.own,3,1,(ke R n a b).map zJ⟩)]⟩) (fun b=>b≤n) (fun b=>n - b) 0 (zp _) ?_ ?_
  ·exact (ar.cv [⟨100,some 100,0,⟨0,.own,3,1,(ke R n a 0).map zJ⟩⟩] zh zf)
  intro b hb;refine zb ?_;refine FW.cond rfl (fun h=>?_) (fun h=>?_)
  ·have jW:b<n:=by simpa using h
   clear h;have hl:=lD a b aA jW;have hy:=fun h=>zt2 (R:=R) (a:=a) jW h;have bl:=fun h=>zvK (R:=R) (n:=n) (a:=a) (b:=b) h;have ij:=Xf R n a b;have ff:=zvJ (R:=R) (b:=b) jW ha;generalize ke R n a b=Z at hy bl ij ff;obtain ⟨z,hz⟩:∃ z,nth Z b=z:=⟨_,rfl⟩
   rw [hz] at hy ff;refine zb ?_;refine yP hl (by repeat (first|exact zH.nil|refine zH.cons zB ?_)) rfl rfl ?_;refine zb ?_;refine FW.cond rfl (fun h=>?_) (fun h=>?_)
   ·have hy:=hy h;refine zb ?_;rw [hz];skip;refine ⟨b+1,by omega,by omega,?_⟩;rw [hy,xc];exact (ar.cv [⟨100,some 100,0,⟨0,.own,3,1,(Z.map zJ).set b (zJ (z+1))⟩⟩] zh zf)
   ·have bl:=bl h;refine zb ?_;refine ⟨b+1,by omega,by omega,?_⟩;rw [bl];exact (ar.cv [⟨100,some 100,0,⟨0,.own,3,1,Z.map zJ⟩⟩] zh zf)
  ·obtain rfl:b=n:=by simp at h;omega
   refine zb ?_;refine ⟨a+1,by omega,by omega,?_⟩;rw [zq6];exact (ar.cv [⟨100,some 100,0,⟨0,.own,3,1,(ke R b a b).map zJ⟩⟩] zh zf)
 ·obtain rfl:a=n:=by simp at h;omega
  have ij:=Xf R a a 0;refine zb ?_;exact FW.ret ⟨.inl rfl,tF rfl rfl rfl (by rw [zj,ij]) zd rfl (lO.js _)⟩
section
variable {N:Nat} {w0 w:World} {J:JJ} {s:ah} {a:Act} {β:Nat→Option Nat}
def JJ.fN (J:JJ) (D:Nat) (o:Obj):JJ:={ J with h0:=fun b=>if b=D then some o else J.h0 b }
theorem FR.pX (h:FR N w0 J s a w β) {D:Nat} (hK:J.K D) (e9:¬ J.ok D) (hD:w0.heap.size≤D) (o:Obj):FR N w0 (J.fN D o) s a (w.putObj D o) β:=by
 have aN:∀ b,b≠D→(w.putObj D o).heap[b]? = w.heap[b]?:=fun b hb=>World.putObj_heap_other hb;have hI:∀ b,aF J w β s b→aF (J.fN D o) (w.putObj D o) β s b∧(w.putObj D o).heap[b]? = w.heap[b]?:=fun b hb=>
  ⟨⟨by rw [World.putObj_size];exact hb.1,hb.2.1,hb.2.2⟩,aN b fun e=>e9 (e▸hb.2.1)⟩
 have jw:∀ id,(s.ob id).ao≠.dead→∀ b,β id=some b→(w.putObj D o).heap[b]? = w.heap[b]?:=fun id hl b hb=>aN b fun e=>(h.kept D hK).2.1 id hl (e▸hb);have T:∀ v f,VR w (aF J w β s) β s v f→VR (w.putObj D o) (aF (J.fN D o) (w.putObj D o) β s) β s v f:=fun v f hv=>
  hv.mono hI fun id ae _ h1 h2=>⟨h1,h2,rfl,rfl,rfl,fun v o n hv=>hv.mono (jw id h1)⟩
 exact { size:=h.size,defers:=h.defers,bB:=⟨h.bB.os,h.bB.tape,h.bB.output,by rw [World.putObj_size];exact h.bB.size,fun k hk=>(aN k za).trans (h.bB.block k hk)⟩,
         bP:=h.bP,slot:=fun d=>T _ _ (h.slot d),bE:=h.bE,
         obj:=fun id hl=>(h.obj id hl).mono hI (jw id hl) (fun v f hv _=>T v f hv) (fun _=>zg _),inj:=h.inj,
         kept:=fun b hb=>by
          obtain ⟨k1,k2,k3⟩:=h.kept b hb;refine ⟨by rw [World.putObj_size];exact k1,k2,?_⟩;show _=if b=D then some o else J.h0 b
          by_cases e:b=D
          ·subst e;rw [if_pos rfl];exact World.putObj_heap_same k1
          ·rw [if_neg e,aN b e];exact k3
         gh:=fun v f hg=>⟨T v f (h.gh v f hg).1,(h.gh v f hg).2⟩ }
def JJ.lay (J:JJ) (D:Nat) (o:Obj):JJ:={ J with ok:=fun b=>J.ok b∧b≠D,K:=fun b=>J.K b∨b=D,h0:=fun b=>if b=D then some o else J.h0 b }
theorem FR.uO (h:FR N w0 J s a w β) (o:Obj):FR N w0 (J.lay w.heap.size o) s a (w.alloc o) β:=by
 have aA:∀ b,b<w.heap.size→(w.alloc o).heap[b]? = w.heap[b]?:=fun b hb=>Lp w o b hb;have aY:(w.alloc o).heap.size=w.heap.size+1:=Uv ..;have hI:∀ b,aF J w β s b→aF (J.lay w.heap.size o) (w.alloc o) β s b∧(w.alloc o).heap[b]? = w.heap[b]?:=fun b hb=>
  ⟨⟨by rw [aY];have:=hb.1;omega,⟨hb.2.1,by have:=hb.1;omega⟩,hb.2.2⟩,aA b hb.1⟩
 have jw:∀ id,(s.ob id).ao≠.dead→∀ b,β id=some b→(w.alloc o).heap[b]? = w.heap[b]?:=fun id hl b hb=>aA b ((h.obj id hl).lt hb).2;have T:∀ v f,VR w (aF J w β s) β s v f→VR (w.alloc o) (aF (J.lay w.heap.size o) (w.alloc o) β s) β s v f:=fun v f hv=>
  hv.mono hI fun id ae _ h1 h2=>⟨h1,h2,rfl,rfl,rfl,fun v o n hv=>hv.mono (jw id h1)⟩
 exact { size:=h.size,defers:=h.defers,bB:=h.bB.alloc h.bB.size o,
         bP:=fun b hb=>by
          by_cases e:b=w.heap.size
          ·exact .inr (.inr e)
          ·exact (h.bP b hb).imp (fun q=>⟨q,e⟩) .inl
         slot:=fun d=>T _ _ (h.slot d),bE:=h.bE,
         obj:=fun id hl=>(h.obj id hl).mono hI (jw id hl) (fun v f hv _=>T v f hv) (fun _=>zg _),inj:=h.inj,
         kept:=fun b hb=>by
          show _∧_∧_=if b=w.heap.size then some o else J.h0 b
          rcases hb with hb|hb
          ·obtain ⟨k1,k2,k3⟩:=h.kept b hb;exact ⟨by rw [aY];omega,k2,by rw [if_neg za,aA b k1];exact k3⟩
          ·subst hb;refine ⟨by rw [aY];omega,fun id hl e=>?_,by rw [if_pos rfl];exact World.alloc_heap_new w o⟩;have:=((h.obj id hl).lt e).2;omega
         gh:=fun v f hg=>⟨T v f (h.gh v f hg).1,(h.gh v f hg).2⟩ }
theorem FR.BT (h:FR N w0 J s a w β) {a' : Act} (ht:a'.tmps=a.tmps):FR N w0 { J with ds:=a'.defers } s a' w β where
 size:=by rw [ht];exact h.size
 defers:=rfl
 bB:=h.bB
 bP:=h.bP
 slot d:=by rw [ht];exact h.slot d
 bE:=h.bE
 obj:=h.obj
 inj:=h.inj
 kept:=h.kept
 gh:=h.gh
theorem FR.bare (hI:∀ b,I b→b<w.heap.size) (hs:a.tmps.size=N) (hd:a.defers=[]) (h:∀ d,Rd w I (a.tmps.getD d undef) (look .undef t d)) (hn:∀ d,(look .undef t d).hand=none) :
  FR N w { ok:=fun b=>I b∨w.heap.size≤b } ⟨t,[]⟩ a w (fun _=>none) where
 size:=hs
 defers:=hd
 bB:=Zc _ _
 bP b hb:=.inl (.inr hb)
 slot d:=VR.aX ((h d).mono fun b hb=>⟨⟨hI b hb,.inl hb,fun id _=>by simp⟩,rfl⟩) (hn d)
 bE d id ae hf:=(FV.aV (hn d) hf).elim
 obj id hl:=absurd rfl hl
 inj id aL b hl:=absurd rfl hl
 kept b hb:=hb.elim
 gh v f hg:=hg.elim
end
structure zvn (P:Program) (l:Nat) (ys:List (List FV)) (aH:List FV) (lb:List Value) (J:Nat→World→Prop):Prop where
 cap:∀ k W,J k W→∃ I:Nat→Prop,(∀ b,I b→b<W.heap.size)∧aS W I lb aH
 grow:∀ k W W',J k W→Below W.heap.size W W'→J k W'
 round:∀ k W,k<ys.length→J k W→∀ vs I,aS W I vs (ys.getD k [])→∃ fn tmps assign body,(Instr.yield l vs.toArray).run P W=.ok (.round l fn tmps assign body) W∧
  RoundIn Fence.wide 0 P l fn tmps assign body W fun e W'=>e=.returned (.bool true)∧J (k+1) W'
structure zvk (P:Program) (gf:Nat) (aH:List FV) (ys:List (List FV)):Prop where
 go:tX P gf=true
 calls:∀ (l:Nat) (lb:List Value) (J:Nat→World→Prop) (w:World),zvn P l ys aH lb J→J 0 w→CallsIn Fence.wide 0 P gf (#[.func (.yield l) #[] #[]]++lb.toArray) w fun e W'=>(∃ v,e=.returned v)∧J ys.length W'
def GW (c:Ctx) (w0:World) (J:JJ) (code:Code) (QQ:Exit→Act→World→Prop) (s:ah):Prop:=∀ (a:Act) (w:World) (β:Nat→Option Nat),FR c.N w0 J s a w β→code.wp c.P QQ a w
def zx8 (c:Ctx) (w0:World) (J:JJ) (QQ:Exit→Act→World→Prop) (e:Exit) (s:ah):Prop:=∀ (a:Act) (w:World) (β:Nat→Option Nat),FR c.N w0 J s a w β→QQ e a w
section
variable {c:Ctx} {w0:World} {J:JJ} {QQ:Exit→Act→World→Prop} {s:ah}
theorem GW.of (h:FW c code (zx8 c w0 J QQ) s):GW c w0 J code QQ s:=fun a w β hF=>
 wp_mono (Uz c.mixed (h w0 J a w β hF)) fun e a w ⟨s',aJ,q,f⟩=>q a w aJ f
theorem GW.seq {y:Code} (h:FW c x (Mn (GW c w0 J y QQ) (zx8 c w0 J QQ)) s):GW c w0 J (.seq x y) QQ s:=fun a w β hF=>
 wp_seq (wp_mono (Uz c.mixed (h w0 J a w β hF)) fun e a w ⟨s',aJ,q,f⟩=>by
  cases e <;> exact q a w aJ f)
theorem GW.Hh {y:Code} (h:GW c w0 J x (Exit.then (y.wp c.P QQ) QQ) s):GW c w0 J (.seq x y) QQ s:=fun a w β hF=>wp_seq (h a w β hF)
theorem GW.block {id:Nat} (h:GW c w0 J x (Exit.inBlock id QQ) s):GW c w0 J (.block id x) QQ s:=fun a w β hF=>wp_block (h a w β hF)
theorem GW.le {s' : ah} (h:GW c w0 J code QQ s') (hs:ar s s'):GW c w0 J code QQ s:=fun a w β hF=>let ⟨aJ,h1⟩:=hs _ _ _ _ _ _ hF;h a w aJ h1
end
inductive Mk (w0:World) (J:JJ):JJ→Prop where
 | refl:Mk w0 J J
 | mark {J' : JJ} {D:Nat} (hD:w0.heap.size ≤ D) (hK:J'.K D) (h0:J'.h0 D=some (.deferred (some []))) (e9:¬ J'.ok D) (hs:∀ b, J'.ok b → J.ok b) (lB:J'.ds=[{ target := .collected D, args := #[] }]):Mk w0 J J'
def binds:List Nat→List FV→List (Nat×FV)→List (Nat×FV)
 | p :: ps, f :: fs, t => binds ps fs ((p, f) :: t)
 | _, _, t => t
def DX (a:Array Value) (l:List (Nat×Value)):Array Value:=l.foldl (fun t p=>t.setIfInBounds p.1 p.2) a
theorem ziR {d:Nat}:∀ {l:List (Nat×Value)} {a:Array Value},d∉l.map (·.1)→(DX a l).getD d undef=a.getD d undef
 | [], _, _ => rfl
 | p :: l, a, h => by
  show (DX (a.setIfInBounds p.1 p.2) l).getD d undef=_;have Ou:p.1≠d:=fun e=>h (by rw [← e];exact Yu);rw [ziR (fun q=>h (xW _ q)),Xo,Xo,RJ Ou]
theorem FR.Hd {N:Nat} {w0 w:World} {J:JJ} {ob:List (Nat×zE)} {β:Nat→Option Nat}:∀ {ps:List Nat} {vs:List Value} {fs:List FV} {t:List (Nat×FV)} {a:Act},FR N w0 J ⟨t,ob⟩ a w β→(∀ p∈ps,p<N)→vs.length=ps.length→fs.length=ps.length→
  (∀ (j:Nat) u f,vs[j]? = some u→fs[j]? = some f→Rd w (fun _=>False) u f)→(∀ f∈fs,f.hand=none)→FR N w0 J ⟨binds ps fs t,ob⟩ ⟨DX a.tmps (ps.zip vs),a.defers⟩ w β
 | [], vs, fs, t, a, h, _, _, _, _, _ => by unfold binds; exact h
 | p :: ps, [], _, _, _, _, _, hv, _, _, _ => by simp at hv
 | p :: ps, _ :: _, [], _, _, _, _, _, hf, _, _ => by simp at hf
 | p :: ps, v :: vs, f :: fs, t, a, h, hp, hv, hf, hr, hn => by
  have h1:FR N w0 J ⟨(p,f)::t,ob⟩ (a.put (some p) v) w β:=h.put (hp p zc) (VR.aX ((hr 0 v f rfl rfl).mono fun b hb=>hb.elim) (hn f zc)) (fun id ae e=>(FV.aV (hn f zc) e).elim);exact FR.Hd (ps:=ps) (vs:=vs) (fs:=fs) h1 (fun q hq=>hp q (by simp [hq])) (by simpa using hv) (by simpa using hf) (fun j u g hu hg=>hr (j+1) u g (by simpa using hu) (by simpa using hg)) (fun g hg=>hn g (by simp [hg]))
section
variable {c:Ctx} {w0:World} {J:JJ} {QQ:Exit→Act→World→Prop}
theorem GW.range {g:Operand} {ps:List Nat} {assign body:Code} {gf:Nat} {aH:List FV} {ys:List (List FV)} (C8:zvk c.P gf aH ys) (lB:J.ds=[]) (hg:(⟨t,ob⟩:ah).ev g=.fn gf aH)
  (pz:∃ d,g=.tmp d) (hys:∀ y∈ys,y.length=ps.length∧FV.flat.dY y=true) (Bq:∀ p∈ps,p<c.N) (inv:Nat→List (Nat×zE)) (h0:ar ⟨t,ob⟩ ⟨t,inv 0⟩)
  (oL:∀ d,look FV.undef t d≠.undef→jN assign d=true∧jN body d=true∧d∉ps) (hta:sT assign=true) (wF:sT body=true)
  (round:∀ k,k<ys.length→FW c assign (fun e s1=>e=.normal∧FW c body (fun e s'=>e=.normal∧ar s' ⟨t,inv (k+1)⟩) s1) ⟨binds ps (ys.getD k []) t,inv k⟩)
  (done:∀ J',Mk w0 J J'→∀ (a:Act) (w:World) (β:Nat→Option Nat),FR c.N w0 J' ⟨t,inv ys.length⟩ a w β→QQ .normal a w) :
  GW c w0 J (.rangeFunc g ps.toArray assign body) QQ ⟨t,ob⟩:=by
 intro a w β hF;obtain ⟨β,hF⟩:=h0 _ _ _ _ _ _ hF;have vL:a.defers=[]:=hF.defers.trans lB;obtain ⟨dg,rfl⟩:=pz;have Bc:(⟨t,inv 0⟩:ah).ev (.tmp dg)=.fn gf aH:=hg;obtain ⟨lb,Db⟩:∃ lb:List Value,a.eval (.tmp dg)=.func (.func gf) #[] lb.toArray:=by
  have hv:=VR.rd (by have:=hF.ev (.tmp dg);rwa [Bc] at this) rfl;generalize a.eval (.tmp dg)=v at hv;cases hv with
  | fn f us fs im iq => exact ⟨us, rfl⟩
 have Bt:∀ {J' : JJ} {aM : List (Nat×zE)} {a' : Act} {w' : World} {aJ : Nat→Option Nat},a'.tmps=a.tmps→FR c.N w0 J' ⟨t,aM⟩ a' w' aJ→aS w' (aF J' w' aJ ⟨t,aM⟩) lb aH:=by
  intro J' aM a' w' aJ ht eW;have hv:=VR.rd (by have:=eW.ev (.tmp dg);rwa [show (⟨t,aM⟩:ah).ev (.tmp dg)=.fn gf aH from hg] at this) rfl;rw [show a'.eval (.tmp dg)=a.eval (.tmp dg) by show a'.tmps.getD dg undef=a.tmps.getD dg undef;rw [ht],Db] at hv;generalize he:Value.func (.func gf) #[] lb.toArray=v at hv;cases hv with
  | fn f us fs im iq =>
   injection he with _ _ he
   have he:lb=us:=by have:=congrArg Array.toList he;simpa using this
   subst he;exact ⟨im,iq⟩
 refine wpIn_wide.1 (wpIn_rangeFunc (n:=0) ?_);intro fn _;obtain ⟨rec,fM⟩:∃ rec:LoopState→Option Code→Loop,rec=fun st pe=>{ state:=st,pending:=pe,fn,tmps:=a.tmps,params:=ps.toArray,assign,body,defers:=w.heap.size }:=⟨_,rfl⟩
 obtain ⟨D,hD⟩:∃ D,w.heap.size=D:=⟨_,rfl⟩
 obtain ⟨L,hL⟩:∃ L,w.heap.size+1=L:=⟨_,rfl⟩
 have MM:D≠L:=by omega
 have hD0:w0.heap.size≤D:=by have:=hF.bB.size;omega
 have MX:w0.heap.size≤L:=by omega
 have eE:=(hF.uO (.deferred (some []))).uO (.loop (rec .ready none));rw [Uv,hL,hD] at eE;obtain ⟨J1,Ay⟩:∃ J1,(J.lay D (.deferred (some []))).lay L (.loop (rec .ready none))=J1:=⟨_,rfl⟩
 rw [Ay] at eE;have O2:J1.ds=[]:=by rw [← Ay];exact lB
 have wK:J1.K D∧J1.K L:=by rw [← Ay];exact ⟨.inl (.inr rfl),.inr rfl⟩
 have uN:¬ J1.ok D∧¬ J1.ok L:=by rw [← Ay];exact ⟨fun h=>h.1.2 rfl,fun h=>h.2 rfl⟩
 have j1s:∀ b,J1.ok b→J.ok b:=fun b hb=>by rw [← Ay] at hb;exact hb.1.1
 have j1D:J1.h0 D=some (.deferred (some [])):=by
  rw [← Ay];show (if D=L then _ else if D=D then _ else _)=_;rw [if_neg MM,if_pos rfl]
 let Jr:=J1.fN L (.loop (rec .ready none))
 let Jb:=J1.fN L (.loop { rec .ready none with state:=.busy })
 have wG:∀ (o o' : Obj),(J1.fN L o).fN L o'=J1.fN L o':=fun o o'=>by
  unfold JJ.fN;congr 1;funext b;dsimp only;by_cases e:b=L <;> simp [e]
 have hJr:J1=Jr:=by
  have hh:∀ b,J1.h0 b=if b=L then some (.loop (rec .ready none)) else J1.h0 b:=fun b=>by
   by_cases e:b=L
   ·subst e;rw [if_pos rfl,← Ay];exact if_pos rfl
   ·rw [if_neg e]
  exact congrArg (fun f=>{ J1 with h0:=f }) (funext hh)
 have Jg:∀ o,(J1.fN L o).h0 L=some o:=fun o=>by show (if L=L then some o else _)=_;rw [if_pos rfl]
 let Inv:Nat→World→Prop:=fun k W=>∃ β,FR c.N w0 Jr ⟨t,inv k⟩ ⟨a.tmps,[]⟩ W β
 have EV:Inv 0 ((w.alloc (.deferred (some []))).alloc (.loop (rec .ready none))):=⟨β,by rw [← hJr];exact vL▸eE⟩
 have um:zvn c.P L ys aH lb Inv:=by
  refine ⟨fun k W ⟨β,hf⟩=>⟨_,fun b hb=>hb.1,Bt (a':=⟨a.tmps,[]⟩) rfl hf⟩,fun k W W' ⟨β,hf⟩ hb=>⟨β,hf.grow hb⟩,?_⟩;rintro k W hk ⟨β,hf⟩ vs I dR;have hyk:ys.getD k []∈ys:=by rw [yz,xz hk,Zy];exact xH hk
  obtain ⟨JZ,U7⟩:=hys _ hyk;have mH:vs.length=ps.length:=dR.1.trans JZ;have Gt:W.heap[L]? = some (.loop (rec .ready none)):=((hf.kept L wK.2).2.2).trans (Jg _);have hy:=run_yield (P:=c.P) (args:=vs.toArray) Gt (by rw [fM];simpa using mH);have O1:((rec .ready none).params.zip vs.toArray).foldl (fun tmps (t,a)=>tmps.setIfInBounds t a) (rec .ready none).tmps=DX a.tmps (ps.zip vs):=by
   rw [fM];simp [DX]
  rw [O1,show (rec .ready none).fn=fn by rw [fM],show (rec .ready none).assign=assign by rw [fM],show (rec .ready none).body=body by rw [fM]] at hy;refine ⟨fn,_,assign,body,hy,roundIn_of_wpIn trivial ?_⟩;have hfp:=hf.Hd (ps:=ps) (vs:=vs) (fs:=ys.getD k []) Bq mH JZ (fun j u f hu bS=>(dR.2 j u f hu bS).flat (FV.cQ U7 j f bS) _ _) (fun f bS=>by
   obtain ⟨j,hj,rfl⟩:=zU bS;exact FV.kp (FV.cQ U7 j _ (by simp [])))
  have hA:=Xv (round k hk w0 Jr _ W β hfp);refine wpIn_mono (x8 c.mixed hta hA) ?_;rintro e a1 w1 ⟨⟨s1,iK,⟨rfl,hB⟩,qw⟩,dI⟩;have Gs:w1.heap[L]? = some (.loop (rec .ready none)):=((qw.kept L wK.2).2.2).trans (Jg _);refine ⟨_,run_beginRound Gs (by rw [fM]),?_⟩;have TB:=qw.pX (D:=L) wK.2 uN.2 MX (.loop { rec .ready none with state:=.busy });rw [show Jr.fN L (.loop { rec .ready none with state:=.busy })=Jb from wG _ _] at TB;have hBb:=Xv (hB w0 Jb a1 _ iK TB);refine wpIn_mono (x8 c.mixed wF hBb) ?_;rintro e a2 w2 ⟨⟨s2,iL,⟨rfl,hle⟩,mj⟩,gl⟩;have rP:w2.heap[L]? = some (.loop { rec .ready none with state:=.busy }):=((mj.kept L wK.2).2.2).trans (Jg _);obtain ⟨Mu,C5⟩:=hle _ _ _ _ _ _ mj;have C6:=C5.pX (D:=L) wK.2 uN.2 MX (.loop (rec .ready none));rw [show Jb.fN L (.loop (rec .ready none))=Jr from wG _ _] at C6;have eY:=run_endRound (P:=c.P) none rP;refine ⟨_,_,eY,rfl,Mu,?_⟩;have hw:w2.putObj L (.loop { ({ rec .ready none with state:=.busy }:Loop) with state:=if (none:Option Code).isNone then .ready else .done,pending:=none })=w2.putObj L (.loop (rec .ready none)):=by rw [fM];rfl
  rw [hw];refine C6.slots (t2:=t) hf.size (show ([]:List Deferred)=J1.ds from O2.symm) fun d=>?_;have hv:=C6.bE d;refine ⟨?_,hv⟩;by_cases hu:look FV.undef t d=.undef
  ·have:(⟨t,inv (k+1)⟩:ah).get d=.undef:=hu;rw [this];exact VR.aX (.undef _) rfl
  ·obtain ⟨n1,n2,n3⟩:=oL d hu;have e1:=dI d n1;have e2:=gl d n2;have e3:(DX a.tmps (ps.zip vs)).getD d undef=a.tmps.getD d undef:=ziR (by
    rw [List.map_fst_zip za];exact n3)
   have:a2.tmps.getD d undef=a.tmps.getD d undef:=e2.trans (e1.trans e3);have hs:=C6.slot d;rw [this] at hs;exact hs
 refine ⟨L,[{ target:=.collected D,args:=#[] }],(w.alloc (.deferred (some []))).alloc (.loop (rec .ready none)),{ target:=.fn (.func gf) lb.toArray,args:=#[.func (.yield L) #[] #[]] },(w.alloc (.deferred (some []))).alloc (.loop (rec .ready none)),gf,
  #[.func (.yield L) #[] #[]]++lb.toArray,(w.alloc (.deferred (some []))).alloc (.loop (rec .ready none)),?_,?_,fun _ _=>trivial,?_,fun h=>by simp [Fence.wide] at h,?_⟩
 ·have:=run_enterLoop_outer (P:=c.P) (w:=w) fn a.tmps ps.toArray assign body;rw [hL,hD] at this;rw [show Fence.wide.round=none from rfl,this,fM,hD]
 ·simp only [resolve,Db];simp [go_sem,Deferred.ofValue,Act.eval]
 ·have:=xh (P:=c.P) C8.go (#[.func (.yield L) #[] #[]]++lb.toArray) ((w.alloc (.deferred (some []))).alloc (.loop (rec .ready none)));simpa [invoke] using this
 ·refine (C8.calls L lb Inv _ um EV).mono ?_;rintro e W2 ⟨⟨v,rfl⟩,iL,mj⟩;have rP:W2.heap[L]? = some (.loop (rec .ready none)):=((mj.kept L wK.2).2.2).trans (Jg _);refine ⟨none,_,(run_endLoop (P:=c.P) rP (by rw [fM];intro h;cases h)).trans (congrArg (fun x=>Result.ok x _) (show (rec .ready none).pending=none by rw [fM])),?_⟩;have C5:=mj.pX (D:=L) wK.2 uN.2 MX (.loop { rec .ready none with state:=.exhausted });have C6:=C5.BT (a':={ a with defers:=[{ target:=.collected D,args:=#[] }]++a.defers }) rfl;refine done _ ?_ _ _ _ C6;refine .mark (D:=D) hD0 wK.1 ?_ uN.1 j1s ?_
  ·show (if D=L then _ else if D=L then _ else J1.h0 D)=_;rw [if_neg MM,if_neg MM];exact j1D
  ·show [{ target:=.collected D,args:=#[] }]++a.defers=_;rw [vL];rfl
end
def zyj (c:Ctx) (fn:Func) (w0:World) (J:JJ) (res:FV):Exit→Act→World→Prop:=fun e a w=>(e=.ret∨e=.normal)∧∃ J' s' aJ,Mk w0 J J'∧(∃ fs,sF c s' fn.results.toList fs∧Eg fs=res)∧FR c.N w0 J' s' a w aJ
theorem xA.sf {f:Nat} {fn:Func} (hf:Mo c f fn code) {res:FV} (hn:∀ f∈args,f.hand=none) (hl:args.length≤c.N) (hh:res.hand=none)
  (h:∀ w0 J,J.ds=[]→GW c w0 J code (zyj c fn w0 J res) (entry args)):xA c.P f args .sh res where
 go:=hf.g
 hand:=hh
 calls w I vs hI hv:=by
  refine callsIn_wide (n:=0).1 (callsIn_of_wp_marks hf.at_ hf.b trivial (wpIn_wide.2 ?_) rfl);rw [hf.n];have hE:=FR.entry (N:=c.N) hI hv hn hl;refine wp_mono (h w _ rfl _ w _ hE) ?_;rintro e a' w' ⟨he,J',s',aJ,hM,⟨fs,jc,mC⟩,hF⟩;have fin:∀ {J' : JJ} {w' : World},(∀ b,J'.ok b→I b∨w.heap.size≤b)→FR c.N w J' s' a' w' aJ→LeavesIn Fence.wide 0 c.P fn a'.tmps (fun e W=>∃ v,e=.returned v∧Below w.heap.size w W∧Cv w W I .sh v res) [] .returning w':=by
   intro J' w' hs hF;obtain ⟨v,h1,h2⟩:=Vx hF fn jc;rw [mC] at h2;refine ⟨v,h1,v,rfl,hF.bB,h2.mono fun b hb=>⟨?_,rfl⟩⟩;rcases hs b hb.2.1 with h|h
   ·exact .inl h
   ·exact .inr ⟨h,hb.1⟩
  have key:LeavesInM Fence.wide 0 c.P fn a'.tmps (fun e W=>∃ v,e=.returned v∧Below w.heap.size w W∧Cv w W I .sh v res) a'.defers .returning w':=by
   cases hM with
   | refl =>
    rw [hF.defers];exact fin (fun b hb=>hb) hF
   | @mark J' D hD hK h0 e9 hs lB =>
    rw [hF.defers.trans lB];have bp:w'.heap[D]? = some (.deferred (some [])):=((hF.kept D hK).2.2).trans h0;exact ⟨(fun h=>by cases h),.inl ⟨D,_,rfl,run_takeDeferred bp,fin (J':=J'.fN D (.deferred none)) (fun b hb=>hs b hb) (hF.pX hK e9 hD (.deferred none))⟩⟩
  rcases he with rfl|rfl
  ·exact key
  ·exact key
section
variable {P:Program} {n:Nat}
theorem zqk {K' G:Act→World→Prop} (h:o.wp P a w K (fc G)) (hK:∀ a w,K a w→K' a w):o.wpIn Fence.wide n P a w K' Q:=by
 refine ⟨fun _ _=>trivial,?_⟩;rw [show Fence.wide.round=none from rfl,Oper.semAt_none];unfold Oper.wp at h;generalize (execOp a.eval o).run P w=r at *;cases r with
 | ok nx w' =>
  cases nx with
  | value v => exact hK _ _ h
  | skip => exact hK _ _ h
  | defer d => exact hK _ _ h
  | enter f args => exact ⟨fun h => by simp [Fence.wide] at h, callsIn_wide.2 (BU h (fun e uX he => by cases e <;> first|exact hK _ _ he|exact he.elim|(obtain ⟨_, _, q⟩ := he; exact q.elim)))⟩
  | row row args => exact ⟨fun h => by simp [Fence.wide] at h, fun c cs _ => let ⟨v, w', r, s⟩ := h c cs; ⟨v, w', hK _ _ r, stepsIn_wide.2 s⟩⟩
  | _ => exact h.elim
 | halt x w' => cases x <;> exact h.elim
theorem Kd {ops:Array Oper} {K:Act→World→Prop} {Q:Exit→Act→World→Prop} {L2:List Oper} (hK:∀ a w,K a w→wpListIn Fence.wide n P ops Q L2 a w):∀ {L:List Oper} {a:Act} {w:World},wpList P ops (fc K) L a w→wpListIn Fence.wide n P ops Q (L++L2) a w
 | [], a, w, hh => hK a w hh
 | o::L,a,w,hh=>by
  unfold wpList at hh;rw [HS];unfold wpListIn;split
  ·rename_i hw;rw [if_pos hw] at hh;rcases hh with hh|hh
   ·exact zqk hh (fun a w q=>Kd hK q)
   ·exact absurd hh.2 (YB _)
  ·rename_i hw;rw [if_neg hw] at hh;exact ⟨fun _ _=>trivial,Kd hK hh⟩
theorem zmo (m:Nat) (h:wpList P ops (fc K) (L.take m) a w) (hK:∀ a w,K a w→wpListIn Fence.wide n P ops Q (L.drop m) a w):wpListIn Fence.wide n P ops Q L a w:=by
 have:=Kd hK h;rwa [YR] at this
theorem VX (h:wpList P ops (fc K) L a w) (hK:∀ a w,K a w→Q .normal a w):wpListIn Fence.wide n P ops Q L a w:=by
 have:=Kd (L2:=[]) (Q:=Q) (n:=n) hK h;rwa [zT] at this
theorem W6 {F:Fence} {rest:List Oper} (hg:o.guard=none) (h:o.wpIn F n P a w (wpListIn F n P ops Q rest) Q):wpListIn F n P ops Q (o::rest) a w:=by
 unfold wpListIn;rw [if_pos (by unfold Region.wanted;rw [hg])];exact h
theorem Ii {W:World} (hI:∀ b,I b→b<W.heap.size) (hs:a.tmps.size=c.N) (hd:a.defers=[]) (h:∀ d,Rd W I (a.tmps.getD d undef) (look .undef t d)) (hn:∀ d,(look .undef t d).hand=none)
  (bg:zt c ops L ⟨t,[]⟩ fun s'=>s'=⟨t',[]⟩) :
  wpList c.P ops (fc fun a' W'=>(Below W.heap.size W W'∧a'.tmps.size=c.N∧a'.defers=[]∧(∀ d k m,look .undef t' d=.int k m→a'.tmps.getD d undef=.int k m)∧∀ d b,look .undef t' d=.bool b→a'.tmps.getD d undef=.bool b)∧∀ k,(L.all fun o=>o.dst != some k)=true→a'.tmps.getD k undef=a.tmps.getD k undef) L a W:=by
 have hF:=FR.bare hI hs hd h hn;refine Xn (fun a' W' q=>⟨?_,q.2⟩) (Kc (bg (fc fun a' W'=>∃ aJ,FR c.N W { ok:=fun b=>I b∨W.heap.size≤b } ⟨t',[]⟩ a' W' aJ) W _ a W _ (fun s a w β hs f=>by subst hs;exact ⟨β,f⟩) hF));obtain ⟨aJ,f⟩:=q.1;refine ⟨f.bB,f.size,f.defers,fun d k m e=>?_,fun d b e=>f.dX (x:=.tmp d) (s:=⟨t',[]⟩) e⟩;exact f.bV (x:=.tmp d) (s:=⟨t',[]⟩) e
end
def Cq (es:List Int):List (List FV):=(List.range es.length).map fun k=>[.int .i64 ((es.length - 1 - k:Nat):Int),.int .i64 (nth es (es.length - 1 - k))]
theorem KT (es:List Int):(Cq es).length=es.length:=by simp [Cq]
theorem znX {es:List Int} (hk:k<es.length):(Cq es).getD k []=[.int .i64 ((es.length - 1 - k:Nat):Int),.int .i64 (nth es (es.length - 1 - k))]:=by
 unfold Cq;rw [yz,ye,Ll hk];rfl
/- Spec Tryz.prog 82 -/
theorem zhC (es:List Int) (hl:es.length≤1000000000):zvk Tryz.prog 82 [.ax 1 [[.list 1 (es.map zJ)]] 0 0] (Cq es) where
 go:=by kernel_rfl
 calls l lb J w hR h0:=by
  obtain ⟨yv,U8⟩:∃ yv:Value,Value.func (.yield l) #[] #[]=yv:=⟨_,rfl⟩
  obtain ⟨v,hv⟩:∃ v,lb=[v]:=by
   obtain ⟨I,_,h1,_⟩:=hR.cap 0 w h0
   match lb,h1 with
   | [v], _ => exact ⟨v, rfl⟩
  subst hv;have dB:∀ k W,J k W→∃ I:Nat→Prop,(∀ b,I b→b<W.heap.size)∧Rd W I v (.ax 1 [[.list 1 (es.map zJ)]] 0 0):=fun k W hW=>let ⟨I,h1,h2⟩:=hR.cap k W hW;⟨I,h1,h2.2 0 v _ rfl rfl⟩
  refine callsIn_of_wp Tryz.func82 rfl trivial ?_ rfl;rw [Tryz.ntmps82,U8];obtain ⟨a0,CX⟩:∃ a0:Act,{ tmps:=#[yv]++[v].toArray++Array.replicate (19 - (#[yv]++[v].toArray).size) undef,defers:=[] }=a0:=⟨_,rfl⟩
  rw [CX];have s0:a0.tmps.size=19:=by rw [← CX];simp
  have d0:a0.defers=[]:=by rw [← CX]
  have y0:a0.tmps.getD 0 undef=yv:=by rw [← CX];simp
  have v0:a0.tmps.getD 1 undef=v:=by rw [← CX];simp
  clear CX;obtain ⟨E,hE⟩:∃ E,FV.ax 1 [[.list 1 (es.map zJ)]] 0 0=E:=⟨_,rfl⟩
  have S5:E.hand=none:=by rw [← hE];rfl
  have Pd:∀ {I:Nat→Prop} {W:World} {a:Act},Rd W I v E→a.tmps.getD 1 undef=v→∀ d,Rd W I (a.tmps.getD d undef) (look .undef [(1,E)] d):=fun hr e d=>by
   match d with
   | 1 => rw [e]; exact hr
   | 0 => exact .undef _
   | d+2 => exact .undef _
  have ja:∀ d,(look .undef [(1,E)] d).hand=none:=fun d=>by
   match d with
   | 1 => exact S5
   | 0 => rfl
   | d+2 => rfl
  have BP:∀ {I:Nat→Prop} {W:World} {a:Act} {m:Int},Rd W I v E→a.tmps.getD 1 undef=v→a.tmps.getD 3 undef=.int .i64 m→∀ d,Rd W I (a.tmps.getD d undef) (look .undef [(1,E),(3,.int .i64 m)] d):=fun hr e e3 d=>by
   match d with
   | 1 => rw [e]; exact hr
   | 0 => exact .undef _
   | 2 => exact .undef _
   | 3 => rw [e3]; exact .int _ _
   | d+4 => exact .undef _
  have JM:∀ {m:Int} (d:Nat),(look .undef [(1,E),(3,.int .i64 m)] d).hand=none:=fun d=>by
   match d with
   | 1 => exact S5
   | 0 => rfl
   | 2 => rfl
   | 3 => rfl
   | d+4 => rfl
  rw [hE] at dB;refine wpIn_seq ?_;refine wpIn_region_lit ?_;obtain ⟨I,hI,hr⟩:=dB 0 w h0;refine VX (Ii (c:=(fP Tryz.prog xp yF 19)) (t':=[(3,.int .i64 ((es.length:Int) - 1)),(6,.int .i64 ((es.length:Int) - 1)),(5,.int .i64 es.length),(4,.list 1 (es.map zJ)),(1,E)]) hI s0 d0 (Pd hr v0) ja ?_) ?_
  ·subst hE;refine Ua ?_;rfl
  rintro a1 w1 ⟨⟨uu,s1,d1,JF,_⟩,dI⟩;have y1:a1.tmps.getD 0 undef=yv:=(dI 0 rfl).trans y0;have v1:a1.tmps.getD 1 undef=v:=(dI 1 rfl).trans v0;have i1:a1.tmps.getD 3 undef=.int .i64 ((es.length:Int) - 1):=JF 3 _ _ rfl;have j1:J 0 w1:=hR.grow 0 w w1 h0 uu;show Code.wpIn _ _ _ _ _ _ _;refine wpIn_block ?_;refine V9 (fun n a W=>∃ k,n=es.length - k∧k≤es.length∧J k W∧a.tmps.size=19∧a.defers=[]∧a.tmps.getD 0 undef=yv∧a.tmps.getD 1 undef=v∧a.tmps.getD 3 undef=.int .i64 ((es.length:Int) - 1 - k)) (es.length - 0)
   ⟨0,rfl,zp _,j1,s1,d1,y1,v1,by rw [i1];simp⟩ ?_
  rintro _ a2 w2 ⟨k,rfl,hk,j2,s2,d2,y2,v2,i2⟩;obtain ⟨m,hm⟩:∃ m:Int,(es.length:Int) - 1 - k=m:=⟨_,rfl⟩
  rw [hm] at i2;refine wpIn_seq ?_;refine wpIn_seq ?_;refine wpIn_region_lit ?_;obtain ⟨I2,MR,fb⟩:=dB k w2 j2;refine VX (Ii (c:=(fP Tryz.prog xp yF 19)) (t':=[(8,.bool (decide (m≥0))),(7,.int .i64 m),(1,E),(3,.int .i64 m)]) MR s2 d2 (BP fb v2 i2) JM ?_) ?_
  ·refine Ua ?_;rfl
  rintro a3 w3 ⟨⟨kN,s3,d3,hi3,Nk⟩,NP⟩;have y3:a3.tmps.getD 0 undef=yv:=(NP 0 rfl).trans y2;have v3:a3.tmps.getD 1 undef=v:=(NP 1 rfl).trans v2;have i3:a3.tmps.getD 3 undef=.int .i64 m:=hi3 3 _ _ rfl;have b3:a3.eval (.tmp 8)=.bool (decide (m≥0)):=Nk 8 _ rfl;have j3:J k w3:=hR.grow k w2 w3 j2 kN;by_cases kV:m≥0
  ·rw [decide_eq_true kV] at b3;refine wpIn_cond_true b3 ?_;refine wpIn_skip ?_;have FP:k<es.length:=by omega
   show Code.wpIn _ _ _ _ _ _ _;refine wpIn_seq ?_;refine wpIn_block ?_;refine wpIn_seq ?_;refine wpIn_region_lit ?_;refine W6 rfl ?_;refine ⟨fun _ _=>trivial,?_⟩;change wpListIn Fence.wide 0 Tryz.prog _ _ _ (a3.put (some 11) (a3.tmps.getD 0 undef)) w3;rw [y3];obtain ⟨a4,h4⟩:∃ a4,a3.put (some 11) yv=a4:=⟨_,rfl⟩
   have Bf:∀ d,d≠11→a4.tmps.getD d undef=a3.tmps.getD d undef:=fun d hd=>by rw [← h4];exact Du (fun e=>hd (by injection e with e;exact e.symm))
   have s4:a4.tmps.size=19:=by rw [← h4];show (a3.tmps.setIfInBounds 11 yv).size=19;rw [Array.size_setIfInBounds];exact s3
   have d4:a4.defers=[]:=by rw [← h4];exact d3
   have y4:a4.tmps.getD 11 undef=yv:=by
    rw [← h4];show (a3.tmps.setIfInBounds 11 yv).getD 11 undef=yv;have:11<a3.tmps.size:=by rw [s3];decide
    simp [this]
   have z4:=(Bf 0 zd).trans y3;have v4:=(Bf 1 zd).trans v3;have i4:=(Bf 3 zd).trans i3;rw [h4];clear h4;obtain ⟨q,hq⟩:∃ q,es.length - 1 - k=q:=⟨_,rfl⟩
   have JP:q<es.length:=by omega
   obtain rfl:m=(q:Int):=by omega
   obtain ⟨I4,hI4,Ox⟩:=dB k w3 j3;refine zmo 5 (Ii (c:=(fP Tryz.prog xp yF 19)) (t':=[(16,.int .i64 (nth es q)),(15,.ax 1 (es.map zJ) q 0),(14,.int .i64 q),(13,.list 1 (es.map zJ)),(12,.int .i64 q),(1,E),(3,.int .i64 q)]) hI4 s4 d4 (BP Ox v4 i4) JM ?_) ?_
   ·subst hE;dsimp only [List.take];refine Ua ?_;rfl
   rintro a5 w5 ⟨⟨AN,s5,d5,NI,_⟩,NQ⟩;have y5:a5.tmps.getD 0 undef=yv:=(NQ 0 rfl).trans z4;have v5:a5.tmps.getD 1 undef=v:=(NQ 1 rfl).trans v4;have f5:a5.tmps.getD 11 undef=yv:=(NQ 11 rfl).trans y4;have i5:a5.tmps.getD 3 undef=.int .i64 q:=NI 3 _ _ rfl;have p5:a5.tmps.getD 12 undef=.int .i64 q:=NI 12 _ _ rfl;have x5:a5.tmps.getD 16 undef=.int .i64 (nth es q):=NI 16 _ _ rfl;have j5:J k w5:=hR.grow k w3 w5 j3 AN;dsimp only [List.drop];refine W6 rfl ?_;obtain ⟨fn,tmps,assign,body,hy,Bv⟩:=hR.round k w5 (by rw [KT];exact FP) j5 [.int .i64 q,.int .i64 (nth es q)] (fun _=>False) (by
    rw [znX FP,hq];exact aS.cons (.int _ _) (aS.cons (.int _ _) .nil))
   refine ⟨fun _ _=>trivial,?_⟩;rw [show Fence.wide.round=none from rfl,Oper.semAt_none];have bg:∀ (ty:TypeId) (pos:String) (af:Array Edge) (g:Option (Nat×Bool)),(execOp a5.eval ⟨some 17,.call { callee:=.value (.tmp 11),args:=#[.tmp 12,.tmp 16],argTypes:=#[3,3] },ty,pos,af,g⟩).run Tryz.prog w5=.ok (.round l fn tmps assign body) w5:=fun ty pos af g=>by
    rw [← hy];have e1:a5.eval (.tmp 11)=.func (.yield l) #[] #[]:=f5.trans U8.symm;have e2:a5.eval (.tmp 12)=.int .i64 q:=p5;have e3:a5.eval (.tmp 16)=.int .i64 (nth es q):=x5;simp [execOp,resolve,e1,e2,e3,Deferred.ofValue,invoke]
   rw [bg,Oper.uponIn_round];refine ⟨fun h=>by simp [Fence.wide] at h,Bv.mono ?_⟩;rintro e w6 ⟨rfl,j6⟩;dsimp only;obtain ⟨a6,h6⟩:∃ a6,a5.put (some 17) (.bool true)=a6:=⟨_,rfl⟩
   have NR:∀ d,d≠17→a6.tmps.getD d undef=a5.tmps.getD d undef:=fun d hd=>by rw [← h6];exact Du (fun e=>hd (by injection e with e;exact e.symm))
   have s6:a6.tmps.size=19:=by rw [← h6];show (a5.tmps.setIfInBounds 17 (.bool true)).size=19;rw [Array.size_setIfInBounds];exact s5
   have d6:a6.defers=[]:=by rw [← h6];exact d5
   have b6:a6.tmps.getD 17 undef=.bool true:=by
    rw [← h6];show (a5.tmps.setIfInBounds 17 (.bool true)).getD 17 undef=.bool true;have:17<a5.tmps.size:=by rw [s5];decide
    simp [this]
   have y6:=(NR 0 zd).trans y5;have v6:=(NR 1 zd).trans v5;have i6:=(NR 3 zd).trans i5;rw [h6];clear h6;refine VX (Ii (c:=(fP Tryz.prog xp yF 19)) (t:=[(17,.bool true)]) (t':=[(18,.bool false),(17,.bool true)]) (I:=fun _=>False) (fun b h=>h.elim) s6 d6 (fun d=>?_) (fun d=>?_) ?_) ?_
   ·by_cases e:d=17
    ·subst e;rw [b6];exact .bool _
    ·rw [zI,if_neg (fun h=>e h.symm)];exact .undef _
   ·by_cases e:d=17
    ·subst e;rfl
    ·rw [zI,if_neg (fun h=>e h.symm)];rfl
   ·refine Ua ?_;rfl
   rintro a7 w7 ⟨⟨Jz,s7,d7,_,Nl⟩,NS⟩;have y7:a7.tmps.getD 0 undef=yv:=(NS 0 rfl).trans y6;have v7:a7.tmps.getD 1 undef=v:=(NS 1 rfl).trans v6;have i7:a7.tmps.getD 3 undef=.int .i64 q:=(NS 3 rfl).trans i6;have b7:a7.eval (.tmp 18)=.bool false:=Nl 18 _ rfl;have j7:J (k+1) w7:=hR.grow (k+1) w6 w7 j6 Jz;show Code.wpIn _ _ _ _ _ _ _;refine wpIn_cond_false b7 ?_;refine wpIn_skip ?_;show Code.wpIn _ _ _ _ _ _ _;refine wpIn_region_lit ?_;obtain ⟨I8,hI8,hr8⟩:=dB (k+1) w7 j7;refine VX (Ii (c:=(fP Tryz.prog xp yF 19)) (t':=[(3,.int .i64 ((q:Int) - 1)),(10,.int .i64 ((q:Int) - 1)),(9,.int .i64 q),(1,E),(3,.int .i64 q)]) hI8 s7 d7 (BP hr8 v7 i7) JM ?_) ?_
   ·refine Ua ?_;rfl
   rintro a8 w8 ⟨⟨Ff,s8,d8,hi8,_⟩,TM⟩;have y8:a8.tmps.getD 0 undef=yv:=(TM 0 rfl).trans y7;have v8:a8.tmps.getD 1 undef=v:=(TM 1 rfl).trans v7;have i8:a8.tmps.getD 3 undef=.int .i64 ((q:Int) - 1):=hi8 3 _ _ rfl;exact ⟨es.length - (k+1),by omega,k+1,rfl,by omega,hR.grow (k+1) w7 w8 j7 Ff,s8,d8,y8,v8,by rw [i8];congr 1;omega⟩
  ·rw [decide_eq_false kV] at b3;refine wpIn_cond_false b3 ?_;refine wpIn_exit ?_;obtain rfl:k=es.length:=by omega
   have pw:bodyPost Tryz.prog Tryz.f82 (fun e W'=>(∃ v,e=Ending.returned v)∧J (Cq es).length W') .normal a3 w3:=by
    refine ⟨d3,.tuple #[],?_,⟨_,rfl⟩,by rw [KT];exact j3⟩;simp [results,Tryz.f82]
   exact pw
theorem aT.MF {B:Nat} (h:B+n≤zm) (hl:aT l):aT (VT B n f++l):=fun p hp=>by
 rcases zC.1 hp with hp|hp
 ·obtain ⟨j,hj,rfl⟩:=zi.1 hp;have:=zn.1 hj;show B+j<zm;omega
 ·exact hl p hp
theorem zlJ {B:Nat} {b:zE} (h:k<B) (hi:i≠k):look {} ((i,b)::(VT B n f++l)) k=look {} l k:=by
 rw [zI,if_neg hi,Yz];have:(VT B n f).any (fun p=>Nat.beq p.1 k)=false:=by
  rw [List.any_eq_false];intro p hp e;obtain ⟨j,hj,rfl⟩:=zi.1 hp;have e:B+j=k:=ZF e;omega
 rw [this];rfl
theorem ziF {k:Nat}:∀ {l:List (Nat×zE)},l.any (fun p=>Nat.beq p.1 k)=false→look {} l k={}
 | [], _ => rfl
 | p :: l, h => by
  obtain ⟨i,b⟩:=p;rw [Dz,Rl] at h;rw [zI,if_neg (fun e=>by rw [e,Up] at h;exact absurd h.1 zd),ziF h.2]
theorem ar.Hl {C:List (Nat×zE)} {N B:Nat}:ar ⟨t,C++(Xk N++VT B 0 f)⟩ ⟨t,C⟩:=by
 refine ar.ext fun k=>?_;rw [Yz];split
 ·rfl
 ·rename_i h;rw [ziF (Rk.2 h),Rg];split
  ·rfl
  ·rw [Ia,if_neg za]
theorem zjv (es:List Int) (hl:es.length≤1000000000):xA Tryz.prog 58 [.list 1 (es.map zJ)] .sh (.fn 82 [.ax 1 [[.list 1 (es.map zJ)]] 0 0]):=by
 refine ym 4 Tryz.func58 Tryz.ntmps58 rfl ?_;change FW _ _ _ ⟨[(0,.list 1 (es.map zJ))],[]⟩
 (repeat (first|refine FW.seq ?_|refine FW.region ?_|refine zt.nil ?_|refine LY rfl rfl rfl rfl rfl ?_|refine zt.ai (yj rfl) rfl rfl ?_))
 refine zt.le ?_ (ar.eC 1 rfl rfl)
 (repeat (first|refine zt.nil ?_|refine zt.ai (yj rfl) rfl rfl ?_|refine zt.ai (zik rfl rfl) rfl rfl ?_))
 exact FW.ret ⟨.inl rfl,.sh (.cons (.tmp 2 rfl rfl) .nil) rfl rfl⟩
noncomputable def lu (P:eQ) (n:Nat) (D:List Nat) (j:Nat):FV:=if j∈D then .list 1 ((XE n (YK P j)).map gb) else .nil
def vA (n:Nat) (g:Nat→FV):List (Nat×zE):=[(110,⟨0,.aj,94,1,[[.ptr 111 0 0 0]]⟩),(111,⟨0,.aj,124,2,[[.int .i64 n,.own 112 0 0 n]]⟩),(112,⟨0,.aj,129,1,(List.range n).map fun j=>[g j]⟩)]
theorem ar.pW (hn:n≤1000) {g' : Nat→FV} {i1 v1 i2 v2 i3 v3:Nat} (hg:∀ j,j<n→g j=g' j∧(g j).hand=none) (h1:look {} ob i1=⟨v1,.aj,94,1,[[.ptr i2 v2 0 0]]⟩) (h2:look {} ob i2=⟨v2,.aj,124,2,[[.int .i64 n,.own i3 v3 0 n]]⟩)
  (h3:look {} ob i3=⟨v3,.aj,129,1,(List.range n).map fun j=>[g j]⟩) (dP:[i1,i2,i3].Nodup) (cE:aT ob)
  (ht:m5 t [⟨110,some i1,v1,⟨0,.aj,94,1,[[.ptr 111 0 0 0]]⟩⟩,⟨111,some i2,v2,⟨0,.aj,124,2,[[.int .i64 n,.own 112 0 0 n]]⟩⟩,⟨112,some i3,v3,⟨0,.aj,129,1,(List.range n).map fun j=>[g' j]⟩⟩] t') :
  ar ⟨t,ob⟩ ⟨t',vA n g'⟩:=by
 refine ar.conv [⟨110,some i1,v1,⟨0,.aj,94,1,[[.ptr 111 0 0 0]]⟩⟩,⟨111,some i2,v2,⟨0,.aj,124,2,[[.int .i64 n,.own 112 0 0 n]]⟩⟩,⟨112,some i3,v3,⟨0,.aj,129,1,(List.range n).map fun j=>[g' j]⟩⟩] zc dP (QK (Rb cE) _) (kj.all fun q hq=>?_)
  (.cP h1 (.cons (.ptr (.tail _ (.head _)) rfl) .nil) (.eA h2 (.cons (.cons (.plain rfl rfl) (.cons (.own (.tail _ (.tail _ (.head _))) rfl rfl rfl) .nil)) rfl .nil) (.cP h3 (gp.of fun j hj=>.plain (hg j hj).2 (hg j hj).1) .nil))) ht
 simp at hq;rcases hq with rfl|rfl|rfl
 ·show 110<zm;unfold zm;omega
 ·show 111<zm;unfold zm;omega
 ·show 112<zm;unfold zm;omega
theorem ar.G9 {m a:Nat} (hn:n≤1000) {W:List (List FV)} {i1 v1 i2 v2 i3 v3 i4 v4:Nat} (hg:∀ j,j<n→(g j).hand=none) (h1:look {} ob i1=⟨v1,.aj,94,1,[[.ptr i2 v2 0 0]]⟩) (h2:look {} ob i2=⟨v2,.aj,124,2,[[.int .i64 n,.own i3 v3 0 n]]⟩)
  (h3:look {} ob i3=⟨v3,.aj,129,1,(List.range n).map fun j=>[if j=a then .own i4 v4 0 m else g j]⟩) (h4:look {} ob i4=⟨v4,.own,156,1,W⟩) (dP:[i1,i2,i3,i4].Nodup) (cE:aT ob)
  (ht:m5 t [⟨110,some i1,v1,⟨0,.aj,94,1,[[.ptr 111 0 0 0]]⟩⟩,⟨111,some i2,v2,⟨0,.aj,124,2,[[.int .i64 n,.own 112 0 0 n]]⟩⟩,⟨112,some i3,v3,⟨0,.aj,129,1,(List.range n).map fun j=>[if j=a then .own 113 0 0 m else g j]⟩⟩,⟨113,some i4,v4,⟨0,.own,156,1,W⟩⟩] t') :
  ar ⟨t,ob⟩ ⟨t',[(110,⟨0,.aj,94,1,[[.ptr 111 0 0 0]]⟩),(111,⟨0,.aj,124,2,[[.int .i64 n,.own 112 0 0 n]]⟩),(112,⟨0,.aj,129,1,(List.range n).map fun j=>[if j=a then .own 113 0 0 m else g j]⟩),(113,⟨0,.own,156,1,W⟩)]⟩:=by
 refine ar.conv [⟨110,some i1,v1,⟨0,.aj,94,1,[[.ptr 111 0 0 0]]⟩⟩,⟨111,some i2,v2,⟨0,.aj,124,2,[[.int .i64 n,.own 112 0 0 n]]⟩⟩,⟨112,some i3,v3,⟨0,.aj,129,1,(List.range n).map fun j=>[if j=a then .own 113 0 0 m else g j]⟩⟩,⟨113,some i4,v4,⟨0,.own,156,1,W⟩⟩] zc dP (QK (Rb cE) _) (kj.all fun q hq=>?_)
  (.cP h1 (.cons (.ptr (.tail _ (.head _)) rfl) .nil) (.eA h2 (.cons (.cons (.plain rfl rfl) (.cons (.own (.tail _ (.tail _ (.head _))) rfl rfl rfl) .nil)) rfl .nil) (.cP h3 (gp.of fun j hj=>?_) (.bL h4 rfl rfl .nil)))) ht
 ·simp at hq;rcases hq with rfl|rfl|rfl|rfl
  ·show 110<zm;unfold zm;omega
  ·show 111<zm;unfold zm;omega
  ·show 112<zm;unfold zm;omega
  ·show 113<zm;unfold zm;omega
 ·split
  ·exact .own (.tail _ (.tail _ (.tail _ (.head _)))) rfl rfl rfl
  ·exact .plain (hg j hj) rfl
theorem Rh (P:eQ) (n:Nat) (D:List Nat) (j:Nat):(lu P n D j).hand=none:=by unfold lu;split <;> rfl
theorem zti {P:eQ} (h:KR P n row W) (cR:row.length=n) (hb:b<n):b∈row:=by
 refine ZS fun bl=>?_;have key:∀ (l m:List Nat),l.Nodup→(∀ x∈l,x∈m)→l.length≤m.length:=by
  intro l
  induction l with
  | nil => intro m _ _; exact zp _
  | cons x l ih =>
   intro m hn hs;obtain ⟨h1,h2⟩:=yp.1 hn;have hx:=hs x zc;have hl:=Yt hx;have bm:0<m.length:=Xp hx;have:=ih (m.erase x) h2 fun y hy=>(YO (fun e:y=x=>h1 (by rw [← e];exact hy))).2 (hs y (by simp [hy]));rw [yS];omega
 have hs:=key row ((List.range n).erase b) h.nd fun x hx=>(YO (fun e:x=b=>bl (by rw [← e];exact hx))).2 (zn.2 (h.cW x hx));rw [Yt (zn.2 hb),YN] at hs;omega
theorem GW.at {w0:World} {J:JJ} {QQ:Exit→Act→World→Prop} {s:ah} {β:Nat→Option Nat} (h:GW c w0 J code QQ s) (hF:FR c.N w0 J s a w β):code.wp c.P QQ a w:=h a w β hF
def qe (P:eQ) (k j:Nat):zE:=⟨0,.own,3,1,(lV P j k).map yx⟩
def vt (P:eQ) (k j:Nat):FV:=.own (1000+j) 0 0 (lV P j k).length
theorem zoF (n:Nat) (P:eQ) (hn:n≤1000) (hP:P.length≤1000000) (aP:∀ e∈P,e.1<n∧e.2<n) (f:Nat→Nat) (hf:∀ e∈P,f e.1<f e.2):xA Tryz.prog 39 [.int .i64 n,.list 2 (P.map bZ)] .sh (.bd [tY n (YK P),.int .i64 0]):=by
 unfold tY Et;refine xA.sf (c:=(fP Tryz.prog xp yF 187)) ⟨Tryz.func39,rfl,Tryz.ntmps39,by kernel_rfl⟩ (by simp [FV.hand]) xt rfl ?_;intro w0 J lB;change GW _ _ _ _ _ ⟨[(0,.int .i64 n),(1,.list 2 (P.map bZ))],[]⟩;refine GW.seq ?_;refine zb ?_;refine GW.le ?_ (ar.eC 2 rfl rfl);refine GW.seq ?_;refine zb ?_;refine FW.oE (congrArg FV.bool (decide_eq_false za)) ?_;refine zb ?_;refine GW.seq ?_;refine zb ?_;refine zt.le ?_ (ar.wR (i:=6) rfl);refine zb ?_;refine GW.seq ?_;refine zb ?_;refine GW.seq ?_;refine zb ?_;refine FW.loop (fun i:Nat=>⟨[(1,.list 2 (P.map bZ)),(2,.ax 1 [[.int .i64 n]] 0 0),(6,.ptr 101 0 0 0),(7,.own 102 0 0 n),(32,.list 2 (P.map bZ)),(33,.int .i64 P.length),(34,.int .i64 i)],[(101,⟨0,.aj,105,1,[[.own 103 0 0 n]]⟩),(102,⟨0,.own,3,1,List.replicate n (zJ 0)⟩),(103,⟨0,.own,22,1,List.replicate n [.nil]⟩)]⟩) (fun i=>i≤P.length) (fun i=>P.length - i) 0 (zp _) ?_ ?_
 ·exact (ar.cv [⟨101,some 6,0+1,⟨0,.aj,105,1,[[.own 103 0 0 n]]⟩⟩,⟨102,some 31,0+1,⟨0,.own,3,1,List.replicate n (zJ 0)⟩⟩,⟨103,some 29,0+1,⟨0,.own,22,1,List.replicate n [.nil]⟩⟩] zh zf)
 ·intro i hi;refine zb ?_;refine FW.cond rfl (fun h=>?_) (fun h=>?_)
  ·have aA:i<P.length:=by simpa using h
   clear h;obtain ⟨⟨a,b⟩,he⟩:∃ e,nth P i=e:=⟨_,rfl⟩
   obtain ⟨ha,hb⟩:=aP (nth P i) (zu aA);rw [he] at ha hb;dsimp only at ha hb;refine zb ?_;rw [he];skip;refine yR (fun h=>?_) (fun h=>?_)
   ·exfalso;have:=of_decide_eq_true h;dsimp only at this;omega
   refine zb ?_;refine FW.cond rfl (fun h2=>?_) (fun h2=>?_)
   ·exfalso;have:=of_decide_eq_true h2;dsimp only at this;omega
   refine zb ?_;exact ⟨i+1,by omega,by omega,(ar.cv [⟨101,some 101,0,⟨0,.aj,105,1,[[.own 103 0 0 n]]⟩⟩,⟨102,some 102,0,⟨0,.own,3,1,List.replicate n (zJ 0)⟩⟩,⟨103,some 103,0,⟨0,.own,22,1,List.replicate n [.nil]⟩⟩] zh zf)⟩
  ·obtain rfl:i=P.length:=by simp at h;omega
   clear h hi;refine zb ?_;refine GW.seq ?_;refine zb ?_;refine FW.loop (fun k:Nat=>⟨[(2,.ax 1 [[.int .i64 n]] 0 0),(6,.ptr 101 0 0 0),(7,.own 102 0 0 n),(54,.list 2 (P.map bZ)),(55,.int .i64 P.length),(56,.int .i64 k)],[(101,⟨0,.aj,105,1,[[.own 100 0 0 n]]⟩),(102,⟨0,.own,3,1,(Ww P n k).map zJ⟩),(100,⟨0,.aj,22,1,(List.range n).map fun j=>[vt P k j]⟩)]++(Xk 200++VT 1000 n (qe P k))⟩) (fun k=>k≤P.length) (fun k=>P.length - k) 0 (zp _) ?_ ?_
   ·rw [show List.replicate n (zJ 0)=(Ww P n 0).map zJ by rw [zps,Wc],KU n [FV.nil]];exact (ar.wR (i:=103) rfl).trans (ar.jr [⟨101,some 101,0,⟨0,.aj,105,1,[[.own 100 0 0 n]]⟩⟩,⟨102,some 102,0,⟨0,.own,3,1,(Ww P n 0).map zJ⟩⟩,⟨100,some 103,0,⟨0,.aj,22,1,(List.range n).map fun j=>[vt P 0 j]⟩⟩] 1000 n (qe P 0) rfl (by unfold zm;omega) rfl zc zc (by repeat (first|exact aT.nil|exact aT.dH rfl (by unfold zm;omega)|refine aT.cons rfl ?_))
     (fun j _=>⟨rfl,rfl⟩) (.cP rfl (.cons (.own (.tail _ (.tail _ (.head _))) rfl rfl rfl) .nil) (.bL rfl rfl rfl (.cP rfl (gp.of fun j hj=>.nil (zX _ (xv hj)) rfl) .nil))) zf)
   intro k hk;refine zb ?_;refine FW.cond rfl (fun h=>?_) (fun h=>?_)
   ·have aA:k<P.length:=by simpa using h
    clear h;obtain ⟨⟨a,b⟩,he⟩:∃ e,nth P k=e:=⟨_,rfl⟩
    obtain ⟨ha,hb⟩:=aP (nth P k) (zu aA);have jc:=fun v=>ztZ (P:=P) (v:=v) aA;have rp:=zpr (P:=P) (n:=n) aA;have td:=Wn (P:=P) (n:=n) k;rw [he] at ha hb rp;simp only [he] at jc;dsimp only at ha hb rp;have bK:=RS P a k;refine zb ?_;refine FW.le (s':=⟨[(11,.ptr 11 1 0 0),(2,.ax 1 [[.int .i64 n]] 0 0),(6,.ptr 101 0 0 0),(7,.own 102 0 0 n),(54,.list 2 (P.map bZ)),(55,.int .i64 P.length),(56,.int .i64 k)],[(101,⟨0,.aj,105,1,[[.own 100 0 0 n]]⟩),(102,⟨0,.own,3,1,(Ww P n k).map zJ⟩),(11,⟨1,.own,93,2,[bZ (a,b)]⟩),(100,⟨0,.aj,22,1,(List.range n).map fun j=>[if j=a then .own 150 0 0 (lV P a k).length else vt P k j]⟩),(150,qe P k a)]++(Xk 200++VT 1000 n fun j=>if j=a then ⟨0,.own,3,1,[]⟩ else qe P k j)⟩) ?_ ?_
    ·refine FW.draw ?_;refine zR.ai (Zz rfl rfl rfl rfl rfl) rfl rfl ?_;refine zR.ai (Yf rfl rfl rfl rfl rfl rfl rfl zd Zp) rfl rfl ?_;refine zR.ai (xC rfl rfl rfl rfl rfl Zp rfl rfl rfl) rfl rfl ?_;refine zR.ai (Zz rfl rfl rfl rfl rfl) rfl rfl ?_;refine zR.ai (Yf rfl rfl rfl rfl rfl rfl rfl zd B5) rfl rfl ?_;refine zR.ai (xC rfl rfl rfl rfl rfl B5 rfl rfl rfl) rfl rfl ?_;refine zR.ai (yL rfl rfl rfl rfl rfl rfl zd rfl B5) rfl rfl ?_;refine zR.ai (Zz rfl rfl rfl rfl (xR n a _ ha)) rfl rfl ?_;rw [if_pos rfl];refine zR.ai (Yf rfl rfl rfl rfl rfl rfl rfl zd DN) rfl rfl ?_;refine zR.ai (xC rfl rfl rfl rfl rfl DN rfl rfl rfl) rfl rfl ?_;refine zR.cL (Ye rfl rfl rfl rfl rfl rfl) rfl rfl ?_;refine LX rfl rfl (by first|exact (zj _).symm|rfl|(simp;done)|(simp;omega)) rfl rfl rfl zd (by exact WE.own rfl rfl zd (by first|exact zj _|exact (zj _).symm|exact yT|rfl|(simp;done)|omega|(simp;omega))) DN DN rfl rfl rfl ?_;refine zR.ai (yL rfl rfl rfl rfl rfl rfl zd rfl xg) rfl rfl ?_;refine zR.dN (WR rfl rfl rfl rfl rfl rfl zd xg) rfl ?_;refine zR.nil ⟨by kernel_rfl,?_⟩;have qv:0≤nth (Ww P n k) b∧nth (Ww P n k) b≤P.length:=by
      rw [Uy hb];have:(P.take k).countP (fun e=>decide (e.2=b))≤(P.take k).length:=XS;rw [zW] at this;omega
     generalize Ww P n k=D at rp td qv ⊢;obtain ⟨x,hx⟩:∃ x,nth D b=x:=⟨_,rfl⟩
     rw [hx] at rp qv;refine zb ?_;dsimp only;rw [hx];refine zb ?_;rw [Vw];refine ⟨k+1,by omega,by omega,?_⟩;rw [rp,xc];refine ar.cZ [⟨101,some 101,0,⟨0,.aj,105,1,[[.own 100 0 0 n]]⟩⟩,⟨102,some 102,0,⟨0,.own,3,1,(D.map zJ).set b (zJ (x+1))⟩⟩,⟨100,some 100,0,⟨0,.aj,22,1,(List.range n).map fun j=>[vt P (k+1) j]⟩⟩] 1000 n a (some 71) (fun j=>if j=a then 1 else 0) (qe P (k+1)) rfl (by unfold zm;omega) rfl zc zc zc (by repeat (first|exact aT.nil|exact aT.dH rfl (by unfold zm;omega)|refine aT.cons rfl ?_)) ?_ ?_ ?_
     ·intro j hj;by_cases bF:j=a
      ·subst bF;rw [if_pos rfl,if_pos rfl];refine .inr ⟨71,rfl,?_,rfl⟩;unfold qe;rw [jc,if_pos rfl,zF];rfl
      ·rw [if_neg bF,if_neg bF];refine .inr ⟨_,rfl,(yb (C:=[(102,_),(100,_),(71,_),(150,_),(70,_),(101,_),(102,_),(11,_),(100,_),(150,_)]) rfl zd hj).trans ?_,rfl⟩;rw [if_neg bF];unfold qe;rw [jc,if_neg bF,zT]
     ·refine .cP rfl (.cons (.own (.tail _ (.tail _ (.head _))) rfl rfl rfl) .nil) (.bL rfl rfl rfl (.cP rfl ?_ .nil));rw [show ((List.range n).map fun j=>if j=a then [FV.own 71 (0+1) 0 (List.map yx (lV P a k)++[[FV.int IntKind.i64 ((b:Nat):Int)]]).length] else [if j=a then FV.own 150 0 0 (lV P a k).length else vt P k j])=(List.range n).map fun j=>[if j=a then FV.own 71 1 0 ((lV P a k).length+1) else vt P k j] from yZ fun j _=>by
       by_cases bF:j=a
       ·rw [if_pos bF,if_pos bF,zN,zj];rfl
       ·rw [if_neg bF,if_neg bF,if_neg bF]]
      refine gp.of fun j hj=>?_;have hm:=xv (B:=1000) (s:=fun j=>if j=a then some 71 else some (1000+j)) (vo:=fun j=>if j=a then 1 else 0) (f:=qe P (k+1)) hj;unfold vt;by_cases bF:j=a
      ·subst bF;simp only [if_pos] at hm;rw [if_pos rfl,jc,if_pos rfl];exact .own (zX _ hm) rfl rfl zc
      ·simp only [if_neg bF] at hm;rw [if_neg bF,jc,if_neg bF,zT];exact .own (zX _ hm) rfl rfl rfl
     ·exact zf
    ·refine ar.cZ [⟨101,some 101,0,⟨0,.aj,105,1,[[.own 100 0 0 n]]⟩⟩,⟨102,some 102,0,⟨0,.own,3,1,(Ww P n k).map zJ⟩⟩,⟨11,some 11,1,⟨1,.own,93,2,[bZ (a,b)]⟩⟩,⟨100,some 100,0,⟨0,.aj,22,1,(List.range n).map fun j=>[if j=a then .own 150 0 0 (lV P a k).length else vt P k j]⟩⟩,⟨150,some (1000+a),0,qe P k a⟩] 1000 n a none (fun _=>0) (fun j=>if j=a then ⟨0,.own,3,1,[]⟩ else qe P k j) rfl (by unfold zm;omega) rfl zc B6 B6 (by repeat (first|exact aT.nil|exact aT.dH rfl (by unfold zm;omega)|refine aT.cons rfl ?_)) ?_ ?_ ?_
     ·intro j hj;by_cases bF:j=a
      ·rw [if_pos bF,if_pos bF];exact .inl ⟨rfl,rfl,rfl⟩
      ·rw [if_neg bF,if_neg bF];exact .inr ⟨_,rfl,yb (C:=[(11,_),(11,_),(101,_),(102,_),(100,_)]) rfl zd hj,rfl⟩
     ·refine .cP rfl (.cons (.own (.tail _ (.tail _ (.tail _ (.head _)))) rfl rfl rfl) .nil) (.bL rfl rfl rfl (.bL rfl rfl (by rw [he]) (.cP rfl (gp.of fun j hj=>?_) (.bL (yb (C:=[(11,_),(11,_),(101,_),(102,_),(100,_)]) rfl zd ha) rfl rfl .nil))));by_cases bF:j=a
      ·subst bF;rw [if_pos rfl];exact .own (xm _ (.tail _ (.tail _ (.tail _ (.tail _ (.head _)))))) rfl rfl rfl
      ·rw [if_neg bF];have hm:=xv (B:=1000) (s:=fun j=>if j=a then none else some (1000+j)) (vo:=fun _=>0) (f:=fun j=>if j=a then ⟨0,.own,3,1,[]⟩ else qe P k j) hj;simp only [if_neg bF] at hm;exact .own (zX _ hm) rfl rfl rfl
     ·exact zf
   ·obtain rfl:k=P.length:=by simp at h;omega
    clear h hk;refine zb ?_;refine GW.le ?_ (ar.deep 100 1000 n (w:=0) (E2:=22) (E:=3) (sz:=1) (fun _=>0) (fun j=>(lV P j P.length).map yx) ?_ (fun j hj=>yb (C:=[(101,_),(102,_),(100,_)]) rfl zd hj) zd)
    ·obtain ⟨NX,M3⟩:∃ NX,(List.range n).map (fun j=>[FV.list 1 ((lV P j P.length).map yx)])=NX:=⟨_,rfl⟩
     have M4:NX.length=n:=by rw [← M3];simp
     have E5:∀ v,v<n→NX.getD v []=[.list 1 ((kc P v).map yx)]:=fun v hv=>by rw [← M3];simp [hv];rfl
     rw [M3];refine GW.le (s':=⟨[(2,.ax 1 [[.int .i64 n]] 0 0),(6,.ptr 101 0 0 0),(7,.own 102 0 0 n)],[(101,⟨0,.aj,105,1,[[.own 100 0 0 n]]⟩),(102,⟨0,.own,3,1,(Ww P n P.length).map zJ⟩),(100,⟨0,.own,22,1,NX⟩)]++(Xk 200++VT 1000 0 (qe P 0))⟩) ?_
      (ar.jr [⟨101,some 101,0,⟨0,.aj,105,1,[[.own 100 0 0 n]]⟩⟩,⟨102,some 102,0,⟨0,.own,3,1,(Ww P n P.length).map zJ⟩⟩,⟨100,some 100,0,⟨0,.own,22,1,NX⟩⟩] 1000 0 (qe P 0) rfl zd rfl zc zc (.cons rfl (.MF (by unfold zm;omega) (by repeat (first|exact aT.nil|exact aT.dH rfl (by unfold zm;omega)|refine aT.cons rfl ?_)))) (fun j hj=>by omega)
       (.cP (zlJ (i:=100) zd zd) (.cons (.own (.tail _ (.tail _ (.head _))) rfl rfl rfl) .nil) (.bL (zlJ (i:=100) zd zd) rfl rfl (.bL rfl rfl rfl .nil))) zf)
     refine GW.le ?_ ar.Hl;refine GW.le ?_ (ar.shut (i:=100) rfl);refine GW.le ?_ (ar.q8 101 (j:=0) (o:=0) rfl rfl rfl rfl M4.symm);refine GW.le ?_ (ar.ld 101 rfl rfl);refine GW.le ?_ (ar.eC 6 rfl rfl);refine GW.le (s':=⟨[(2,.ax 1 [[.int .i64 n]] 0 0),(6,.ax 1 [[.list 1 NX]] 0 0),(7,.own 102 0 0 n)],[(102,⟨0,.own,3,1,(Ww P n P.length).map zJ⟩)]⟩) ?_ (ar.cv [⟨102,some 102,0,⟨0,.own,3,1,(Ww P n P.length).map zJ⟩⟩] zh zf);have kL:=KI.first aP;have S3:=Wn (P:=P) (n:=n) P.length;generalize Ww P n P.length=D at kL S3 ⊢;refine GW.seq ?_;refine zb ?_;refine GW.seq ?_;refine zb ?_;refine FW.loop (fun k:Nat=>⟨[(2,.ax 1 [[.int .i64 n]] 0 0),(6,.ax 1 [[.list 1 NX]] 0 0),(7,.own 102 0 0 n),(12,.own 103 0 0 (ox D k).length),(81,.int .i64 n),(82,.int .i64 k)],[(102,⟨0,.own,3,1,(D).map zJ⟩),(103,⟨0,.own,3,1,(ox D k).map yx⟩)]⟩) (fun k=>k≤n) (fun k=>n - k) 0 (zp _) ?_ ?_
     ·show ar _ ⟨[(2,.ax 1 [[.int .i64 n]] 0 0),(6,.ax 1 [[.list 1 NX]] 0 0),(7,.own 102 0 0 n),(12,.own 103 0 0 0),(81,.int .i64 n),(82,.int .i64 0)],[(102,⟨0,.own,3,1,(D).map zJ⟩),(103,⟨0,.own,3,1,(([]:List Nat)).map yx⟩)]⟩;exact (ar.cv [⟨102,some 102,0,⟨0,.own,3,1,(D).map zJ⟩⟩,⟨103,none,0,⟨0,.own,3,1,[]⟩⟩] zh zf)
     ·intro k hk;refine zb ?_;refine FW.cond rfl (fun h=>?_) (fun h=>?_)
      ·have aA:k<n:=by simpa using h
       clear h;have pR:=zth D k;have lH:=zu0 D k;refine zb ?_;refine FW.cond rfl (fun h=>?_) (fun h=>?_)
       ·rw [if_pos (of_decide_eq_true h)] at pR;refine zb ?_;refine ⟨k+1,by omega,by omega,?_⟩;rw [pR,zF];exact (ar.cv [⟨102,some 102,0,⟨0,.own,3,1,(D).map zJ⟩⟩,⟨103,some 93,0+1,⟨0,.own,3,1,(ox D k).map yx++[k].map yx⟩⟩] zh zf)
       ·rw [if_neg (of_decide_eq_false h),zT] at pR;refine zb ?_;refine ⟨k+1,by omega,by omega,?_⟩;rw [pR];exact (ar.cv [⟨102,some 102,0,⟨0,.own,3,1,(D).map zJ⟩⟩,⟨103,some 103,0,⟨0,.own,3,1,(ox D k).map yx⟩⟩] zh zf)
      ·obtain rfl:n=k:=by simp at h;omega
       clear h hk;generalize ox D n=row at kL ⊢;refine zb ?_;refine GW.seq ?_;refine zb ?_;refine FW.loop (fun p:Nat×List Nat×List Int=>⟨[(2,.ax 1 [[.int .i64 n]] 0 0),(6,.ax 1 [[.list 1 NX]] 0 0),(7,.own 102 0 0 n),(12,.own 103 0 0 p.2.1.length),(14,.int .i64 p.1)],[(102,⟨0,.own,3,1,(p.2.2).map zJ⟩),(103,⟨0,.own,3,1,(p.2.1).map yx⟩)]⟩) (fun p=>KI P n p.1 p.2.1 p.2.2) (fun p=>n - p.1) (0,row,D) kL ?_ ?_
       ·exact (ar.cv [⟨102,some 102,0,⟨0,.own,3,1,(D).map zJ⟩⟩,⟨103,some 103,0,⟨0,.own,3,1,row.map yx⟩⟩] zh zf)
       ·rintro ⟨k,row,D⟩ kL;dsimp only at kL ⊢;have S3:=kL.r.len;have bK:=kL.r.lh;have TO:=kL.le;refine zb ?_;refine FW.cond rfl (fun h=>?_) (fun h=>?_)
        ·have aA:k<row.length:=by simpa using h
         clear h;have iu:nth row k<n:=kL.r.cW _ (zu aA);have vJ:=kL.start;have ja:=kL.r.nd;have Bx:=fun j jO W hj h=>KJ.step (P:=P) aP (cX:=row) (j:=j) (row:=jO) (W:=W) aA ja h hj;have rV:=fun jO W h=>KJ.stop (P:=P) (n:=n) (cX:=row) (row:=jO) (W:=W) aA ja h;have CS:=E5 _ iu;have Ji:(kc P (nth row k)).length≤P.length:=RS P _ _;obtain ⟨v,hv⟩:∃ v,nth row k=v:=⟨_,rfl⟩
         rw [hv] at iu CS Bx Ji rV;obtain ⟨A,hA⟩:∃ A,kc P v=A:=⟨_,rfl⟩
         rw [hA] at CS Bx Ji rV;refine zb ?_;refine FW.ko zw ?_;refine yH ?_;rw [hv];skip;refine zR.ai (yX rfl rfl rfl za CS rfl rfl) rfl rfl ?_;refine yH ?_;refine ⟨by kernel_rfl,?_⟩;refine zb ?_;refine FW.loop (fun p:Nat×List Nat×List Int=>⟨[(2,.ax 1 [[.int .i64 n]] 0 0),(6,.ax 1 [[.list 1 NX]] 0 0),(7,.own 102 0 0 n),(12,.own 103 0 0 p.2.1.length),(14,.int .i64 k),(107,.list 1 (A.map yx)),(108,.int .i64 A.length),(109,.int .i64 p.1)],[(102,⟨0,.own,3,1,(p.2.2).map zJ⟩),(103,⟨0,.own,3,1,(p.2.1).map yx⟩)]⟩) (fun p=>p.1≤A.length∧KJ P n k row p.1 p.2.1 p.2.2) (fun p=>A.length - p.1) (0,row,D) ⟨zp _,vJ⟩ ?_ ?_
         ·exact (ar.cv [⟨102,some 102,0,⟨0,.own,3,1,(D).map zJ⟩⟩,⟨103,some 103,0,⟨0,.own,3,1,row.map yx⟩⟩] zh zf)
         rintro ⟨j,jO,W⟩ ⟨hj,vJ⟩;dsimp only at hj vJ ⊢;have Jv:=vJ.r.len;have fb:=vJ.r.lh;refine zb ?_;refine FW.cond rfl (fun h=>?_) (fun h=>?_)
         ·have pE:j<A.length:=by simpa using h
          clear h;obtain ⟨b1,b2,b3⟩:=Bx j jO W pE vJ;obtain ⟨b,hb⟩:∃ b,nth A j=b:=⟨_,rfl⟩
          rw [hb] at b1 b2 b3;have hwu:nth W b≤P.length:=by
           have h1:=vJ.wt b b1;have h2:=zxi P (row.take k) b;omega
          have eN:nth (W.set b (nth W b - 1)) b=nth W b - 1:=by rw [YH za,if_pos rfl]
          obtain ⟨x,hx⟩:∃ x,nth W b=x:=⟨_,rfl⟩
          rw [hx] at b2 b3 hwu eN;refine zb ?_;rw [hb];refine zb ?_;rw [hx];skip;rw [show (W.map zJ).set b ((zJ x).set 0 (.int .i64 (x - 1)))=(W.set b (x - 1)).map zJ by rw [xc];rfl];obtain ⟨Z,hZ⟩:∃ Z,W.set b (x - 1)=Z:=⟨_,rfl⟩
          have Nc:Z.length=n:=by rw [← hZ,yA];exact Jv
          rw [hZ] at eN b3 ⊢;refine zb ?_;rw [eN];skip;refine FW.cond rfl (fun h=>?_) (fun h=>?_)
          ·rw [if_pos (of_decide_eq_true h)] at b3;refine zb ?_;refine ⟨(j+1,jO++[b],Z),⟨pE,b3⟩,by dsimp only;omega,?_⟩;dsimp only;rw [zF,zN];exact (ar.cv [⟨102,some 102,0,⟨0,.own,3,1,(Z).map zJ⟩⟩,⟨103,some 127,0+1,⟨0,.own,3,1,jO.map yx++[b].map yx⟩⟩] zh zf)
          ·rw [if_neg (of_decide_eq_false h)] at b3;refine zb ?_;exact ⟨(j+1,jO,Z),⟨pE,b3⟩,by dsimp only;omega,(ar.cv [⟨102,some 102,0,⟨0,.own,3,1,(Z).map zJ⟩⟩,⟨103,some 103,0,⟨0,.own,3,1,jO.map yx⟩⟩] zh zf)⟩
         ·obtain rfl:j=A.length:=by simp at h;omega
          have MV:=rV jO W vJ;refine zb ?_;exact ⟨(k+1,jO,W),MV,by dsimp only;omega,(ar.cv [⟨102,some 102,0,⟨0,.own,3,1,(W).map zJ⟩⟩,⟨103,some 103,0,⟨0,.own,3,1,jO.map yx⟩⟩] zh zf)⟩
        ·obtain rfl:k=row.length:=by simp at h;omega
         have cR:=kL.all aP hf;have kZ:=kL.r;refine zb ?_;refine GW.seq ?_;refine zb ?_;refine FW.oE (congrArg FV.bool (decide_eq_false za)) ?_;refine zb ?_;obtain ⟨RI,M8⟩:∃ RI:List Int,row.map (fun x:Nat=>(x:Int))=RI:=⟨_,rfl⟩
         have hRf:row.map yx=RI.map zJ:=by rw [← M8,xb];rfl
         have sX:RI.length=n:=by rw [← M8,zj];exact cR
         have hRn:∀ i,i<n→nth RI i=((nth row i:Nat):Int):=fun i hi=>by rw [← M8,ak (by rw [zj];omega),ak za,Xu]
         rw [hRf];refine GW.le ?_ (ar.share 12 rfl rfl (by rw [zj];omega));refine GW.le (s':=⟨[(2,.ax 1 [[.int .i64 n]] 0 0),(6,.ax 1 [[.list 1 NX]] 0 0),(12,.list 1 (RI.map zJ))],[]⟩) ?_ (ar.cv [] xu zf);refine GW.seq ?_;skip;refine FW.draw ?_;refine zR.ai (yX rfl rfl rfl B5 rfl rfl rfl) rfl rfl ?_;refine zR.ai (yX rfl rfl rfl B5 rfl rfl rfl) rfl rfl ?_;refine zR.cL (LP rfl rfl rfl rfl rfl rfl rfl rfl B5 B5 rfl) rfl rfl ?_;refine zsW rfl rfl rfl rfl rfl rfl rfl (.inl rfl) (.inr (.inl ⟨_,_,_,_,rfl,yI rfl zd⟩)) rfl rfl rfl rfl ?_;refine zwh rfl rfl rfl rfl rfl rfl rfl ?_;refine zsV rfl rfl rfl rfl rfl ?_;refine zR.dN (zim rfl rfl rfl rfl rfl rfl zd Zp) rfl ?_;refine zR.nil ⟨by kernel_rfl,?_⟩;refine GW.Hh ?_;refine GW.seq ?_;refine yW ?_;refine zt.ai (zD rfl) rfl rfl ?_;refine Zg (zjv RI za) (by repeat (first|exact zH.nil|refine zH.cons zB ?_)) rfl rfl ?_;refine zt.nil ?_;rw [KU n [FV.nil]];refine GW.le (s':=⟨[(2,.ax 1 [[.int .i64 n]] 0 0),(6,.ax 1 [[.list 1 NX]] 0 0),(17,.ptr 110 0 0 0),(139,.fn 82 [.ax 1 [[.list 1 (RI.map zJ)]] 0 0])],vA n (lu P n (row.drop (n - 0)))⟩) ?_ ?_
         ·refine GW.block ?_;refine GW.range (c:=(fP Tryz.prog xp yF 187)) (ps:=[140,141]) (t:=[(2,.ax 1 [[.int .i64 n]] 0 0),(6,.ax 1 [[.list 1 NX]] 0 0),(17,.ptr 110 0 0 0),(139,.fn 82 [.ax 1 [[.list 1 (RI.map zJ)]] 0 0])]) (inv:=fun k=>vA n (lu P n (row.drop (n - k)))) (zhC RI za) lB rfl ⟨139,rfl⟩ ?_ ?_ (ar.refl _) ?_ zw zw ?_ ?_
          ·intro y hy;unfold Cq at hy;obtain ⟨k,_,rfl⟩:=zi.1 hy;exact ⟨rfl,rfl⟩
          ·intro p hp;simp at hp;rcases hp with rfl|rfl <;> decide
          ·intro d hd;have:d=2∨d=6∨d=17∨d=139:=by
            refine ZS fun bl=>hd ?_;simp only [not_or] at bl;rw [zI,if_neg (fun e=>bl.1 e.symm),zI,if_neg (fun e=>bl.2.1 e.symm),zI,if_neg (fun e=>bl.2.2.1 e.symm),zI,if_neg (fun e=>bl.2.2.2 e.symm)];rfl
           rcases this with rfl|rfl|rfl|rfl <;> exact ⟨by kernel_rfl,by kernel_rfl,by decide⟩
          ·intro k hk;rw [KT,sX] at hk;have hi:n - 1 - k<n:=by omega
           rw [znX za,sX,hRn _ hi];have uw:row.drop (n - (k+1))=nth row (n - 1 - k)::row.drop (n - k):=by
            rw [show n - (k+1)=n - 1 - k by omega,ak za,BW za,show n - 1 - k+1=n - k by omega]
           have pn:nth row (n - 1 - k)<n:=kZ.cW _ (zu za);have uq:∀ b∈kc P (nth row (n - 1 - k)),b<n∧b∈row.drop (n - k)∧b≠nth row (n - 1 - k):=fun b hb=>by
            rw [HO] at hb;have gS:=(aP _ hb).2;have Nn:b∈row:=zti kZ cR gS;obtain ⟨i,eZ,e⟩:=zU Nn;obtain ⟨i',h1,h2⟩:=kZ.uW i eZ _ hb (by rw [ak eZ];exact e.symm);have h2:nth row i'=nth row (n - 1 - k):=h2;rw [ak za,ak za] at h2;have h3:=(WI kZ.nd).1 h2;refine ⟨gS,?_,fun e2=>?_⟩
            ·rw [← e];exact zkH.2 ⟨i - (n - k),by omega,by congr 1;omega⟩
            ·rw [← e,ak za] at e2;have:=(WI kZ.nd).1 e2;omega
           have Tq:nth row (n - 1 - k)∉row.drop (n - k):=fun h=>by
            obtain ⟨i,hi,e⟩:=zkH.1 h;rw [ak za] at e;have:=(WI kZ.nd).1 e;omega
           rw [uw];generalize row.drop (n - k)=D at uq Tq ⊢;generalize nth row (n - 1 - k)=a at uq Tq pn ⊢;have CS:=E5 a pn;have wu:=zwf P a;have Ji:(kc P a).length≤P.length:=RS P _ _;generalize kc P a=A at uq CS wu Ji;refine zb ?_;refine ⟨rfl,?_⟩;change FW _ _ _ ⟨[(19,.int .i64 (a:Int)),(141,.int .i64 (a:Int)),(140,.int .i64 ((n - 1 - k:Nat):Int)),(2,.ax 1 [[.int .i64 n]] 0 0),(6,.ax 1 [[.list 1 NX]] 0 0),(17,.ptr 110 0 0 0),(139,.fn 82 [.ax 1 [[.list 1 (RI.map zJ)]] 0 0])],vA n (lu P n D)⟩;unfold vA;refine yW ?_;obtain ⟨q,hq⟩:∃ q,((n:Int)+63) / 64=q:=⟨_,rfl⟩
           have ku : q=((Xb n:Nat):Int):=by unfold Xb;omega
           have tv:Xb n≤1000:=by unfold Xb;omega
           refine FW.draw ?_;refine zR.ai (Zz rfl rfl rfl rfl rfl) rfl rfl ?_;refine zR.ai (DK rfl rfl zd) rfl rfl ?_;refine zR.ai (Zl rfl rfl rfl rfl rfl rfl zd) rfl rfl ?_;refine Hu rfl rfl rfl rfl rfl rfl rfl ?_;refine zR.ai (zD rfl) rfl rfl ?_;refine zR.ai (yX rfl rfl rfl Zp rfl rfl rfl) rfl rfl ?_;refine zR.ai (tI rfl rfl za) rfl rfl ?_;refine zR.ai (Se rfl rfl za) rfl rfl ?_;rw [hq,ku];refine zR.cL (LP rfl rfl rfl rfl rfl rfl rfl rfl za za rfl) rfl rfl ?_;refine zR.ai (yL rfl rfl (by first|rfl|exact (xE za).symm) rfl rfl rfl zd rfl pn) rfl rfl ?_;refine zR.dN (WR rfl rfl rfl rfl rfl rfl zd zM) rfl ?_;refine zR.nil ⟨by kernel_rfl,?_⟩;rw [Vw];refine zb ?_;refine zt.ai (yX rfl rfl rfl za CS rfl rfl) rfl rfl ?_;refine zb ?_;refine FW.loop (fun j:Nat=>⟨[(19,.int .i64 (a:Int)),(2,.ax 1 [[.int .i64 n]] 0 0),(6,.ax 1 [[.list 1 NX]] 0 0),(17,.ptr 110 0 0 0),(139,.fn 82 [.ax 1 [[.list 1 (RI.map zJ)]] 0 0]),(155,.list 1 (A.map yx)),(156,.int .i64 A.length),(157,.int .i64 j)],[(110,⟨0,.aj,94,1,[[.ptr 111 0 0 0]]⟩),(111,⟨0,.aj,124,2,[[.int .i64 n,.own 112 0 0 n]]⟩),(112,⟨0,.aj,129,1,(List.range n).map fun j=>[if j=a then .own 113 0 0 (Xb n) else lu P n D j]⟩),(113,⟨0,.own,156,1,(XE n (uR P (A.take j))).map gb⟩)]⟩) (fun j=>j≤A.length) (fun j=>A.length - j) 0 (zp _) ?_ ?_
           ·rw [show (fun j=>if j=a then [FV.own 150 (0+1) 0 (Xb n)] else [lu P n D j])=fun j=>[if j=a then FV.own 150 1 0 (Xb n) else lu P n D j] from funext fun j=>by split <;> rfl,
             show List.replicate (Xb n) [FV.int .u64 0]=(XE n (uR P (A.take 0))).map gb by rw [P7,zwg,zqL,Wc];rfl]
            exact ar.G9 (i1:=110) (i2:=111) (i3:=112) (i4:=150) za (fun j _=>Rh P n D j) rfl rfl rfl rfl zd (by repeat (first|exact aT.nil|exact aT.dH rfl (by unfold zm;omega)|refine aT.cons rfl ?_)) zf
           intro j hj;refine zb ?_;refine FW.cond rfl (fun h=>?_) (fun h=>?_)
           ·have pE:j<A.length:=by simpa using h
            clear h;have pM:=XW pE;obtain ⟨b1,b2,b3⟩:=uq _ (zu pE);obtain ⟨b,hb⟩:∃ b,nth A j=b:=⟨_,rfl⟩
            rw [hb] at b1 b2 b3 pM;have Bq:=zuS P (A.take j) b;rw [← pM] at Bq;generalize uR P (A.take j)=pp at Bq;have kM:=zmg n b 0 pp b1 za;have gj:=zh1 0 (Xb n) (XE n fun x=>pp x || decide (x=b)) (XE n (YK P b)) (ZN _ _) (ZN _ _) za zo6 zo6;rw [zqK] at gj;have eX:(if b=a then FV.own 113 0 0 (Xb n) else lu P n D b)=.list 1 ((XE n (YK P b)).map gb):=by
             rw [if_neg b3];unfold lu;rw [if_pos b2]
            refine zb ?_;rw [hb];skip;refine XC rfl rfl rfl rfl rfl rfl rfl ?_;refine zt.ai (zD rfl) rfl rfl ?_;refine zt.ai (yL rfl rfl rfl rfl rfl rfl zd rfl za) rfl rfl ?_;refine zt.ai (Zz rfl rfl rfl rfl (xR n a _ pn)) rfl rfl ?_;rw [if_pos rfl];refine zt.ai (zD rfl) rfl rfl ?_;refine Yq kM [(5000,113)] rfl (zQ.cons rfl rfl rfl zQ.nil) rfl rfl rfl rfl rfl rfl ?_;rintro _ _ ⟨rfl,h1⟩;refine ZQ.one [(113,Ud 0 (XE n fun x=>pp x || decide (x=b)))] (.bd []) rfl (congrArg (fun b=>[(113,zE.ren (cM [(5000,113)]) b)]) h1) ?_;clear h1 kM;refine zt.nil ?_;refine FW.draw ?_;refine zR.ai (Zz rfl rfl rfl rfl rfl) rfl rfl ?_;refine zR.ai (DK rfl rfl zd) rfl rfl ?_;refine zR.ai (Zl rfl rfl rfl rfl rfl rfl zd) rfl rfl ?_;refine Hu rfl rfl rfl rfl rfl rfl rfl ?_;refine zR.ai (zD rfl) rfl rfl ?_;refine zR.ai (yL rfl rfl rfl rfl rfl rfl zd rfl za) rfl rfl ?_;refine zR.ai (Zz rfl rfl rfl rfl (xR n a _ pn)) rfl rfl ?_;rw [if_pos rfl];refine zR.ai (Zz rfl rfl rfl rfl rfl) rfl rfl ?_;refine zR.ai (DK rfl rfl zd) rfl rfl ?_;refine zR.ai (Zl rfl rfl rfl rfl rfl rfl zd) rfl rfl ?_;refine Hu rfl rfl rfl rfl rfl rfl rfl ?_;refine zR.ai (zD rfl) rfl rfl ?_;refine zR.ai (yL rfl rfl rfl rfl rfl rfl zd rfl za) rfl rfl ?_;refine zR.ai (Zz rfl rfl rfl rfl (xR n b _ b1)) rfl rfl ?_;rw [eX];refine zuV gj [(5000,113)] (r:=.bd []) (l:=[(113,Ud 0 (XE n fun x=>(pp x || decide (x=b)) || YK P b x))]) (by
             rintro _ aM ⟨rfl,h1⟩;exact ⟨rfl,congrArg (fun b=>[(113,zE.ren (cM [(5000,113)]) b)]) h1⟩) rfl (zQ.cons rfl rfl rfl zQ.nil) rfl rfl rfl rfl rfl rfl ?_
            refine zR.nil ⟨by kernel_rfl,?_⟩;refine zb ?_;refine ⟨j+1,by omega,by omega,?_⟩;rw [Bq];exact ar.G9 (i1:=110) (i2:=111) (i3:=112) (i4:=113) za (fun j _=>Rh P n D j) rfl rfl rfl rfl zd (by repeat (first|exact aT.nil|exact aT.dH rfl (by unfold zm;omega)|refine aT.cons rfl ?_)) zf
           ·obtain rfl:j=A.length:=by simp at h;omega
            rw [yy,wu];refine zb ?_;refine ⟨rfl,?_⟩;refine ar.trans (ar.shut (i:=113) rfl) ?_;refine ar.trans (ar.q8 112 (j:=a) (o:=0) rfl (xR n a _ pn) (by rw [if_pos rfl];rfl) rfl (by rw [zj,ZN])) ?_;refine ar.pW (i1:=110) (i2:=111) (i3:=112) za (g:=lu P n (a::D)) (fun j _=>⟨rfl,Rh _ _ _ j⟩) rfl rfl ?_ zd (by repeat (first|exact aT.nil|exact aT.dH rfl (by unfold zm;omega)|refine aT.cons rfl ?_)) zf;refine Dx (b:=(⟨0,.aj,129,1,((List.range n).map fun j=>[if j=a then FV.own 113 0 0 (Xb n) else lu P n D j]).set a ([if a=a then FV.own 113 0 0 (Xb n) else lu P n D a].set 0 (.list 1 ((XE n (YK P a)).map gb)))⟩:zE)) rfl ?_;refine congrArg (fun z=>(⟨0,.aj,129,1,z⟩:zE)) ?_;rw [Vw];refine yZ fun j _=>?_;unfold lu;by_cases bF:j=a
            ·subst bF;rw [if_pos rfl,if_pos (Yu ..)];rfl
            ·rw [if_neg bF,if_neg bF];by_cases FI:j∈D
             ·rw [if_pos FI,if_pos (xW _ FI)]
             ·rw [if_neg FI,if_neg (fun h=>by rcases zA.1 h with h|h;exact bF h;exact FI h)]
          ·intro J' hM a w β hF;rw [KT,sX,xZ,Yl] at hF;have hO:vA n (lu P n row)=vA n (fun j=>.list 1 ((XE n (YK P j)).map gb)):=by
            unfold vA;rw [show ((List.range n).map fun j=>[lu P n row j])=(List.range n).map fun j=>[FV.list 1 ((XE n (YK P j)).map gb)] from yZ fun j hj=>by
             unfold lu;rw [if_pos];refine ZS fun bl=>?_;have gj:=zn.1 hj;have h1:=zti kZ cR gj;exact bl h1]
           rw [hO] at hF;change Code.wp _ _ _ a w;refine GW.at ?_ hF;unfold vA;refine GW.le ?_ (ar.ld 112 rfl (zL.2 fun g hg=>?_))
           ·refine GW.le ?_ (ar.shut (i:=112) rfl);refine GW.le ?_ (ar.q8 111 (j:=0) (o:=1) rfl rfl rfl rfl zc);refine GW.le ?_ (ar.ld 111 rfl rfl);refine GW.seq ?_;refine zb ?_;refine GW.le ?_ (ar.eC 4 rfl rfl);refine GW.of (FW.ret ?_);intro a w β hF;exact ⟨.inl rfl,J',_,β,hM,⟨_,.cons (.tmp 4 rfl rfl) (.cons (.tmp 5 rfl rfl) .nil),rfl⟩,hF⟩
           ·obtain ⟨e,he,hg⟩:=yJ.1 hg;obtain ⟨j,_,rfl⟩:=zi.1 he;rw [zq.1 hg];rfl
         ·refine (ar.wR (i:=135) rfl).trans (ar.pW (i1:=17) (i2:=137) (i3:=135) za (g:=fun _=>.nil) (fun j hj=>⟨?_,rfl⟩) rfl rfl rfl zd (by repeat (first|exact aT.nil|exact aT.dH rfl (by unfold zm;omega)|refine aT.cons rfl ?_)) zf);unfold lu;rw [if_neg];rw [Nat.sub_zero,VN za];simp
    ·refine Dx (b:=(⟨0,.aj,22,1,(List.range n).map fun j=>[vt P P.length j]⟩:zE)) rfl ?_;refine congrArg (fun l=>(⟨0,.aj,22,1,l⟩:zE)) (yZ fun j _=>?_);rw [zj];rfl
end
end Go.Proofs.YtphidhljdcledaaGreat
