/-
  Lemmas, in parts.
-/
import Derived.Test.YtphidhljdcledaaGreatZL
import Derived.Test.YtphidhljdcledaaGreatZD
import Derived.Test.YtphidhljdcledaaGreatZJ
namespace Go.Proofs.YtphidhljdcledaaGreat
set_option linter.unusedVariables false
set_option maxHeartbeats 16000000
variable {l:List aq} {c:List Nat} {E E0 E2 T a1 a2 c8 i j k n sz gK v0 ae w:Nat} {a b v:Int} {o:aq} {α:Type} {cs fs r row z:List FV} {cF:Nat→Nat} {s s' : ah} {f z1 z2:FV} {op:Op} {ob wr:List (Nat×zE)} {x y:Operand} {es du aG:List (List FV)} {kk:TK} {lf0:Zn} {ps:List (Nat×Operand)} {t t' : List (Nat×FV)} {p:Nat→Bool}
section
open Go.RowKit
def yx (i:Nat):List FV:=[.int .i64 (i:Int)]
structure dx where
 iF:Bool
 ops:List Nat
 deriving DecidableEq,Inhabited
def dx.fv (c:dx):List FV:=[.bool c.iF,.list 1 (c.ops.map yx)]
def Uw (o:aq):Int:=if o.done then o.ret else 9223372036854775807
theorem zio (l:List aq) (i:Nat) (hi:i<l.length):xA Tryz.prog 81 ([.int .i64 i]++[.ax 1 [[.list 8 (l.map aq.fv)]] 0 0]) .fr (.int .i64 (Uw (nth l i))):=by
 obtain ⟨o,ho⟩:∃ o,nth l i=o:=⟨_,rfl⟩
 rw [ho];refine ym 15 Tryz.func81 Tryz.ntmps81 rfl ?_;change FW _ _ _ ⟨[(0,.int .i64 i),(1,.ax 1 [[.list 8 (l.map aq.fv)]] 0 0)],[]⟩;refine zb ?_;rw [ho];skip;refine FW.cond rfl (fun h=>?_) (fun h=>?_)
 ·have h:o.done=false:=by simpa using h
  have:Uw o=9223372036854775807:=by unfold Uw;rw [h];rfl
  rw [this];refine zb ?_;exact FW.ret ⟨.inl rfl,yt rfl rfl rfl rfl⟩
 ·have h:o.done=true:=by simpa using h
  have:Uw o=o.ret:=by unfold Uw;rw [h];rfl
  rw [this];refine zb ?_;rw [ho];skip;exact FW.ret ⟨.inl rfl,yt rfl rfl rfl rfl⟩
def Eo (l:List aq) (b i:Nat):Nat:=if Uw (nth l i)<Uw (nth l b) then i else b
def Es (l:List aq) (b i:Nat):Nat:=if (nth l b).call<(nth l i).call then i else b
def mS (l:List aq) (c:List Nat):Nat:=c.foldl (Eo l) (nth c 0)
def nv (l:List aq) (c:List Nat):Nat:=c.foldl (Es l) (nth c 0)
def tM (l:List aq) (c:List Nat) (k:Nat):Nat:=(c.take k).foldl (Eo l) (nth c 0)
def vd (l:List aq) (c:List Nat) (k:Nat):Nat:=(c.take k).foldl (Es l) (nth c 0)
theorem PC (h:k<c.length):tM l c (k+1)=Eo l (tM l c k) (nth c k):=by
 unfold tM;rw [xe h,ZU,ak h];rfl
theorem PF (h:k<c.length):vd l c (k+1)=Es l (vd l c k) (nth c k):=by
 unfold vd;rw [xe h,ZU,ak h];rfl
theorem QJ {l:List aq} {c:List Nat} (h0:0<c.length):∀ {k:Nat},k≤c.length→tM l c k∈c
 | 0, _ => zu h0
 | k+1, hk => by
  rw [PC za];unfold Eo;split
  ·exact zu za
  ·exact QJ h0 za
theorem Qu {l:List aq} {c:List Nat} (h0:0<c.length):∀ {k:Nat},k≤c.length→vd l c k∈c
 | 0, _ => zu h0
 | k+1, hk => by
  rw [PF za];unfold Es;split
  ·exact zu za
  ·exact Qu h0 za
theorem QH (l:List aq) (c:List Nat):tM l c c.length=mS l c:=by unfold tM mS;rw [yy]
theorem Qt (l:List aq) (c:List Nat):vd l c c.length=nv l c:=by unfold vd nv;rw [yy]
def ID (l:List aq) (c:List Nat):FV:=.bd [.int .i64 (mS l c:Nat),.int .i64 (Uw (nth l (mS l c))),.int .i64 (nv l c:Nat),.int .i64 (nth l (nv l c)).call]
theorem K8 (l:List aq) (c:dx) (hl:l.length≤1000000000) (ch:c.ops.length≤1000000000) (h0:0<c.ops.length) (hr:∀ i∈c.ops,i<l.length):xA Tryz.prog 57 [.agg c.fv,.list 8 (l.map aq.fv)] .fr (ID l c.ops):=by
 obtain ⟨b,C⟩:=c;dsimp only at h0 hr ch ⊢;refine ym 58 Tryz.func57 Tryz.ntmps57 rfl ?_;change FW _ _ _ ⟨[(0,.agg [.bool b,.list 1 (C.map yx)]),(1,.list 8 (l.map aq.fv))],[]⟩
 (repeat (first|refine FW.seq ?_|refine FW.region ?_|refine zt.nil ?_|refine zt.cL (zry rfl rfl rfl rfl rfl) rfl rfl ?_|refine LY rfl rfl rfl rfl rfl ?_|refine zt.ai (yj rfl) rfl rfl ?_))
 refine zt.le ?_ (ar.eC 3 rfl rfl);refine zb ?_;refine FW.ko zw ?_;refine yH ?_;refine ⟨by kernel_rfl,?_⟩;refine zb ?_;refine FW.loop (fun k:Nat=>⟨[(3,.ax 1 [[.list 8 (l.map aq.fv)]] 0 0),(8,.fn 81 [.ax 1 [[.list 8 (l.map aq.fv)]] 0 0]),(4,.int .i64 (tM l C k:Nat)),(6,.int .i64 (vd l C k:Nat)),(21,.list 1 (C.map yx)),(22,.int .i64 C.length),(23,.int .i64 k)],[]⟩) (fun k=>k≤C.length) (fun k=>C.length - k) 0 (zp _) ?_ ?_
 ·show ar _ ⟨[(3,.ax 1 [[.list 8 (l.map aq.fv)]] 0 0),(8,.fn 81 [.ax 1 [[.list 8 (l.map aq.fv)]] 0 0]),(4,.int .i64 (nth C 0:Nat)),(6,.int .i64 (nth C 0:Nat)),(21,.list 1 (C.map yx)),(22,.int .i64 C.length),(23,.int .i64 0)],[]⟩;exact (ar.cv [] xu zf)
 intro k hk;have JE:=hr _ (QJ (l:=l) h0 hk);have we:=hr _ (Qu (l:=l) h0 hk);have iY:=fun h=>PC (l:=l) (c:=C) (k:=k) h;have lD:=fun h=>PF (l:=l) (c:=C) (k:=k) h;obtain ⟨f,hf⟩:∃ f,tM l C k=f:=⟨_,rfl⟩
 obtain ⟨g,hg⟩:∃ g,vd l C k=g:=⟨_,rfl⟩
 rw [hf] at JE iY ⊢;rw [hg] at we lD ⊢;have Ty:=zio l f JE;refine zb ?_;refine FW.cond rfl (fun h=>?_) (fun h=>?_)
 ·have aA:k<C.length:=by simpa using h
  clear h;have iY:=iY aA;have lD:=lD aA;obtain ⟨i,hi⟩:∃ i,nth C k=i:=⟨_,rfl⟩
  have eZ:i<l.length:=by rw [← hi];exact hr _ (zu aA)
  have hei:=zio l i eZ;rw [hi] at iY lD;unfold Eo at iY;unfold Es at lD;refine zb ?_;rw [hi];skip;refine H2 rfl hei (by repeat (first|exact zH.nil|refine zH.cons zB ?_)) rfl rfl ?_;refine zb ?_;refine H2 rfl Ty (by repeat (first|exact zH.nil|refine zH.cons zB ?_)) rfl rfl ?_;refine Ua ?_;refine FW.join (fun q:Nat=>⟨[(3,.ax 1 [[.list 8 (l.map aq.fv)]] 0 0),(8,.fn 81 [.ax 1 [[.list 8 (l.map aq.fv)]] 0 0]),(4,.int .i64 (q:Nat)),(10,.int .i64 i),(6,.int .i64 g),(21,.list 1 (C.map yx)),(22,.int .i64 C.length),(23,.int .i64 k)],[]⟩) (fun q=>tM l C (k+1)=q) ?_ ?_
  ·refine FW.cond rfl (fun h=>?_) (fun h=>?_)
   ·rw [if_pos (by simpa using h)] at iY;refine zb ?_;refine ⟨rfl,i,iY,?_⟩;exact (ar.cv [] xu zf)
   ·rw [if_neg (by simpa using h)] at iY;refine zb ?_;refine ⟨rfl,f,iY,?_⟩;exact (ar.cv [] xu zf)
  rintro q hq;refine FW.seq ?_;refine FW.ko zw ?_;refine yH ?_;refine ⟨by kernel_rfl,?_⟩;refine FW.cond rfl (fun h=>?_) (fun h=>?_)
  ·rw [if_pos (by simpa using h)] at lD;refine zb ?_;refine ⟨k+1,by omega,by omega,?_⟩;rw [hq,lD];exact (ar.cv [] xu zf)
  ·rw [if_neg (by simpa using h)] at lD;refine zb ?_;refine ⟨k+1,by omega,by omega,?_⟩;rw [hq,lD];exact (ar.cv [] xu zf)
 ·obtain rfl:k=C.length:=by simp at h;omega
  rw [QH] at hf;rw [Qt] at hg;unfold ID;rw [hf,hg];refine zb ?_;refine FW.ko zw ?_;refine yH ?_;refine zuW rfl Ty (by repeat (first|exact zH.nil|refine zH.cons zB ?_)) rfl rfl ?_;refine yH ?_;refine ⟨by kernel_rfl,?_⟩;skip;exact FW.ret ⟨.inl rfl,.flat (.cons (.tmp 4 rfl rfl) (.cons (.tmp 5 rfl rfl) (.cons (.tmp 6 rfl rfl) (.cons (.tmp 7 rfl rfl) .nil)))) rfl rfl⟩
def Hg (e:Nat×Nat):List FV:=[.int .i64 (e.1:Nat),.int .i64 (e.2:Nat),.int .i64 5]
def iA (l:List aq) (c:List Nat):Int:=Uw (nth l (mS l c))
def jn (l:List aq) (c:List Nat):Int:=(nth l (nv l c)).call
def mU (l:List aq) (x y:dx):List (Nat×Nat):=
 if iA l y.ops≥jn l x.ops then []
 else if x.iF=true then [(mS l y.ops,nv l x.ops)]
 else if iA l x.ops<jn l y.ops then [(mS l x.ops,nv l y.ops),(mS l y.ops,nv l x.ops)]
 else []
def IM (E:List (Nat×Nat)):FV:=match E with|[]=>.nil|e::E=>.list 3 ((e::E).map Hg)
theorem zjB (l:List aq) (x y:dx) (hl:l.length≤1000000000) (hx:x.ops.length≤1000000000) (hy:y.ops.length≤1000000000) (x0:0<x.ops.length) (y0:0<y.ops.length) (xr:∀ i∈x.ops,i<l.length) (yr:∀ i∈y.ops,i<l.length) :
  xA Tryz.prog 37 [.list 8 (l.map aq.fv),.agg x.fv,.agg y.fv] .sh (IM (mU l x y)):=by
 have hex:=K8 l x hl hx x0 xr;have ux:=K8 l y hl hy y0 yr;have hE:mU l x y=if iA l y.ops≥jn l x.ops then [] else if x.iF=true then [(mS l y.ops,nv l x.ops)] else if iA l x.ops<jn l y.ops then [(mS l x.ops,nv l y.ops),(mS l y.ops,nv l x.ops)] else []:=rfl
 unfold iA jn at hE;obtain ⟨R,hR⟩:∃ R,mU l x y=R:=⟨_,rfl⟩
 rw [hR] at hE ⊢;obtain ⟨bx,X⟩:=x;obtain ⟨b2,Y⟩:=y;dsimp only [dx.fv] at *;unfold ID at hex ux;obtain ⟨fx,tj⟩:∃ z,Uw (nth l (mS l X))=z:=⟨_,rfl⟩
 obtain ⟨fy,TC⟩:∃ z,Uw (nth l (mS l Y))=z:=⟨_,rfl⟩
 obtain ⟨sx,T8⟩:∃ z,(nth l (nv l X)).call=z:=⟨_,rfl⟩
 obtain ⟨sy,T9⟩:∃ z,(nth l (nv l Y)).call=z:=⟨_,rfl⟩
 rw [tj,T8] at hex;rw [TC,T9] at ux;rw [tj,TC,T8,T9] at hE;generalize mS l X=a at hex hE;generalize nv l X=b at hex hE;generalize mS l Y=c at ux hE;generalize nv l Y=d at ux hE;have hh:(IM R).hand=none:=by unfold IM;split <;> rfl
 refine ym 53 Tryz.func37 Tryz.ntmps37 hh ?_;change FW _ _ _ ⟨[(0,.list 8 (l.map aq.fv)),(1,.agg [.bool bx,.list 1 (X.map yx)]),(2,.agg [.bool b2,.list 1 (Y.map yx)])],[]⟩;refine zb ?_;refine yP hex (by repeat (first|exact zH.nil|refine zH.cons zB ?_)) rfl rfl ?_;refine zb ?_;refine yP ux (by repeat (first|exact zH.nil|refine zH.cons zB ?_)) rfl rfl ?_;refine zb ?_;refine FW.cond rfl (fun h1=>?_) (fun h1=>?_)
 ·rw [if_pos (by simpa using h1)] at hE;subst hE;refine zb ?_;exact FW.ret ⟨.inl rfl,.sh (.cons (.tmp 6 rfl rfl) .nil) rfl rfl⟩
 rw [if_neg (by simpa using h1)] at hE;refine zb ?_;refine FW.cond rfl (fun h2=>?_) (fun h2=>?_)
 ·have h2:bx=true:=h2;rw [if_pos h2] at hE;subst hE;refine zb ?_;refine FW.le ?_ (ar.share 6 rfl rfl rfl);exact FW.ret ⟨.inl rfl,.sh (.cons (.tmp 6 rfl rfl) .nil) rfl rfl⟩
 have h2:¬ bx=true:=by rw [show bx=false from h2];decide
 rw [if_neg h2] at hE;refine zb ?_;refine FW.cond rfl (fun h3=>?_) (fun h3=>?_)
 ·rw [if_pos (by simpa using h3)] at hE;subst hE;refine zb ?_;refine Vy (es:=[Hg (a,d),Hg (c,b)]) rfl rfl rfl (by refine Xi.agg rfl rfl rfl ?_;refine Xi.agg rfl rfl rfl ?_;exact Xi.nil) rfl rfl rfl rfl rfl rfl ?_;refine zb ?_;refine FW.le ?_ (ar.share 6 rfl rfl rfl);exact FW.ret ⟨.inl rfl,.sh (.cons (.tmp 6 rfl rfl) .nil) rfl rfl⟩
 ·rw [if_neg (by simpa using h3)] at hE;subst hE;refine zb ?_;exact FW.ret ⟨.inl rfl,.sh (.cons (.tmp 6 rfl rfl) .nil) rfl rfl⟩
end
def jJ (key v:Int) (o:aq):Bool:=decide (o.k=0) && (o.done && (decide (o.key=key) && decide (o.res=v)))
theorem ZW {key:Int}:jJ key v o=true↔o.k=0∧o.done=true∧o.key=key∧o.res=v:=by simp [jJ]
def yC (l:List aq) (i:Nat):Bool:=(nth l i).done || (decide ((nth l i).k=1) && l.any (jJ (nth l i).key (nth l i).arg))
theorem UY [Inhabited α] {l:List α} {f:α→Bool}:l.any f=true↔∃ i,i<l.length∧f (nth l i)=true:=by
 rw [Yk];constructor
 ·rintro ⟨x,hx,h⟩;obtain ⟨i,hi,e⟩:=zU hx;exact ⟨i,hi,by rw [ak hi,e];exact h⟩
 ·rintro ⟨i,hi,h⟩;exact ⟨_,zu hi,h⟩
def tW (l:List aq) (c v:Int) (i:Nat):Prop:=i<l.length∧(nth l i).key=c∧iJ (nth l i)=v∧yC l i=true
def Ep (l:List aq) (c v w:Int):Prop:=∃ i k,tW l c v i∧tW l c w k∧gN l i k=true
def jI (l:List aq) (c:Int) (i:Nat):Prop:=i<l.length∧(nth l i).key=c∧(nth l i).k=1∧yC l i=true
def IB (l:List aq) (c:Int):Prop:=∃ i,jI l c i∧(Ep l c (nth l i).arg 0∨∃ k,k<i∧jI l c k∧Ep l c (nth l i).arg (nth l k).arg∧Ep l c (nth l k).arg (nth l i).arg)
def vh (l:List aq) (i:Nat):Bool:=decide ((nth l i).k=0) && ((nth l i).done && (decide ((nth l i).res≠0) && (jH l (nth l i).key (nth l i).res).isNone))
def DZ (l:List aq) (i:Nat):Bool:=decide ((nth l i).k=0) && ((nth l i).done && (decide ((nth l i).res≠0) && match jH l (nth l i).key (nth l i).res with|none=>false|some w=>gN l i w))
structure zvl (l:List aq) (c:Int):Prop where
 thin:∀ i,i<l.length→(nth l i).key=c→vh l i=false
 early:∀ i,i<l.length→(nth l i).key=c→DZ l i=false
 Aa:¬ IB l c
structure Af (l:List aq) (cF:Nat→Nat):Prop where
 rt:∀ i k,i<l.length→k<l.length→yC l i=true→yC l k=true→gN l i k=true→cF i<cF k
 rd:∀ r,r<l.length→(nth l r).k=0→(nth l r).done=true→((nth l r).res=0∧∀ w,jI l (nth l r).key w→cF r≤cF w)∨
  ∃ w,jI l (nth l r).key w∧(nth l w).arg=(nth l r).res∧cF w≤cF r∧∀ w',jI l (nth l r).key w'→w'≠w→cF w'<cF w∨cF r<cF w'
section
variable {l:List aq}
theorem yE.kind (D:yE l) (hi:i<l.length):(nth l i).k=0∨(nth l i).k=1:=by
 rcases D i hi with h|h
 ·exact .inl h
 ·exact .inr h.1
theorem yE.arg (D:yE l) (hi:i<l.length) (h:(nth l i).k=1):(nth l i).arg≠0:=by
 rcases D i hi with h1|h1
 ·omega
 ·exact h1.2.1
theorem yE.uniq (D:yE l) (hi:i<l.length) (hj:j<l.length) (h1:(nth l i).k=1) (h2:(nth l j).k=1) (hk:(nth l i).key=(nth l j).key) (ha:(nth l i).arg=(nth l j).arg):i=j:=by
 have key:∀ a b,a<b→b<l.length→(nth l a).k=1→(nth l b).k=1→(nth l a).key=(nth l b).key→(nth l a).arg=(nth l b).arg→False:=fun a b eX hb h1 h2 hk ha=>by
  rcases D b hb with h|h
  ·omega
  ·have:=h.2.2 a eX;rw [ZM.2 ⟨h1,hk,ha⟩] at this;cases this
 rcases Yw i j with h|h|h
 ·exact (key i j h hj h1 h2 hk ha).elim
 ·exact h
 ·exact (key j i h hi h2 h1 hk.symm ha.symm).elim
theorem Sp (D:yE l) (hw:w<l.length) (h1:(nth l w).k=1):jH l (nth l w).key (nth l w).arg=some w:=by
 cases h:jH l (nth l w).key (nth l w).arg with
 | none => have := LH h w hw; rw [ZM.2 ⟨h1, rfl, rfl⟩] at this; cases this
 | some v =>
  obtain ⟨a,b,_⟩:=WM h;rw [ZM] at b;rw [D.uniq a hw b.1 h1 b.2.1 b.2.2]
theorem VC (h:o.k=1):iJ o=o.arg:=by unfold iJ;rw [if_pos h]
theorem UQ (h:o.k=0):iJ o=o.res:=by unfold iJ;rw [if_neg za]
theorem WT (h:(nth l i).done=true):yC l i=true:=by unfold yC;rw [h];rfl
theorem xk (h:(nth l i).k=0) (hi:yC l i=true):(nth l i).done=true:=by
 unfold yC at hi;rw [decide_eq_false (show ¬ (nth l i).k=1 by omega)] at hi;simpa using hi
theorem ztI {r:Nat} (hr:r<l.length) (h0:(nth l r).k=0) (hd:(nth l r).done=true) (hw:w<l.length) (h1:(nth l w).k=1) (hk:(nth l w).key=(nth l r).key) (ha:(nth l w).arg=(nth l r).res):yC l w=true:=by
 unfold yC;rw [xB,zx];exact .inr ⟨by simpa using h1,UY.2 ⟨r,hr,ZW.2 ⟨h0,hd,hk.symm,ha.symm⟩⟩⟩
theorem zn1 (hw:∀ i,i<l.length→(nth l i).call<(nth l i).ret) (hi:i<l.length) (h:gN l i k=true):(nth l i).call<(nth l k).call:=by
 unfold gN at h;simp only [zx,decide_eq_true_eq] at h;have:=hw i hi;omega
theorem Af.cl (D:yE l) (T:Af l cF) {c:Int} (hi:tW l c v i) (hw:jI l c w) (hv:(nth l w).arg=v):cF w≤cF i∧∀ w',jI l c w'→w'≠w→cF w'<cF w∨cF i<cF w'∨cF w'=cF w:=by
 obtain ⟨h1,h2,h3,h4⟩:=hi;obtain ⟨w1,w2,w3,w4⟩:=hw;rcases D.kind h1 with hk|hk
 ·have hd:=xk hk h4;rw [UQ hk] at h3;rcases T.rd i h1 hk hd with ⟨e,_⟩|⟨u,hu,ha,hle,ho⟩
  ·exact absurd (by rw [hv,← h3,e]) (D.arg w1 w3)
  ·rw [h2] at hu ho;have:u=w:=D.uniq hu.1 w1 hu.2.2.1 w3 (hu.2.1.trans w2.symm) (by rw [ha,h3,hv]);subst this;exact ⟨hle,fun w' hw' aN=>(ho w' hw' aN).imp id .inl⟩
 ·rw [VC hk] at h3;have:i=w:=D.uniq h1 w1 hk w3 (h2.trans w2.symm) (by rw [h3,hv]);subst this;refine ⟨zg _,fun w' _ _=>?_⟩;rcases Yw (cF w') (cF i) with h|h|h
  ·exact .inl h
  ·exact .inr (.inr h)
  ·exact .inr (.inl h)
theorem Af.BN (D:yE l) (T:Af l cF) (NL:∀ i k,i<l.length→k<l.length→yC l i=true→yC l k=true→cF i=cF k→i=k) (c:Int):zvl l c where
 thin i hi hk:=by
  cases h:vh l i with
  | false => rfl
  | true=>
   unfold vh at h;simp only [zx,decide_eq_true_eq,Option.isNone_iff_eq_none] at h;obtain ⟨h0,hd,hr,hn⟩:=h;rcases T.rd i hi h0 hd with ⟨e,_⟩|⟨w,hw,ha,_⟩
   ·exact absurd e hr
   ·have:=LH hn w hw.1;rw [ZM.2 ⟨hw.2.2.1,hw.2.1,ha⟩] at this;cases this
 early i hi hk:=by
  cases h:DZ l i with
  | false => rfl
  | true=>
   unfold DZ at h;simp only [zx,decide_eq_true_eq] at h;obtain ⟨h0,hd,hr,hn⟩:=h;rcases T.rd i hi h0 hd with ⟨e,_⟩|⟨w,hw,ha,hle,_⟩
   ·exact absurd e hr
   ·have e:=Sp D hw.1 hw.2.2.1;rw [hw.2.1,ha] at e;rw [e] at hn;have:=T.rt i w hi hw.1 (WT hd) hw.2.2.2 hn;omega
 Aa:=by
  rintro ⟨i,jd,h⟩;rcases h with ⟨a,b,ha,hb,eX⟩|⟨k,rC,kx,⟨a,b,ha,hb,eX⟩,⟨a',b',Fc,cb,AL⟩⟩
  ·have h1:=(T.cl D ha jd rfl).1;have h2:=T.rt a b ha.1 hb.1 ha.2.2.2 hb.2.2.2 eX;obtain ⟨b1,b2,b3,b4⟩:=hb;rcases D.kind b1 with hk|hk
   ·have hd:=xk hk b4;rw [UQ hk] at b3;rcases T.rd b b1 hk hd with ⟨_,ho⟩|⟨u,hu,hua,_⟩
    ·have:=ho i (by rw [b2];exact jd);omega
    ·exact D.arg hu.1 hu.2.2.1 (by rw [hua,b3])
   ·rw [VC hk] at b3;exact D.arg b1 hk b3
  ·have aN:k≠i:=by omega
   have U0:cF k≠cF i:=fun e=>aN (NL k i kx.1 jd.1 kx.2.2.2 jd.2.2.2 e);have h1:=T.rt a b ha.1 hb.1 ha.2.2.2 hb.2.2.2 eX;have h2:=T.rt a' b' Fc.1 cb.1 Fc.2.2.2 cb.2.2.2 AL;obtain ⟨p1,p2⟩:=T.cl D ha jd rfl;obtain ⟨q1,q2⟩:=T.cl D hb kx rfl;obtain ⟨r1,r2⟩:=T.cl D Fc kx rfl;obtain ⟨s1,s2⟩:=T.cl D cb jd rfl;have p3:=p2 k kx aN;have q3:=q2 i jd (Ne.symm aN);have r3:=r2 i jd (Ne.symm aN);have s3:=s2 k kx aN;omega
end
section
open Go.RowKit
def Er (l:List aq) (j:Nat):Bool:=decide ((nth l j).k=1) && yC l j
def Zq (l:List aq) (i:Nat):List (List FV):=((List.range i).filter (Er l)).map fun j=>[UV (nth l j).key (nth l j).arg,.int .i64 (j:Int)]
theorem zph (l:List aq) (i:Nat):Zq l (i+1)=Zq l i++if Er l i=true then [[UV (nth l i).key (nth l i).arg,.int .i64 (i:Int)]] else []:=by
 unfold Zq;rw [yQ,ZT,zF];congr 1;by_cases h:Er l i=true <;> simp [h]
theorem Qe (hi:i≤l.length) (aP:∀ o∈l,Ue o):∀ row∈Zq l i,∀ kf,row.head? = some kf→XH Tryz.prog 100 kf:=fun row hr kf hk=>by
 obtain ⟨j,hj,rfl⟩:=zi.1 hr;have dT : j<i:=by simpa using (zY.1 hj).1
 have ho:=aP _ (zu (show j<l.length by omega));injection hk with hk
 subst hk;exact qJ ho.2.2.1 ho.2.2.2.1
theorem zq9 (hj:j<i) (h:gm a b (nth l j)=true) (hc:yC l j=true):[UV a b,.int .i64 (j:Int)]∈Zq l i:=by
 rw [ZM] at h;exact zi.2 ⟨j,zY.2 ⟨by simpa using hj,by unfold Er;rw [hc];simpa using h.1⟩,by rw [h.2.1,h.2.2]⟩
theorem zia (h:∀ j,j<i→yC l j=true→gm a b (nth l j)=false):∀ row∈Zq l i,row.head?≠some (UV a b):=fun row hr he=>by
 obtain ⟨j,hj,rfl⟩:=zi.1 hr;obtain ⟨h1,h2⟩:=zY.1 hj;injection he with he
 obtain ⟨e1,e2⟩:=UD he;unfold Er at h2;rw [zx] at h2;have:=h j (by simpa using h1) h2.2;rw [show gm a b (nth l j)=true from ZM.2 ⟨by simpa using h2.1,e1,e2⟩] at this;cases this
def nD (l:List aq) (a b:Int):Option Nat:=(List.range l.length).find? fun j=>gm a b (nth l j) && yC l j
theorem VP (h:nD l a b=some w):w<l.length∧gm a b (nth l w)=true∧yC l w=true:=by
 have h1:=WF h;have h2:=YP h;rw [zx] at h1;exact ⟨by simpa using h2,h1.1,h1.2⟩
theorem zn3 (h:nD l a b=none):∀ j,j<l.length→yC l j=true→gm a b (nth l j)=false:=fun j hj hc=>by
 have:=xq.1 h j (by simpa using hj);rw [hc] at this;simpa using this
theorem Sk (l:List aq) (a b:Int):lK (Zq l l.length) (UV a b) (.int .i64 0) (.int .i64 ((nD l a b).getD 0:Nat)) (nD l a b).isSome:=by
 cases h:nD l a b with
 | none => exact .inr ⟨rfl, rfl, zia (zn3 h)⟩
 | some w =>
  obtain ⟨h1,h2,h3⟩:=VP h;exact .inl ⟨rfl,zq9 h1 h2 h3⟩
def YF (l:List aq) (i:Nat):Option Nat:=if (nth l i).k≠0∨(nth l i).res=0 then none else nD l (nth l i).key (nth l i).res
def qk (l:List aq) (f1 f3:FV):FV:=.ax 4 [[.list 8 (l.map aq.fv),f1,.smap (Zq l l.length),f3]] 0 0
def D7 (l:List aq) (i:Nat):FV:=.bd [.int .i64 ((YF l i).getD 0:Nat),.bool (YF l i).isSome]
theorem QG (l:List aq) (f1 f3:FV) (h1:f1.one=true) (h3:f3.one=true) (i:Nat) (hi:i<l.length) (hl:l.length≤1000000000) (aP:∀ o∈l,Ue o):xA Tryz.prog 41 [qk l f1 f3,.int .i64 i] .fr (D7 l i):=by
 have Dd:f1.hand=none:=by cases f1 <;> first|rfl|(simp [FV.one] at h1)
 have JM:f3.hand=none:=by cases f3 <;> first|rfl|(simp [FV.one] at h3)
 obtain ⟨R,hR⟩:∃ R,D7 l i=R:=⟨_,rfl⟩
 have rh:R.hand=none:=by rw [← hR];rfl
 rw [hR];unfold qk;have ho:=aP _ (zu hi);have dp:=Sk l (nth l i).key (nth l i).res;unfold D7 YF at hR;obtain ⟨o,er⟩:∃ o,nth l i=o:=⟨_,rfl⟩
 rw [er] at ho dp hR;refine ym 39 Tryz.func41 Tryz.ntmps41 rh ?_;change FW _ _ _ ⟨[(0,.ax 4 [[.list 8 (l.map aq.fv),f1,.smap (Zq l l.length),f3]] 0 0),(1,.int .i64 i)],[]⟩;refine zb ?_;rw [er];refine yR (fun h4=>?_) (fun h4=>?_)
 ·have h4:o.k≠0:=by simpa using h4
  rw [if_pos (.inl h4)] at hR;subst hR;refine zb ?_;exact FW.ret ⟨.inl rfl,.flat (.cons (.tmp 4 rfl rfl) (.cons (.tmp 5 rfl rfl) .nil)) rfl rfl⟩
 have h4:o.k=0:=by simpa using h4
 refine zb ?_;refine FW.cond rfl (fun h5=>?_) (fun h5=>?_)
 ·have h5:o.res=0:=by simpa using h5
  rw [if_pos (.inr h5)] at hR;subst hR;refine zb ?_;exact FW.ret ⟨.inl rfl,.flat (.cons (.tmp 4 rfl rfl) (.cons (.tmp 5 rfl rfl) .nil)) rfl rfl⟩
 have h5:o.res≠0:=by simpa using h5
 rw [if_neg (by rintro (q|q);exact q h4;exact h5 q)] at hR;subst hR;generalize nD l o.key o.res=C at dp;refine Zf ?_;refine zsX (e:=3) u7 (Qe (zg _) aP) (qJ ho.2.2.1 ho.2.2.2.2.1) dp rfl rfl rfl rfl rfl rfl rfl ?_;refine yH ?_;refine ⟨by kernel_rfl,?_⟩;refine zb ?_;exact FW.ret ⟨.inl rfl,.flat (.cons (.tmp 4 rfl rfl) (.cons (.tmp 5 rfl rfl) .nil)) rfl rfl⟩
theorem QB {α:Type} {sz:Nat}:∀ (es:List (List α)),(∀ e∈es,e.length=sz)→∀ (j o:Nat) row f,es[j]? = some row→row[o]? = some f→es.flatten[j * sz+o]? = some f
 | [], _, j, o, row, f, h, _ => by simp at h
 | e :: es, he, 0, o, row, f, h, hf => by
  simp at h;subst h;have:=(yq.1 hf).1;rw [Ya,yh,xF,xO this];exact hf
 | e :: es, he, j+1, o, row, f, h, hf => by
  have h1:=he e zc;have:=QB es (fun q hq=>he q (by simp [hq])) j o row f (by simpa using h) hf;rw [xF,Zd (by rw [h1,yu];omega),h1,show (j+1) * sz+o - sz=j * sz+o by rw [yu];omega];exact this
theorem QC {α:Type} {sz:Nat}:∀ (es:List (List α)),(∀ e∈es,e.length=sz)→∀ (j o:Nat) row f,es[j]? = some row→o<row.length→(es.set j (row.set o f)).flatten=es.flatten.set (j * sz+o) f
 | [], _, j, o, row, f, h, _ => by simp at h
 | e :: es, he, 0, o, row, f, h, ho => by
  simp at h;subst h;rw [P5,xF,xF,Ya,yh,List.set_append_left _ _ ho]
 | e :: es, he, j+1, o, row, f, h, ho => by
  have h1:=he e zc;have:=QC es (fun q hq=>he q (by simp [hq])) j o row f (by simpa using h) ho;rw [KA,xF,xF,this,P4 _ _ (by rw [h1,yu];omega),h1,show (j+1) * sz+o - sz=j * sz+o by rw [yu];omega]
theorem FR.sa {N:Nat} {w0 w w' : World} {J:JJ} {a:Act} {β:Nat→Option Nat} (h:FR N w0 J s a w β) (i:Option Nat) (j:Nat) {nb:zE} {v:Value}
  (hi:∀ k,i=some k→(s.ob k).ao.cT=true) (hg:w.grownBy w' (i.bind β)) (hb:(v.ownBlock=i.bind β)∨v.ownBlock=none∨∃ b,v.ownBlock=some b∧w.heap.size≤b) (Gb:nb.ae=(s.ob j).ae+1)
  (hs:∀ k,s'.ob k=if j=k then nb else if i=some k then { s.ob k with ao:=.dead } else s.ob k) (aO:∀ k,s'.get k=s.get k)
  (pG:(∀ b,aF J w β s b→aF J w' (WX β j v.ownBlock) s' b∧w'.heap[b]? = w.heap[b]?)→(∀ v1 f,VR w (aF J w β s) β s v1 f→(∀ id ae,(id,ae)∈f.hands→ae≤(s.ob id).ae)→VR w' (aF J w' (WX β j v.ownBlock) s') (WX β j v.ownBlock) s' v1 f)→dL w' w0.heap.size (aF J w' (WX β j v.ownBlock) s') (WX β j v.ownBlock) s' v.ownBlock nb) :
  FR N w0 J s' a w' (WX β j v.ownBlock):=by
 have cE:∀ k,i.bind β=some k→w0.heap.size≤k:=fun k hk=>by
  cases i with
  | none => simp at hk
  | some i => exact ((h.obj i (Zn.bc (hi i rfl))).lt (by simpa using hk)).1
 have aN:∀ b,aF J w β s b→some b≠i.bind β:=fun b aU e=>by
  cases i with
  | none => simp at e
  | some i => exact aU.2.2 i (hi i rfl) (by simpa using e.symm)
 have hI:∀ b,aF J w β s b→aF J w' (WX β j v.ownBlock) s' b∧w'.heap[b]? = w.heap[b]?:=fun b aU=>by
  refine ⟨⟨xx aU.1 hg.size,aU.2.1,fun id hl=>?_⟩,hg.block b aU.1 (aN b aU)⟩;rw [hs] at hl;unfold WX;by_cases hj:j=id
  ·rw [if_pos hj.symm];rcases hb with e|e|⟨b',e,il⟩
   ·rw [e];exact fun e2=>aN b aU e2.symm
   ·rw [e];simp
   ·rw [e];intro e2;injection e2 with e2;have:=aU.1;omega
  ·rw [if_neg hj] at hl;rw [if_neg (fun e=>hj e.symm)];by_cases cy:i=some id
   ·rw [if_pos cy] at hl;cases hl
   ·rw [if_neg cy] at hl;exact aU.2.2 id hl
 have bp:∀ id b,id≠j→i≠some id→(s.ob id).ao≠.dead→β id=some b→b<w.heap.size∧w'.heap[b]? = w.heap[b]?∧v.ownBlock≠some b:=fun id b hj cy hl aU=>by
  have aA:=((h.obj id hl).lt aU).2;have na:some b≠i.bind β:=fun e=>by
   cases i with
   | none => simp at e
   | some i =>
    have:=h.inj id i b hl (Zn.bc (hi i rfl)) aU (by simpa using e.symm);exact cy (by rw [this])
  refine ⟨aA,hg.block b aA na,?_⟩;rcases hb with e|e|⟨b',e,il⟩
  ·rw [e];exact fun e2=>na e2.symm
  ·rw [e];simp
  ·rw [e];intro e2;injection e2 with e2;omega
 refine h.step (C:=fun id=>id=j∨i=some id) h.size h.defers (h.bB.grown hg h.bB.size cE) hI (fun k=>.inl ⟨rfl,aO k⟩) (fun id hC=>?_) (fun id hC=>?_) (fun id hC hl eu=>?_) (fun id hC hl T'=>?_) ?_ ?_
 ·have hj:¬ id=j:=fun e=>hC (.inl e);have cy:¬ i=some id:=fun e=>hC (.inr e);refine ⟨by rw [hs,if_neg (fun e=>hj e.symm),if_neg cy],by unfold WX;rw [if_neg hj],fun hl b aU=>(bp id b hj cy hl aU).2.1⟩
 ·rw [hs];split
  ·rename_i e;subst e;rw [Gb];omega
  ·split <;> simp
 ·rw [hs] at hl eu;split at hl
  ·rename_i e;rw [if_pos e] at eu;subst e;rw [Gb] at eu;omega
  ·rename_i e;rcases hC with hC|hC
   ·exact absurd hC.symm e
   ·rw [if_pos hC] at hl;simp at hl
 ·rw [hs] at hl ⊢;split at hl
  ·rename_i e;subst e;rw [if_pos rfl];unfold WX;rw [if_pos rfl];exact pG hI T'
  ·rename_i e;rcases hC with hC|hC
   ·exact absurd hC.symm e
   ·rw [if_pos hC] at hl;simp at hl
 ·intro id aL b hl bn e e';unfold WX at e e';rw [hs] at hl bn;by_cases hj:id=j
  ·by_cases dT : aL=j
   ·rw [hj,dT]
   ·rw [if_pos hj] at e;rw [if_neg dT] at e';rw [if_neg (fun e=>dT e.symm)] at bn;by_cases cy:i=some aL
    ·rw [if_pos cy] at bn;simp at bn
    ·rw [if_neg cy] at bn;exact absurd e (bp aL b dT cy bn e').2.2
  ·rw [if_neg hj] at e;rw [if_neg (fun e=>hj e.symm)] at hl;have cy:¬ i=some id:=fun cy=>by rw [if_pos cy] at hl;simp at hl
   rw [if_neg cy] at hl;by_cases dT : aL=j
   ·rw [if_pos dT] at e';exact absurd e' (bp id b hj cy hl e).2.2
   ·rw [if_neg dT] at e';rw [if_neg (fun e=>dT e.symm)] at bn;have Bd : ¬ i=some aL:=fun cy=>by rw [if_pos cy] at bn;simp at bn
    rw [if_neg Bd] at bn;exact h.inj id aL b hl bn e e'
 ·intro b aA hn;have na:some b≠i.bind β:=fun e=>by
   cases i with
   | none => simp at e
   | some i => exact hn i (Zn.bc (hi i rfl)) (by simpa using e.symm)
  refine ⟨hg.block b aA na,fun id hl e=>?_⟩;unfold WX at e;rw [hs] at hl;by_cases hj:id=j
  ·rw [if_pos hj] at e;rcases hb with e2|e2|⟨b',e2,il⟩
   ·rw [e2] at e;exact na e.symm
   ·rw [e2] at e;simp at e
   ·rw [e2] at e;injection e with e;omega
  ·rw [if_neg hj] at e;rw [if_neg (fun e=>hj e.symm)] at hl;have cy:¬ i=some id:=fun cy=>by rw [if_pos cy] at hl;simp at hl
   rw [if_neg cy] at hl;exact hn id hl e
section
variable {c:Ctx} {w0 w:World} {J:JJ} {s:ah} {a:Act} {β:Nat→Option Nat} {dst:Option Nat} {ty:TypeId} {pos:String} {after:Array Edge} {g:Option (Nat×Bool)}
theorem zgp (h:FR c.N w0 J s a w β) (hk:(c.ty T).k.bD = some false) (x:Operand) {id o:Nat} (ex:s.ev x=.ptr id ae j o) (bN:(s.ob id).ao=.aj) (aK:(s.ob id).ae=ae) (hj:(s.ob id).es[j]? = some row) (ho:row[o]? = some f) :
  ZO c w0 J s a ⟨dst,.load T x,ty,pos,after,g⟩ w f []:=by
 have au:(s.ob id).ao≠.dead:=by rw [bN];decide
 obtain ⟨_,b,hb,hv⟩:=h.dA ex au aK;obtain ⟨cur,cap,bp,hn,hm,bk,hl,hr⟩:=h.gO bN hb;have hH:=(h.obj id au).eB (by rw [bN];rfl) (by rw [bN];rfl);have hw:=hH.wide;have cN:=(yq.1 hj).1;have pC:=QB _ hw j o row f hj ho;obtain ⟨p,hp⟩:∃ p,j * (s.ob id).sz+o=p:=⟨_,rfl⟩
 rw [hp] at pC hv;have hpf:p<(s.ob id).es.length * (s.ob id).sz:=by have:=(yq.1 pC).1;rwa [xD hw] at this
 have Ot:p<cur.size:=by
  have:(s.ob id).es.length * (s.ob id).sz≤cap * (s.ob id).sz:=ZG _ hn;omega
 have hu:(cur.toList.take ((s.ob id).es.length * (s.ob id).sz))[p]? = some cur[p]:=by
  rw [xG,if_pos hpf];simp [Ot]
 have aI:w.cell? ⟨b,p,none⟩=some cur[p]:=by
  have:=cell_of_row w b p cur (s.ob id).E (0,0) bp;rw [this];simp [Ot]
 refine .pure h (v:=cur[p]) ?_ (hr p _ f hu pC) (fun aL br e=>hH.bE f (zG pC) aL br e);have:(loadVar T ⟨b,p,none⟩).run c.P w=.ok cur[p] w:=by simp [loadVar,HJ hk,load,Sem.run,aI]
 simp [execOp,Instr.loadAt,hv,Instr.sureAddr,this]
theorem X3 (h:FR c.N w0 J s a w β) (hk:(c.ty T).k≠.other) (hz:(c.ty T).size=1) (x y:Operand) {id o:Nat} (ex:s.ev x=.ptr id ae j o) (bN:(s.ob id).ao=.aj) (aK:(s.ob id).ae=ae) {uT:List FV} (ey:s.ev y=f)
  (hf:Xh s f) (hj:(s.ob id).es[j]? = some uT) (ho:o<uT.length) :
  ∃ w',(execOp a.eval ⟨dst,.store T x y,ty,pos,after,g⟩).run c.P w=.ok .skip w'∧FR c.N w0 J (s.wr [(id,{ s.ob id with es:=(s.ob id).es.set j (uT.set o f) })]) a w' β:=by
 have au:(s.ob id).ao≠.dead:=by rw [bN];decide
 obtain ⟨_,b,hb,rW⟩:=h.dA ex au aK;obtain ⟨cur,cap,bp,hn,hm,bk,hl,hr⟩:=h.gO bN hb;have hH:=(h.obj id au).eB (by rw [bN];rfl) (by rw [bN];rfl);have hw:=hH.wide;obtain ⟨kP,nH⟩:=Xh.val h ey hf;have eF:=h.ev y;have eu:∀ aL br,(aL,br)∈f.hands→br≤(s.ob aL).ae:=fun aL br e=>h.cg y (by rw [ey];exact e);rw [ey] at eF;generalize hy:a.eval y=v at kP nH eF;obtain ⟨p,hp⟩:∃ p,j * (s.ob id).sz+o=p:=⟨_,rfl⟩
 have cN:=(yq.1 hj).1;have bK:uT.length=(s.ob id).sz:=hw _ (zG hj);have gB:p<(s.ob id).es.length * (s.ob id).sz:=by
  have:(j+1) * (s.ob id).sz≤(s.ob id).es.length * (s.ob id).sz:=ZG _ cN;rw [yu,Ut] at this;omega
 have Ot:p<cur.size:=by
  have:(s.ob id).es.length * (s.ob id).sz≤cap * (s.ob id).sz:=ZG _ hn;omega
 rw [hp] at rW;have aO:=run_storeCells_at c.P b p (s.ob id).E [v] 0 cur w bp zM (by simpa using nH);simp only [ZZ] at aO;have qz:p<cur.toList.length:=by simp;omega
 obtain ⟨W,hW⟩:∃ W,W=w.setRow b (av cur.toList p [v]).toArray:=⟨_,rfl⟩
 have l7:W.heap[b]? = some (.cells (cur.toList.set p v).toArray (s.ob id).E (0,0)):=by rw [hW,zja v qz];exact Zt w b _ cur _ bp
 have hg:w.grownBy W (some b):=by
  subst hW;exact ⟨rfl,rfl,rfl,by simp [World.setRow],fun k hk aN=>Yg w b k _ (fun e=>aN (by rw [e]))⟩
 have aA:=(h.obj id au).lt hb;refine ⟨W,?_,?_⟩
 ·have hs:=ZK (c:=c) hk w;have nV : (storeCells ⟨b,p,none⟩ [v]).run c.P w=.ok () W:=by rw [hW];exact aO
  simp [execOp,Instr.storeAt,storeVar,rW,hy,Instr.sureAddr,hs,hz,kP,nV]
 ·have aR:∀ k,(s.wr [(id,{ s.ob id with es:=(s.ob id).es.set j (uT.set o f) })]).ob k=if id=k then { s.ob id with es:=(s.ob id).es.set j (uT.set o f) } else s.ob k:=fun k=>ah.ay s id _ k
  have hI:∀ b',aF J w β s b'→aF J W β (s.wr [(id,{ s.ob id with es:=(s.ob id).es.set j (uT.set o f) })]) b'∧W.heap[b']? = w.heap[b']?:=fun b' aU=>by
   refine ⟨⟨xx aU.1 hg.size,aU.2.1,fun aL bn=>?_⟩,hg.block b' aU.1 (fun e=>aU.2.2 id (by rw [bN];rfl) (by rw [hb];exact e.symm))⟩;rw [aR] at bn;split at bn
   ·rename_i e;subst e;exact aU.2.2 id (by rw [bN];rfl)
   ·exact aU.2.2 aL bn
  refine h.step (C:=fun k=>k=id) h.size h.defers (h.bB.grown hg h.bB.size (fun k hk=>by injection hk with hk;subst hk;exact aA.1)) hI (fun k=>.inl ⟨rfl,rfl⟩) (fun k hC=>?_) (fun k hC=>?_) (fun k hC bA OT=>?_) (fun k hC bA T'=>?_) ?_ (fun b' nM hn=>⟨hg.block b' nM (fun e=>hn id au (by rw [hb];exact e.symm)),fun k bA=>hn k (by rw [aR] at bA;split at bA;(· rename_i e;subst e;exact au);(· exact bA))⟩)
  ·refine ⟨by rw [aR,if_neg (fun e=>hC e.symm)],rfl,fun bA b' aU=>hg.block b' ((h.obj k bA).lt aU).2 (fun e=>hC (h.inj k id b' bA au aU (by rw [hb];exact e.symm)))⟩
  ·subst hC;rw [aR,if_pos rfl];exact zg _
  ·subst hC;refine ⟨au,rfl,by rw [aR,if_pos rfl],by rw [aR,if_pos rfl],fun v2 o n pN=>?_⟩;rw [aR,if_pos rfl];obtain ⟨A,cc,q1,q2,q3,q4,q5⟩:=pN.ex;refine ⟨pN.row,A,cc,q1,q2,by simpa using q3,q4,fun b2 aU=>?_⟩;obtain ⟨o',k1,k2,k3⟩:=q5 b2 aU;refine ⟨o',k1,k2,fun dG fK=>?_⟩;rw [hb] at aU;injection aU with aU
   subst aU;dsimp only at fK;rw [l7] at fK;injection fK with fK
   injection fK with fK _ _
   rw [← fK];have:=k3 cur bp;simpa using this
  ·subst hC;rw [aR,if_pos rfl];have cU:∀ aL,(s.ob aL).ae≤((s.wr [(k,{ s.ob k with es:=(s.ob k).es.set j (uT.set o f) })]).ob aL).ae:=fun aL=>by
    rw [aR];split
    ·rename_i e;subst e;exact zg _
    ·exact zg _
   have cu:=QC _ hw j o uT f hj ho;rw [hp] at cu;have nL:(s.ob k).es.flatten.length=(s.ob k).es.length * (s.ob k).sz:=xD hw;refine .ld ⟨fun e he=>?_,fun f' bS aL br e=>?_,.slice (some ⟨b,0,none⟩) (s.ob k).es.length cap,(cur.toList.take ((s.ob k).es.length * (s.ob k).sz)).set p v,?_,by rw [hb];rfl,?_,fun i u f' hu bS=>?_⟩ bN
   ·rcases ZE he with h'|h'
    ·exact hw e h'
    ·subst h';rw [yA];exact bK
   ·dsimp only at bS;rw [cu] at bS;refine yc ?_ (cU aL);rcases ZE bS with h'|h'
    ·exact hH.bE f' h' aL br e
    ·subst h';exact eu aL br e
   ·simp only [yA];refine ⟨by rw [yA,hl,nL],.inr ⟨b,cap,_,rfl,aA.1,l7,hn,hm,by simpa using bk,?_⟩⟩;simp only [List.take_set]
   ·dsimp only;rw [yA,hl,cu,yA]
   ·dsimp only at bS;rw [cu] at bS;rw [WH] at hu bS;by_cases dc:p=i
    ·subst dc;rw [if_pos rfl] at hu bS;split at hu
     ·split at bS
      ·injection hu with hu
       injection bS with bS
       subst hu;subst bS;exact T' _ _ eF eu
      ·cases bS
     ·cases hu
    ·rw [if_neg dc] at hu bS;exact T' _ _ (hr i u f' hu bS) (hH.bE f' (zG bS))
  ·intro k k' b' bA ep e e';refine h.inj k k' b' ?_ ?_ e e'
   ·rw [aR] at bA;split at bA
    ·rename_i e;subst e;exact au
    ·exact bA
   ·rw [aR] at ep;split at ep
    ·rename_i e;subst e;exact au
    ·exact ep
theorem Xh.one {I:Nat→Prop} {v:Value} {f:FV} (hv:VR w I β s v f) (hf:Xh s f):v.cells=#[v]∧v.oneCell'=true:=by
 rcases hf with h1|⟨id,ae,o,n,rfl,hl⟩|⟨id,ae,j,o,rfl,hl⟩|⟨k,fs,rfl⟩|⟨id,ae,rfl,hl⟩
 ·have hn:f.hand=none:=by cases f <;> first|rfl|(simp [FV.one] at h1)
  have hr:=VR.rd hv hn;cases hr <;> first|exact ⟨rfl,rfl⟩|(simp [FV.one] at h1)
 ·obtain ⟨A,cc,e,_⟩:=(hv hl.1 hl.2).ex;rw [e];exact ⟨rfl,rfl⟩
 ·obtain ⟨_,b,_,e⟩:=hv hl.1 hl.2;rw [e];exact ⟨rfl,rfl⟩
 ·obtain ⟨us,e,_⟩:=hv;rw [e];exact ⟨rfl,rfl⟩
 ·obtain ⟨_,b,_,e⟩:=hv hl.1 hl.2;rw [e];exact ⟨rfl,rfl⟩
theorem zm7 (h:FR c.N w0 J s a w β) (hT:(c.ty T).k=.aQ [(0,a1),(1,a2)]) (h1:(c.ty a1).k≠.other) (h2:(c.ty a2).k≠.other) (nY:(c.ty a1).size=1) (ni:(c.ty a2).size=1) (hz:(c.ty T).zero=[z1,z2]) (nZ:z1.hand=none) (y:Operand) (ey:s.ev y=f) (hf:Xh s f) (vT:f.bG=true) :
  ZO c w0 J s a ⟨dst,.build T #[(1,y)],ty,pos,after,g⟩ w (.wrap .agg [z1,f]) []:=by
 obtain ⟨d,i,z,ht⟩:=c.get hT zc;have hd:=ht.k;rw [hT] at hd;obtain ⟨gs,rfl,pz,_⟩:=WV hd;have iY:∀ p∈[(0,a1),(1,a2)],(c.ty p.2).k≠.other:=fun p hp=>by
  simp at hp;rcases hp with rfl|rfl
  ·exact h1
  ·exact h2
 have hp:gs.toList.mapM (fun f=>(c.P.info? f.type).map fun i=>(f.offset,i.size))=some (gs.toList.map fun f=>(f.offset,(c.ty f.type).size)):=by
  have key:∀ (l:List Field),(∀ f∈l,(c.ty f.type).k≠.other)→l.mapM (fun f=>(c.P.info? f.type).map fun i=>(f.offset,i.size))=some (l.map fun f=>(f.offset,(c.ty f.type).size)):=by
   intro l
   induction l with
   | nil => intro _; rfl
   | cons f l ih =>
    intro hl;obtain ⟨d',i',z',cS⟩:=c.get rfl (hl f zc);simp only [HB,cS.info,Za,KN,Yb,ih (fun f hf=>hl f (by simp [hf])),KO,cS.size,zZ]
  refine key _ (fun f hf=>iY (f.offset,f.type) ?_);rw [pz];exact zi.2 ⟨f,hf,rfl⟩
 have gB:gs.toList.map (fun f=>(f.offset,(c.ty f.type).size))=[(0,1),(1,1)]:=by
  have:gs.toList.map (fun f=>(f.offset,(c.ty f.type).size))=(gs.toList.map fun f=>(f.offset,f.type)).map fun p=>(p.1,(c.ty p.2).size):=by rw [xb];rfl
  rw [this,← pz];simp [nY,ni]
 have eF:=h.ev y;rw [ey] at eF;obtain ⟨c1,c2⟩:=Xh.val h ey hf;obtain ⟨u1,u2,Dn⟩:∃ u1 u2,z.cells.toList=[u1,u2]:=by
  have hl:=ht.zl;have hr:=(aS.zeros (w:=w) (I:=aF J w β s) ht.zr).1;rw [hz] at hr
  match z.cells.toList,hr with
  | [u1, u2], _ => exact ⟨u1, u2, rfl⟩
 have BH : z.cells=#[u1,u2]:=by apply xU;rw [Dn]
 have GA:Rd w (aF J w β s) u1 z1:=(aS.zeros (w:=w) (I:=aF J w β s) ht.zr).2 0 u1 z1 (by rw [Dn];rfl) (by rw [hz];rfl);have hb:c.P.built T [(1,a.eval y)]=some #[u1,a.eval y]:=by
  unfold Program.built;simp only [ht.info,ht.u,ht.zo,hp,gB];simp [Instr.fill,c1,BH]
 refine .pure h (v:=.agg #[u1,a.eval y]) ?_ ⟨[u1,a.eval y],rfl,rfl,fun j u q hu hq=>?_⟩ fun id ae hm=>?_
 ·have:=run_build (P:=c.P) w T #[(1,a.eval y)] #[u1,a.eval y] (by simpa using hb);simp only [execOp,xy];simp [this]
 ·match j with
  | 0 => injection hu with hu; injection hq with hq; subst hu; subst hq; exact (VR.aX GA nZ).om (fun k fs e => by subst e; cases GA)
  | 1 => injection hu with hu; injection hq with hq; subst hu; subst hq; exact eF.om (fun k fs e => by subst e; cases vT)
  | j+2 => simp at hu
 ·obtain ⟨q,hq,e⟩:=Ke hm;rcases zA.1 hq with rfl|hq
  ·rw [nZ] at e;cases e
  ·rw [zq.1 hq] at e;exact h.cg y (by rw [ey];exact FV.bW (fun k fs e'=>by rw [e'] at vT;cases vT) e)
theorem zlj (h:FR c.N w0 J s a w β) (d:Nat) {e:Nat} (hT:(c.ty T).k=.slice e) (he:(c.ty e).k≠.other) (x:Operand) (ex:s.ev x=.wrap .agg fs) (cu:fs.length=(c.ty e).size) (bm:0<(c.ty e).size) (dB:(c.ty e).size≤16777216) (pq:∀ f∈fs,Xh s f) :
  ZO c w0 J s a ⟨some d,.buildSlice T 1 #[(0,x)],ty,pos,after,g⟩ w (.own d ((s.ob d).ae+1) 0 1) [(d,⟨(s.ob d).ae+1,.aj,e,(c.ty e).size,[fs]⟩)]:=by
 obtain ⟨dd,i,z,ht⟩:=c.get hT zc;have hd:=ht.k;rw [hT] at hd;obtain rfl:=xJ hd;obtain ⟨d',i',z',cS⟩:=c.get rfl he;obtain ⟨us,hv,iq⟩:=h.mR ex;have lG:us.length=(c.ty e).size:=iq.len.trans cu;have rz:=KQ w (.cells us.toArray e) none;have hs:=ZK (c:=c) he w;obtain ⟨zz,hz,_,_⟩:=ZX he w;obtain ⟨A0,iU⟩:∃ A0:Array Value,(Array.range (1 * (c.ty e).size)).map (fun x=>zz.cells[x % zz.cells.size]!)=A0:=⟨_,rfl⟩
 have aY:A0.size=(c.ty e).size:=by rw [← iU];simp
 have dO:Instr.fill (fun i=>some (i * (c.ty e).size,(c.ty e).size)) A0 [(0,a.eval x)]=some us.toArray:=by
  have hc:(a.eval x).cells=us.toArray:=by rw [hv];rfl
  have mj:=QF us 0 0 A0 za;simp only [Instr.fill,hc,Ya];rw [if_neg (by simp [lG,aY])];refine congrArg some ?_;apply xU;rw [← Array.foldl_toList];rw [show us.toArray.zipIdx.toList=us.zipIdx 0 by simp];refine mj.trans ?_;unfold av;rw [yh,P7,YQ,VN zM,zT]
 have bg:(execOp a.eval ⟨some d,.buildSlice T 1 #[(0,x)],ty,pos,after,g⟩).run c.P w=.ok (.value (.slice (some ⟨w.heap.size,0,none⟩) 1 1)) (w.alloc (.cells us.toArray e)):=by
  have oH : ¬ (16777216<1 * (c.ty e).size):=by omega
  have h0:¬ (1 * (c.ty e).size=0):=by omega
  have Jf : ¬ ((c.ty e).size=0):=by omega
  have Fo:¬ (16777216<(c.ty e).size):=by omega
  rw [Ut] at iU;simp [execOp,Instr.buildSlice,run_underlying ht.u,hs,Fo,Jf,hz,newRow,iU,dO]
 have aj:(w.alloc (.cells us.toArray e)).ownsRow w0.heap.size e (c.ty e).size (.slice (some ⟨w.heap.size,0,none⟩) 1 1) 1 us:=
  ⟨by omega,.inr ⟨w.heap.size,1,us.toArray,rfl,h.bB.size,heap_alloc_new w _,zg _,by unfold maxLen;omega,by simp [lG],by rw [zS zM]⟩⟩
 have hF:=h.sa none d (nb:=⟨(s.ob d).ae+1,.aj,e,(c.ty e).size,[fs]⟩) (v:=.slice (some ⟨w.heap.size,0,none⟩) 1 1) (s':=s.set d ⟨(s.ob d).ae+1,.aj,e,(c.ty e).size,[fs]⟩) (fun k e=>by cases e) rz (.inr (.inr ⟨_,rfl,zg _⟩)) rfl
  (fun k=>by rw [ah.ay];simp) (fun k=>rfl) (fun hI T'=>by
   refine .ld ⟨fun q hq=>by rw [zq.1 hq];exact cu,fun q hq id ae hm=>?_,_,us,aj,rfl,by simp [iq.len],fun j u q hu hq=>?_⟩ rfl
   ·have hq:q∈fs:=by simpa using hq
    obtain ⟨j,hj,rfl⟩:=zU hq;have vW:j<us.length:=by have:=iq.len;omega
    have:=(iq.get j us[j] fs[j] (by simp [vW]) (by simp [hj])).2 id ae hm;rw [ah.ay];split
    ·rename_i e;subst e;exact Nat.le_succ_of_le this
    ·exact this
   ·have hq:fs[j]? = some q:=by simpa using hq
    obtain ⟨k1,k2⟩:=iq.get j u q hu hq;exact T' u q k1 k2)
 refine ⟨_,_,_,bg,hF,fun _ _=>?_,fun id ae e=>?_⟩
 ·show fh _ (WX β d _ d) (ah.ob (ah.set s d _) d) _ _ _;rw [yM,ah.ay,if_pos rfl];exact fh.gX aj rfl rfl rfl rfl
 ·simp only [FV.hands,zq,xf] at e;obtain ⟨rfl,rfl⟩:=e;show _≤(ah.ob (ah.set s _ _) _).ae;rw [ah.ay,if_pos rfl];exact zg _
theorem zpN (h:FR c.N w0 J s a w β) (d:Nat) {e:Nat} (hT:(c.ty T).k=.slice e) (he:(c.ty e).k≠.other) (bm:0<(c.ty e).size) (x y:Operand) {id fO fX m:Nat} (ex:s.ev x=.own id ae 0 n) (qA:(s.ob id).ao=.aj) (GL:(s.ob id).ae=ae)
  (ER:(s.ob id).E=e) (nY:(s.ob id).sz=(c.ty e).size) (hn:n=(s.ob id).es.length) (ey:s.ev y=.own fO fX 0 m) (bA:(s.ob fO).ao=.aj) (pN:(s.ob fO).ae=fX) (ni:(s.ob fO).sz=(c.ty e).size) (hm:m=(s.ob fO).es.length) (kV:0<m)
  (pq:∀ f∈(s.ob fO).es.flatten,Xh s f) (hb:(n+m) * (c.ty e).bytes≤140737488355328) (hmx:n+m≤140737488355328) :
  ZO c w0 J s a ⟨some d,.call { callee:=.builtin .append,args:=#[x,y],argTypes:=#[T,T] },ty,pos,after,g⟩ w (.own d ((s.ob d).ae+1) 0 (n+m)) [(id,{ s.ob id with ao:=.dead }),(d,⟨(s.ob d).ae+1,.aj,e,(c.ty e).size,(s.ob id).es++(s.ob fO).es⟩)]:=by
 obtain ⟨dd,ii,z,ht⟩:=c.get hT zc;have hd:=ht.k;rw [hT] at hd;obtain rfl:=xJ hd;obtain ⟨d',i',z',cS⟩:=c.get rfl he;have pR:z'.cells.size=(c.ty e).size:=by
  have:=(aS.zeros (w:=w) (I:=aF J w β s) cS.zr).1;rw [cS.zl] at this;simpa using this
 have rD:(s.ob id).ao≠.dead:=by rw [qA];decide
 have rE:(s.ob fO).ao≠.dead:=by rw [bA];decide
 have Jl:=(h.obj id rD).eB (by rw [qA];rfl) (by rw [qA];rfl);have MP:=(h.obj fO rE).eB (by rw [bA];rfl) (by rw [bA];rfl);have eK:=Jl.wide;have ew:=MP.wide;rw [nY] at eK;rw [ni] at ew;obtain ⟨v1,h9,BG,mE,l8,uM,OQ⟩:∃ v1 h9,a.eval x=v1∧w.ownsRow w0.heap.size e (c.ty e).size v1 n h9∧v1.ownBlock=β id∧h9.length=(s.ob id).es.flatten.length∧∀ (j:Nat) u f,h9[j]? = some u→(s.ob id).es.flatten[j]? = some f→VR w (aF J w β s) β s u f:=by
  obtain ⟨A,cc,e1,e2,e3,e4,e5⟩:=(h.cj ex rD GL).ex;obtain ⟨v,us,r1,r2,r3,r4⟩:=Jl.row;rw [ER,nY,← hn] at r1;refine ⟨v,us,?_,r1,r2,r3,r4⟩;rw [e1];rcases r1.2 with ⟨rfl,h0⟩|⟨b,cap,cur,rfl,_,ec,_,_,bk,_⟩
  ·have jt:β id=none:=by rw [← r2];rfl
   obtain ⟨rfl,rfl⟩:=e4 jt;rw [h0]
  ·have jt:β id=some b:=by rw [← r2];rfl
   obtain ⟨o',rfl,k2,k3⟩:=e5 b jt;have:=k3 cur (by rw [ER];exact ec);rw [bk,yh,nY] at this;have AR:cap=cc:=HD bm this;rw [k2 (.inr rfl),AR];simp
 obtain ⟨A2,c2,e1,e2,e3,e4,e5⟩:=(h.cj ey rE pN).ex;obtain ⟨b2,dZ⟩:∃ b2,β fO=some b2:=by
  cases dZ:β fO with
  | none => have := (e4 dZ).2; omega
  | some b2 => exact ⟨b2, rfl⟩
 obtain ⟨o',rfl,k2,_⟩:=e5 b2 dZ;have eJ:=k2 (.inr rfl);rw [Ya] at eJ;subst eJ;obtain ⟨cur,cap,bp,hcn,vN,bk,ch,JB⟩:=h.gO bA dZ;rw [← hm,ni] at ch JB;obtain ⟨eD,GJ⟩:∃ eD,cur.toList.take (m * (c.ty e).size)=eD:=⟨_,rfl⟩
 rw [GJ] at ch JB;have mv:eD.length=m * (c.ty e).size:=by rw [ch,xD ew,← hm]
 have Ar:∀ u∈eD,u.oneCell'=true:=by
  intro u hu;obtain ⟨j,hj,rfl⟩:=zU hu;have gT:j<(s.ob fO).es.flatten.length:=by rw [← ch];exact hj
  exact (Xh.one (JB j eD[j] (s.ob fO).es.flatten[j] (by simp [hj]) (by simp [])) (pq _ (xH gT))).2
 have eg:∀ (j:Nat) u,eD[j]? = some u→w.cell? ((⟨b2,0,none⟩:Addr).add j)=some u:=fun j u hu=>by
  rw [ZD,yh,cell_of_row w b2 _ cur _ (0,0) bp];rw [← GJ,xG] at hu;split at hu
  ·simpa using hu
  ·cases hu
 obtain ⟨v',w',bg,c7,rz,_,rF⟩:=run_append_own_at (P:=c.P) w w0.heap.size T ty e i' z' (c.ty e).size (c.ty e).bytes ht.u cS.info cS.zo cS.size cS.bytes pR bm v1 n h9 mE ⟨b2,0,none⟩ m c2 eD mv eg Ar (by unfold maxLen;omega) hb h.bB.size;have ju:(execOp a.eval ⟨some d,.call { callee:=.builtin .append,args:=#[x,y],argTypes:=#[T,T] },ty,pos,after,g⟩).run c.P w=.ok (.value v') w':=by
  simp [execOp,resolve,invoke,builtin,BG,e1,bg]
 have fS:((s.ob id).es++(s.ob fO).es).length=n+m:=by rw [zN,← hn,← hm]
 have aK:∀ k,(s.ob k).ae≤((s.wr [(id,{ s.ob id with ao:=.dead }),(d,⟨(s.ob d).ae+1,.aj,e,(c.ty e).size,(s.ob id).es++(s.ob fO).es⟩)]).ob k).ae:=fun k=>by
  rw [Cp];split
  ·rename_i e;subst e;exact Us _
  ·split
   ·rename_i e;subst e;exact zg _
   ·exact zg _
 have aR:(s.wr [(id,{ s.ob id with ao:=.dead }),(d,(⟨(s.ob d).ae+1,.aj,e,(c.ty e).size,(s.ob id).es++(s.ob fO).es⟩:zE))]).ob d=⟨(s.ob d).ae+1,.aj,e,(c.ty e).size,(s.ob id).es++(s.ob fO).es⟩:=by rw [Cp,if_pos rfl]
 have Ax:=h.sa (some id) d (nb:=⟨(s.ob d).ae+1,.aj,e,(c.ty e).size,(s.ob id).es++(s.ob fO).es⟩) (v:=v') (s':=s.wr [(id,{ s.ob id with ao:=.dead }),(d,⟨(s.ob d).ae+1,.aj,e,(c.ty e).size,(s.ob id).es++(s.ob fO).es⟩)]) (fun k hk=>by injection hk with hk;subst hk;rw [qA];rfl)
  (by rw [Yb,← l8];exact rz) (by
   rw [Yb,← l8];rcases rF with e|e
   ·exact .inl e
   ·exact .inr (.inr ⟨_,e,zg _⟩)) rfl (fun k=>by
    rw [Cp];split
    ·rfl
    ·by_cases dS:id=k
     ·subst dS;simp
     ·rw [if_neg dS,if_neg (by simpa using dS)]) (fun k=>ah.eO _ _ _) (fun hI T'=>by
   refine .ld ⟨fun q hq=>?_,fun q hq k ae hk=>?_,v',h9++eD,by dsimp only;rw [fS];exact c7,rfl,by dsimp only;rw [Xe,zN,zN,uM,ch],fun j u f hu hf=>?_⟩ rfl
   ·rcases zC.1 hq with h'|h'
    ·exact eK q h'
    ·exact ew q h'
   ·dsimp only at hq;rw [Xe] at hq;refine yc ?_ (aK k);rcases zC.1 hq with h'|h'
    ·exact Jl.bE q h' k ae hk
    ·exact MP.bE q h' k ae hk
   ·dsimp only at hf;rw [Xe] at hf;rcases yg j h9.length with hj|hj
    ·rw [xO hj] at hu;rw [xO (by rw [← uM];exact hj)] at hf;exact T' u f (OQ j u f hu hf) (Jl.bE f (zG hf))
    ·rw [Zd hj] at hu;rw [Zd (by rw [← uM];exact hj),← uM] at hf;exact T' u f (JB _ u f hu hf) (MP.bE f (zG hf)))
 refine ⟨v',w',_,ju,Ax,fun _ _=>?_,fun k ae e=>?_⟩
 ·rw [aR,yM];exact fh.gX c7 fS rfl rfl rfl
 ·simp only [FV.hands,zq,xf] at e;obtain ⟨e1,e2⟩:=e;replace e1:=e1.symm;replace e2:=e2.symm;subst e1;subst e2;rw [aR];exact zg _
end
section
variable {c:Ctx} {ops:Array Oper} {rest:List Oper} {t:List (Nat×FV)} {ob:List (Nat×zE)} {d:Nat} {ty:TypeId} {pos:String} {af:Array Edge} {gd:Option (Nat×Bool)} {QS:ah→Prop}
theorem Ci (hd:Nat.blt d c.N=true) (hw:ZB ops ⟨t,ob⟩ (⟨some d,op,ty,pos,af,gd⟩:Oper) true)
  (hg:∀ (w0:World) (J:JJ) (a:Act) (w:World) (β:Nat→Option Nat),FR c.N w0 J ⟨t,ob⟩ a w β→ZO c w0 J ⟨t,ob⟩ a ⟨some d,op,ty,pos,af,gd⟩ w f wr)
  (k:zt c ops rest (((⟨t,ob⟩:ah).wr wr).put d f) QS):zt c ops ((⟨some d,op,ty,pos,af,gd⟩:Oper)::rest) ⟨t,ob⟩ QS:=fun QQ w0 J a w β hQ hF=>by
 unfold wpList;rw [if_pos (hw.model hF)];refine .inl ?_;exact ZO.wp (hg w0 J a w β hF) (fun d' e=>by injection e with e;subst e;exact zO hd) fun a' w' aJ eW=>k QQ w0 J a' w' aJ hQ eW
theorem XC {id o:Nat} (hx:(⟨t,ob⟩:ah).ev x=.ptr id ae j o) (hk:(c.ty T).k.bD = some false) (hb:(⟨t,ob⟩:ah).ob id=⟨ae,.aj,E,sz,es⟩) (hj:es[j]? = some row) (ho:row[o]? = some f) (hd:Nat.blt d c.N=true) (hw:ZB ops ⟨t,ob⟩ (⟨some d,.load T x,ty,pos,af,gd⟩:Oper) true)
  (k:zt c ops rest ⟨(d,f)::t,ob⟩ QS):zt c ops ((⟨some d,.load T x,ty,pos,af,gd⟩:Oper)::rest) ⟨t,ob⟩ QS:=
 Ci (wr:=[]) hd hw (fun w0 J a w β hF=>zgp hF hk x hx (by rw [hb]) (by rw [hb]) (by rw [hb];exact hj) ho) k
theorem ziZ {id o:Nat} (hx:(⟨t,ob⟩:ah).ev x=.ptr id ae j o) (hy:(⟨t,ob⟩:ah).ev y=f) (hf:Xh ⟨t,ob⟩ f) (hk:(c.ty T).k.known=true) (hz:(c.ty T).size=1) (hb:(⟨t,ob⟩:ah).ob id=⟨ae,.aj,E,sz,es⟩) (hj:es[j]? = some row) (ho:o<row.length) (hw:ZB ops ⟨t,ob⟩ (⟨none,.store T x y,ty,pos,af,gd⟩:Oper) true)
  (k:zt c ops rest ⟨t,(id,⟨ae,.aj,E,sz,es.set j (row.set o f)⟩)::ob⟩ QS):zt c ops ((⟨none,.store T x y,ty,pos,af,gd⟩:Oper)::rest) ⟨t,ob⟩ QS:=fun QQ w0 J a w β hQ hF=>by
 unfold wpList;rw [if_pos (hw.model hF)];refine .inl ?_;obtain ⟨W,h2,h3⟩:=X3 (ty:=ty) (pos:=pos) (after:=af) (g:=gd) (dst:=none) hF (TK.aB hk) hz x y hx (by rw [hb]) (by rw [hb]) hy hf (by rw [hb];exact hj) ho;unfold Oper.wp;rw [h2,Oper.upon_skip];rw [hb] at h3;exact k QQ w0 J _ W β hQ h3
theorem zs9 (hT:c.ty T=⟨.aQ [(0,a1),(1,a2)],2,c8,[z1,z2]⟩) (h1:(c.ty a1).k.known=true) (h2:(c.ty a2).k.known=true) (nY:(c.ty a1).size=1) (ni:(c.ty a2).size=1) (nZ:z1.hand=none) (hy:(⟨t,ob⟩:ah).ev y=f) (hf:Xh ⟨t,ob⟩ f) (vT:f.bG=true) (hd:Nat.blt d c.N=true) (hw:ZB ops ⟨t,ob⟩ (⟨some d,.build T #[(1,y)],ty,pos,af,gd⟩:Oper) true)
  (k:zt c ops rest ⟨(d,.wrap .agg [z1,f])::t,ob⟩ QS):zt c ops ((⟨some d,.build T #[(1,y)],ty,pos,af,gd⟩:Oper)::rest) ⟨t,ob⟩ QS:=
 Ci (wr:=[]) hd hw (fun w0 J a w β hF=>zm7 hF (by rw [hT]) (TK.aB h1) (TK.aB h2) nY ni (by rw [hT]) nZ y hy hf vT) k
theorem zqz {e:Nat} (hT:(c.ty T).k=.slice e) (he:c.ty e=⟨kk,sz,c8,z⟩) (hk:kk.known=true) (hx:(⟨t,ob⟩:ah).ev x=.wrap .agg fs) (hl:fs.length=sz) (hp:Nat.blt 0 sz=true) (hm:Nat.ble sz 16777216=true) (pq:∀ f∈fs,Xh ⟨t,ob⟩ f) (hv:(⟨t,ob⟩:ah).ob d=⟨v0,lf0,E0,gK,du⟩) (hd:Nat.blt d c.N=true) (hw:ZB ops ⟨t,ob⟩ (⟨some d,.buildSlice T 1 #[(0,x)],ty,pos,af,gd⟩:Oper) true)
  (k:zt c ops rest ⟨(d,.own d (v0+1) 0 1)::t,(d,⟨v0+1,.aj,e,sz,[fs]⟩)::ob⟩ QS):zt c ops ((⟨some d,.buildSlice T 1 #[(0,x)],ty,pos,af,gd⟩:Oper)::rest) ⟨t,ob⟩ QS:=
 Ci (wr:=[(d,⟨v0+1,.aj,e,sz,[fs]⟩)]) hd hw (fun w0 J a w β hF=>by
  have:=zlj (ty:=ty) (pos:=pos) (after:=af) (g:=gd) hF d hT (fun e1=>by rw [he] at e1;dsimp only at e1;rw [e1] at hk;cases hk) x hx (by rw [he];exact hl) (by rw [he];exact zO hp) (by rw [he];exact zO hm) pq;rw [hv,he] at this;exact this) k
theorem zuX {e id fO fX m:Nat} (hx:(⟨t,ob⟩:ah).ev x=.own id ae 0 n) (hb:(⟨t,ob⟩:ah).ob id=⟨ae,.aj,e,sz,es⟩) (hn:n=es.length) (hT:(c.ty T).k=.slice e) (he:c.ty e=⟨kk,sz,c8,z⟩) (hk:kk.known=true) (hp:Nat.blt 0 sz=true)
  (hy:(⟨t,ob⟩:ah).ev y=.own fO fX 0 m) (dZ:(⟨t,ob⟩:ah).ob fO=⟨fX,.aj,E2,sz,aG⟩) (hm:m=aG.length) (kV:0<m) (pq:∀ f∈aG.flatten,Xh ⟨t,ob⟩ f) (aU:(n+m) * c8≤140737488355328) (hmx:n+m≤140737488355328) (hv:(⟨t,ob⟩:ah).ob d=⟨v0,lf0,E0,gK,du⟩) (hd:Nat.blt d c.N=true)
  (hw:ZB ops ⟨t,ob⟩ (⟨some d,.call { callee:=.builtin .append,args:=#[x,y],argTypes:=#[T,T] },ty,pos,af,gd⟩:Oper) true)
  (k:zt c ops rest ⟨(d,.own d (v0+1) 0 (n+m))::t,(d,⟨v0+1,.aj,e,sz,es++aG⟩)::(id,⟨ae,.dead,e,sz,es⟩)::ob⟩ QS):zt c ops ((⟨some d,.call { callee:=.builtin .append,args:=#[x,y],argTypes:=#[T,T] },ty,pos,af,gd⟩:Oper)::rest) ⟨t,ob⟩ QS:=
 Ci (wr:=[(id,⟨ae,.dead,e,sz,es⟩),(d,⟨v0+1,.aj,e,sz,es++aG⟩)]) hd hw (fun w0 J a w β hF=>by
  have:=zpN (ty:=ty) (pos:=pos) (after:=af) (g:=gd) hF d hT (fun e1=>by rw [he] at e1;dsimp only at e1;rw [e1] at hk;cases hk) (by rw [he];exact zO hp) x y hx (by rw [hb]) (by rw [hb]) (by rw [hb]) (by rw [hb,he]) (by rw [hb];exact hn) hy (by rw [dZ]) (by rw [dZ]) (by rw [dZ,he]) (by rw [dZ];exact hm) kV (by rw [dZ];exact pq) (by rw [he];exact aU) hmx;rw [hv,hb,dZ,he] at this;exact this) k
end
theorem Xh.loc (h:Xh s f) (ho:∀ id ae,f.hand=some (id,ae)→s'.ob id=s.ob id):Xh s' f:=by
 rcases h with h1|⟨id,ae,o,n,rfl,hl⟩|⟨id,ae,j,o,rfl,hl⟩|⟨k,fs,rfl⟩|⟨id,ae,rfl,hl⟩
 ·exact .inl h1
 ·exact .inr (.inl ⟨id,ae,o,n,rfl,by unfold ah.live at *;rw [ho id ae rfl];exact hl⟩)
 ·exact .inr (.inr (.inl ⟨id,ae,j,o,rfl,by unfold ah.live at *;rw [ho id ae rfl];exact hl⟩))
 ·exact .inr (.inr (.inr (.inl ⟨k,fs,rfl⟩)))
 ·exact .inr (.inr (.inr (.inr ⟨id,ae,rfl,by unfold ah.live at *;rw [ho id ae rfl];exact hl⟩)))
section
variable {c:Ctx} {w0 w:World} {J:JJ} {s:ah} {a:Act} {β:Nat→Option Nat} {dst:Option Nat} {ty:TypeId} {pos:String} {after:Array Edge} {g:Option (Nat×Bool)}
theorem zna (h:FR c.N w0 J s a w β) (hT:(c.ty T).k=.aQ [(0,a1),(1,a2)]) (h1:(c.ty a1).k≠.other) (h2:(c.ty a2).k≠.other) (nY:(c.ty a1).size=1) (ni:(c.ty a2).size=1) {f1 f2:FV} (hz:(c.ty T).zero=[z1,z2]) (x y:Operand) (ex:s.ev x=f1) (ey:s.ev y=f2)
  (qw:Xh s f1) (mj:Xh s f2) (eK:f1.bG=true) (ew:f2.bG=true) :
  ZO c w0 J s a ⟨dst,.build T #[(0,x),(1,y)],ty,pos,after,g⟩ w (.wrap .agg [f1,f2]) []:=by
 obtain ⟨d,i,z,ht⟩:=c.get hT zc;have hd:=ht.k;rw [hT] at hd;obtain ⟨gs,rfl,pz,_⟩:=WV hd;have iY:∀ p∈[(0,a1),(1,a2)],(c.ty p.2).k≠.other:=fun p hp=>by
  simp at hp;rcases hp with rfl|rfl
  ·exact h1
  ·exact h2
 have hp:gs.toList.mapM (fun f=>(c.P.info? f.type).map fun i=>(f.offset,i.size))=some (gs.toList.map fun f=>(f.offset,(c.ty f.type).size)):=by
  have key:∀ (l:List Field),(∀ f∈l,(c.ty f.type).k≠.other)→l.mapM (fun f=>(c.P.info? f.type).map fun i=>(f.offset,i.size))=some (l.map fun f=>(f.offset,(c.ty f.type).size)):=by
   intro l
   induction l with
   | nil => intro _; rfl
   | cons f l ih =>
    intro hl;obtain ⟨d',i',z',cS⟩:=c.get rfl (hl f zc);simp only [HB,cS.info,Za,KN,Yb,ih (fun f hf=>hl f (by simp [hf])),KO,cS.size,zZ]
  refine key _ (fun f hf=>iY (f.offset,f.type) ?_);rw [pz];exact zi.2 ⟨f,hf,rfl⟩
 have gB:gs.toList.map (fun f=>(f.offset,(c.ty f.type).size))=[(0,1),(1,1)]:=by
  have:gs.toList.map (fun f=>(f.offset,(c.ty f.type).size))=(gs.toList.map fun f=>(f.offset,f.type)).map fun p=>(p.1,(c.ty p.2).size):=by rw [xb];rfl
  rw [this,← pz];simp [nY,ni]
 have rW:=h.ev x;rw [ex] at rW;have Dk:=h.ev y;rw [ey] at Dk;obtain ⟨c1,_⟩:=Xh.val h ex qw;obtain ⟨c2,_⟩:=Xh.val h ey mj;obtain ⟨u1,u2,Dn⟩:∃ u1 u2,z.cells.toList=[u1,u2]:=by
  have hr:=(aS.zeros (w:=w) (I:=aF J w β s) ht.zr).1;rw [hz] at hr
  match z.cells.toList,hr with
  | [u1, u2], _ => exact ⟨u1, u2, rfl⟩
 have BH : z.cells=#[u1,u2]:=by apply xU;rw [Dn]
 have hb:c.P.built T [(0,a.eval x),(1,a.eval y)]=some #[a.eval x,a.eval y]:=by
  unfold Program.built;simp only [ht.info,ht.u,ht.zo,hp,gB];simp [Instr.fill,c1,c2,BH]
 refine .pure h (v:=.agg #[a.eval x,a.eval y]) ?_ ⟨[a.eval x,a.eval y],rfl,rfl,fun j u q hu hq=>?_⟩ fun id ae hm=>?_
 ·have:=run_build (P:=c.P) w T #[(0,a.eval x),(1,a.eval y)] #[a.eval x,a.eval y] (by simpa using hb);simp only [execOp,xy];simp [this]
 ·match j with
  | 0 => injection hu with hu; injection hq with hq; subst hu; subst hq; exact rW.om (fun k fs e => by subst e; cases eK)
  | 1 => injection hu with hu; injection hq with hq; subst hu; subst hq; exact Dk.om (fun k fs e => by subst e; cases ew)
  | j+2 => simp at hu
 ·obtain ⟨q,hq,e⟩:=Ke hm;rcases zA.1 hq with rfl|hq
  ·exact h.cg x (by rw [ex];exact FV.bW (fun k fs e'=>by rw [e'] at eK;cases eK) e)
  ·rw [zq.1 hq] at e;exact h.cg y (by rw [ey];exact FV.bW (fun k fs e'=>by rw [e'] at ew;cases ew) e)
theorem zrU (h:FR c.N w0 J s a w β) (d:Nat) (x:Operand) (ex:s.ev x=.wrap .agg fs) (bm:0<fs.length) (hmax:fs.length≤1000000) :
  ZO c w0 J s a ⟨some d,.box T x,ty,pos,after,g⟩ w (.ptr d ((s.ob d).ae+1) 0 0) [(d,⟨(s.ob d).ae+1,.aj,T,fs.length,[fs]⟩)]:=by
 obtain ⟨us,hv,iq⟩:=h.mR ex;have rz:=KQ w (.cells us.toArray T) none;have bg:(execOp a.eval ⟨some d,.box T x,ty,pos,after,g⟩).run c.P w=.ok (.value (.pointer (some ⟨w.heap.size,0,none⟩))) (w.alloc (.cells us.toArray T)):=by
  have hc:(a.eval x).cells=us.toArray:=by rw [hv];rfl
  simp [execOp,Instr.box,newVar,newRow,hc]
 have aj:(w.alloc (.cells us.toArray T)).ownsRow w0.heap.size T fs.length (.slice (some ⟨w.heap.size,0,none⟩) 1 1) 1 us:=
  ⟨by have:=iq.len;omega,.inr ⟨w.heap.size,1,us.toArray,rfl,h.bB.size,heap_alloc_new w _,zg _,by unfold maxLen;omega,by simp [iq.len],by rw [zS (by simp [iq.len])]⟩⟩
 have hF:=h.sa none d (nb:=⟨(s.ob d).ae+1,.aj,T,fs.length,[fs]⟩) (v:=.slice (some ⟨w.heap.size,0,none⟩) 1 1) (s':=s.set d ⟨(s.ob d).ae+1,.aj,T,fs.length,[fs]⟩) (fun k e=>by cases e) rz (.inr (.inr ⟨_,rfl,zg _⟩)) rfl
  (fun k=>by rw [ah.ay];simp) (fun k=>rfl) (fun hI T'=>by
   refine .ld ⟨fun q hq=>by rw [zq.1 hq],fun q hq id ae hm=>?_,_,us,aj,rfl,by simp [iq.len],fun j u q hu hq=>?_⟩ rfl
   ·have hq:q∈fs:=by simpa using hq
    obtain ⟨j,hj,rfl⟩:=zU hq;have vW:j<us.length:=by have:=iq.len;omega
    have:=(iq.get j us[j] fs[j] (by simp [vW]) (by simp [hj])).2 id ae hm;rw [ah.ay];split
    ·rename_i e;subst e;exact Nat.le_succ_of_le this
    ·exact this
   ·have hq:fs[j]? = some q:=by simpa using hq
    obtain ⟨k1,k2⟩:=iq.get j u q hu hq;exact T' u q k1 k2)
 refine ⟨_,_,_,bg,hF,fun _ _=>⟨?_,w.heap.size,yM _ _ _,by simp⟩,fun id ae e=>?_⟩
 ·show (ah.ob (ah.set s d _) d).ao.bC=true;rw [ah.ay,if_pos rfl];rfl
 ·simp only [FV.hands,zq,xf] at e;obtain ⟨rfl,rfl⟩:=e;show _≤(ah.ob (ah.set s _ _) _).ae;rw [ah.ay,if_pos rfl];exact zg _
theorem zm5 (h:FR c.N w0 J s a w β) (d:Nat) (hk:(c.ty T).k.known=true) (hz:(c.ty T).size=1):ZO c w0 J s a ⟨some d,.alloc T,ty,pos,after,g⟩ w (.ptr d ((s.ob d).ae+1) 0 0) [(d,⟨(s.ob d).ae+1,.aj,T,1,[[.undef]]⟩)]:=by
 obtain ⟨z,h1,_,h3⟩:=ZX (c:=c) (T:=T) (fun e=>by rw [e] at hk;cases hk) w;obtain ⟨u,hu⟩:∃ u,z.cells=#[u]:=by
  have hl:z.cells.toList.length=1:=by rw [← hz,← h3];simp
  obtain ⟨u,hu⟩:=Wa.1 hl;exact ⟨u,by apply xU;rw [hu]⟩
 have hN:=h.BL d T (f:=.undef) (v:=u) (VR.aX (.undef _) rfl) (fun _ _ e=>by cases e);have bg:(execOp a.eval ⟨some d,.alloc T,ty,pos,after,g⟩).run c.P w=.ok (.value (.pointer (some ⟨w.heap.size,0,none⟩))) (w.alloc (.cells #[u] T)):=by
  simp [execOp,Instr.alloc,h1,newVar,newRow,hu]
 refine ⟨_,_,_,bg,hN,fun _ _=>⟨?_,w.heap.size,yM _ _ _,by simp⟩,fun id ae e=>?_⟩
 ·show (ah.ob (ah.set _ d _) d).ao.bC=true;rw [ah.ay,if_pos rfl];rfl
 ·simp only [FV.hands,zq,xf] at e;obtain ⟨rfl,rfl⟩:=e;show _≤(ah.ob (ah.set _ _ _) _).ae;rw [ah.ay,if_pos rfl];exact zg _
end
section
variable {c:Ctx} {ops:Array Oper} {rest:List Oper} {t:List (Nat×FV)} {ob:List (Nat×zE)} {d:Nat} {ty:TypeId} {pos:String} {af:Array Edge} {gd:Option (Nat×Bool)} {tr:List Rec} {QD:ah→List Rec→Prop}
theorem Io (aO:DQ op=false) (bl:¬ o0 op) (hd:Nat.blt d c.N=true) (hw:ZB ops ⟨t,ob⟩ (⟨some d,op,ty,pos,af,gd⟩:Oper) true)
  (hg:∀ s' : ah,(∀ x∈op.operands.toList,s'.ev x=(⟨t,ob⟩:ah).ev x)→(∀ id∈VH ⟨t,ob⟩ d op,s'.ob id=(⟨t,ob⟩:ah).ob id)→∀ (w0:World) (J:JJ) (a:Act) (w:World) (β:Nat→Option Nat) (ty:TypeId) (pos:String) (after:Array Edge) (g:Option (Nat×Bool)),
   FR c.N w0 J s' a w β→ZO c w0 J s' a ⟨some d,op,ty,pos,after,g⟩ w f wr)
  (k:zR c ops rest (((⟨t,ob⟩:ah).wr wr).put d f) (tr++[⟨(⟨some d,op,ty,pos,af,gd⟩:Oper),f,wr,VH ⟨t,ob⟩ d op⟩]) QD):zR c ops ((⟨some d,op,ty,pos,af,gd⟩:Oper)::rest) ⟨t,ob⟩ tr QD:=
 zR.cons (f:=f) (wr:=wr) (d:=d) ⟨.inl rfl,(fun _ e=>by injection e with e;subst e;exact zO hd),.ext aO bl fun s' h1 h2 w0 J a w β ty pos after g cC hF K Q hK=>
  ZO.wp (hg s' h1 h2 w0 J a w β ty pos after g hF) (fun d' e=>by injection e with e;subst e;exact cC) hK⟩ hw rfl rfl k
theorem zwe:¬ o0 (.load T x):=by rintro (⟨_,_,_,e⟩|⟨_,_,_,_,e⟩) <;> cases e
theorem zuK {ps:Array (Nat×Operand)}:¬ o0 (.build T ps):=by rintro (⟨_,_,_,e⟩|⟨_,_,_,_,e⟩) <;> cases e
theorem zxn:¬ o0 (.box T x):=by rintro (⟨_,_,_,e⟩|⟨_,_,_,_,e⟩) <;> cases e
theorem zuJ:¬ o0 (.alloc T):=by rintro (⟨_,_,_,e⟩|⟨_,_,_,_,e⟩) <;> cases e
theorem zwd {cl:Call}:¬ o0 (.call cl):=by rintro (⟨_,_,_,e⟩|⟨_,_,_,_,e⟩) <;> cases e
theorem Hu {id o:Nat} (hx:(⟨t,ob⟩:ah).ev x=.ptr id ae j o) (hk:(c.ty T).k.bD = some false) (hb:(⟨t,ob⟩:ah).ob id=⟨ae,.aj,E,sz,es⟩) (hj:es[j]? = some row) (ho:row[o]? = some f) (hd:Nat.blt d c.N=true) (hw:ZB ops ⟨t,ob⟩ (⟨some d,.load T x,ty,pos,af,gd⟩:Oper) true)
  (k:zR c ops rest ⟨(d,f)::t,ob⟩ (tr++[⟨(⟨some d,.load T x,ty,pos,af,gd⟩:Oper),f,[],VH ⟨t,ob⟩ d (.load T x)⟩]) QD):zR c ops ((⟨some d,.load T x,ty,pos,af,gd⟩:Oper)::rest) ⟨t,ob⟩ tr QD:=
 Io (wr:=[]) rfl zwe hd hw (fun s' h1 h2 w0 J a w β ty pos after g hF=>by
  have e1:=(h1 x zy).trans hx;have e2:=(h2 id (WJ (x:=x) rfl zy (by rw [hx];rfl))).trans hb;exact zgp hF hk x e1 (by rw [e2]) (by rw [e2]) (by rw [e2];exact hj) ho) k
theorem zsV (hk:(c.ty T).k.known=true) (hz:(c.ty T).size=1) (hv:(⟨t,ob⟩:ah).ob d=⟨v0,lf0,E0,gK,du⟩) (hd:Nat.blt d c.N=true) (hw:ZB ops ⟨t,ob⟩ (⟨some d,.alloc T,ty,pos,af,gd⟩:Oper) true)
  (k:zR c ops rest ⟨(d,.ptr d (v0+1) 0 0)::t,(d,⟨v0+1,.aj,T,1,[[.undef]]⟩)::ob⟩ (tr++[⟨(⟨some d,.alloc T,ty,pos,af,gd⟩:Oper),.ptr d (v0+1) 0 0,[(d,⟨v0+1,.aj,T,1,[[.undef]]⟩)],VH ⟨t,ob⟩ d (.alloc T)⟩]) QD):zR c ops ((⟨some d,.alloc T,ty,pos,af,gd⟩:Oper)::rest) ⟨t,ob⟩ tr QD:=
 Io (wr:=[(d,⟨v0+1,.aj,T,1,[[.undef]]⟩)]) rfl zuJ hd hw (fun s' h1 h2 w0 J a w β ty pos after g hF=>by
  have e2:=(h2 d (Q9 _ _ _)).trans hv;have:=zm5 (ty:=ty) (pos:=pos) (after:=after) (g:=g) hF d hk hz;rw [e2] at this;exact this) k
theorem zqs {id o:Nat} (hx:(⟨t,ob⟩:ah).ev x=.ptr id ae j o) (hy:(⟨t,ob⟩:ah).ev y=f) (hf:∃ i v n,f=.own i v 0 n) (aO:(⟨t,ob⟩:ah).live id ae) (cu:∀ i v n,f=.own i v 0 n→(⟨t,ob⟩:ah).live i v) (hk:(c.ty T).k.known=true) (hz:(c.ty T).size=1) (hb:(⟨t,ob⟩:ah).ob id=⟨ae,.aj,E,sz,es⟩) (hj:es[j]? = some row) (ho:o<row.length) (hd:Nat.blt d c.N=true) (hw:ZB ops ⟨t,ob⟩ (⟨none,.store T x y,ty,pos,af,gd⟩:Oper) true)
  (k:zR c ops rest ⟨t,(id,⟨ae,.aj,E,sz,es.set j (row.set o f)⟩)::ob⟩ (tr++[⟨(⟨none,.store T x y,ty,pos,af,gd⟩:Oper),.undef,[(id,⟨ae,.aj,E,sz,es.set j (row.set o f)⟩)],VH ⟨t,ob⟩ d (.store T x y)⟩]) QD):zR c ops ((⟨none,.store T x y,ty,pos,af,gd⟩:Oper)::rest) ⟨t,ob⟩ tr QD:=by
 refine zR.cons (f:=.undef) (wr:=[(id,⟨ae,.aj,E,sz,es.set j (row.set o f)⟩)]) (d:=d) ⟨.inr ⟨rfl,.inl ⟨_,_,_,rfl⟩⟩,(fun _ e=>by cases e),.nE rfl (.inl ⟨_,_,_,rfl⟩) fun s' h1 h2 w0 J a w β dst ty pos after g hF=>?_⟩ hw rfl rfl k;have e1:=(h1 x zy).trans hx;have e2:=(h1 y zy).trans hy;have m1:id∈VH ⟨t,ob⟩ d (.store T x y):=WJ (x:=x) rfl zy (ae:=ae) (by rw [hx];rfl);have e3:=(h2 id m1).trans hb;obtain ⟨i,v,n,rfl⟩:=hf;have m2:i∈VH ⟨t,ob⟩ d (.store T x y):=WJ (x:=y) rfl zy (ae:=v) (by rw [hy];rfl);have bA:s'.live i v:=by
  have:=cu i v n rfl;unfold ah.live at this ⊢;rw [h2 i m2];exact this
 have:=X3 (dst:=dst) (ty:=ty) (pos:=pos) (after:=after) (g:=g) hF (TK.aB hk) hz x y e1 (by rw [e3]) (by rw [e3]) e2 (.inr (.inl ⟨_,_,_,_,rfl,bA⟩)) (by rw [e3];exact hj) ho;rw [e3] at this;exact this
theorem zsW {f1 f2:FV} (hT:c.ty T=⟨.aQ [(0,a1),(1,a2)],2,c8,[z1,z2]⟩) (k1:(c.ty a1).k.known=true) (k2:(c.ty a2).k.known=true) (nY:(c.ty a1).size=1) (ni:(c.ty a2).size=1) (hx:(⟨t,ob⟩:ah).ev x=f1) (hy:(⟨t,ob⟩:ah).ev y=f2) (qw:Xh ⟨t,ob⟩ f1) (mj:Xh ⟨t,ob⟩ f2) (eK:f1.bG=true) (ew:f2.bG=true) (hd:Nat.blt d c.N=true) (hw:ZB ops ⟨t,ob⟩ (⟨some d,.build T #[(0,x),(1,y)],ty,pos,af,gd⟩:Oper) true)
  (k:zR c ops rest ⟨(d,.wrap .agg [f1,f2])::t,ob⟩ (tr++[⟨(⟨some d,.build T #[(0,x),(1,y)],ty,pos,af,gd⟩:Oper),.wrap .agg [f1,f2],[],VH ⟨t,ob⟩ d (.build T #[(0,x),(1,y)])⟩]) QD):zR c ops ((⟨some d,.build T #[(0,x),(1,y)],ty,pos,af,gd⟩:Oper)::rest) ⟨t,ob⟩ tr QD:=
 Io (wr:=[]) rfl zuK hd hw (fun s' h1 h2 w0 J a w β ty pos after g hF=>by
  have mx:x∈(Op.build T #[(0,x),(1,y)]).operands.toList:=by simp [Op.operands]
  have my:y∈(Op.build T #[(0,x),(1,y)]).operands.toList:=by simp [Op.operands]
  exact zna hF (by rw [hT]) (TK.aB k1) (TK.aB k2) nY ni (by rw [hT]) x y ((h1 x mx).trans hx) ((h1 y my).trans hy)
   (qw.loc fun id ae e=>h2 id (WJ rfl mx (by rw [hx];exact e))) (mj.loc fun id ae e=>h2 id (WJ rfl my (by rw [hy];exact e))) eK ew) k
theorem zwh (hx:(⟨t,ob⟩:ah).ev x=.wrap .agg fs) (hn:fs.length=n) (hp:Nat.blt 0 n=true) (hm:Nat.ble n 1000000=true) (hv:(⟨t,ob⟩:ah).ob d=⟨v0,lf0,E0,gK,du⟩) (hd:Nat.blt d c.N=true) (hw:ZB ops ⟨t,ob⟩ (⟨some d,.box T x,ty,pos,af,gd⟩:Oper) true)
  (k:zR c ops rest ⟨(d,.ptr d (v0+1) 0 0)::t,(d,⟨v0+1,.aj,T,n,[fs]⟩)::ob⟩ (tr++[⟨(⟨some d,.box T x,ty,pos,af,gd⟩:Oper),.ptr d (v0+1) 0 0,[(d,⟨v0+1,.aj,T,n,[fs]⟩)],VH ⟨t,ob⟩ d (.box T x)⟩]) QD):zR c ops ((⟨some d,.box T x,ty,pos,af,gd⟩:Oper)::rest) ⟨t,ob⟩ tr QD:=
 Io (wr:=[(d,⟨v0+1,.aj,T,n,[fs]⟩)]) rfl zxn hd hw (fun s' h1 h2 w0 J a w β ty pos after g hF=>by
  subst hn;have e2:=(h2 d (Q9 _ _ _)).trans hv;have:=zrU (ty:=ty) (pos:=pos) (after:=after) (g:=g) (T:=T) hF d x ((h1 x zy).trans hx) (zO hp) (zO hm);rw [e2] at this;exact this) k
theorem zvC (l:List (Nat×zE)):∀ (t:List (Nat×FV)) (ob:List (Nat×zE)),(⟨t,ob⟩:ah).wr l.reverse=⟨t,l++ob⟩:=by
 induction l with
 | nil => intro t ob; rfl
 | cons p l ih =>
  intro t ob;rw [List.reverse_cons];unfold ah.wr;rw [ZU];have:=ih t ob;unfold ah.wr at this;rw [this];rfl
theorem zQ.loc {o o' : List (Nat×zE)} {g:Nat→Nat} {l:List (Nat×zE)} (h:zQ o g l) (ho:∀ k∈l.map Prod.fst,look {} o' (g k)=look {} o (g k)):zQ o' g l:=by
 induction h with
 | nil => exact .nil
 | cons h hm hg hs ih => exact .cons ((ho _ zc).trans h) hm hg (ih fun k hk => ho k (by simp only [zZ, zA]; exact .inr hk))
theorem zuV {f:Nat} {xs:List Operand} {ts:Array TypeId} {args:List FV} {cp:List (Nat×zE)} {Q:FV→(Nat→zE)→Prop} (hs:xN c.P f args cp [] Q) (π:List (Nat×Nat)) {r:FV} {l:List (Nat×zE)}
  (hQ:∀ res aM,Q res (look {} aM)→res.ren (cM π)=r∧kC (cM π) (cp.map Prod.fst) aM=l) (hx:xs.map (⟨t,ob⟩:ah).ev=args.map (FV.ren (cM π)))
  (aR:zQ ob (cM π) cp) (dP:tB ((cp.map Prod.fst).map (cM π))=true) (ch:cp.all (fun p=>(look {} cp p.1).cl (cp.map Prod.fst))=true) (lA:args.all (FV.cl (cp.map Prod.fst))=true) (ml:((cp.map Prod.fst).all fun k=>(xs.filterMap fun x=>((⟨t,ob⟩:ah).ev x).hand.map (·.1)).contains (cM π k))=true)
  (hd:Nat.blt d c.N=true) (hw:ZB ops ⟨t,ob⟩ (⟨some d,.call { callee:=.value (.func f),args:=xs.toArray,argTypes:=ts },ty,pos,af,gd⟩:Oper) true)
  (k:zR c ops rest ⟨(d,r)::t,l++ob⟩ (tr++[⟨(⟨some d,.call { callee:=.value (.func f),args:=xs.toArray,argTypes:=ts },ty,pos,af,gd⟩:Oper),r,l.reverse,VH ⟨t,ob⟩ d (.call { callee:=.value (.func f),args:=xs.toArray,argTypes:=ts })⟩]) QD) :
  zR c ops ((⟨some d,.call { callee:=.value (.func f),args:=xs.toArray,argTypes:=ts },ty,pos,af,gd⟩:Oper)::rest) ⟨t,ob⟩ tr QD:=by
 refine zR.cons (f:=r) (wr:=l.reverse) (d:=d) ⟨.inl rfl,(fun _ e=>by injection e with e;subst e;exact zO hd),.ext rfl zwd fun s' h1 h2 w0 J a w β ty pos after g cC hF K QQ hK=>?_⟩ hw (by unfold ah.app;rw [zvC];rfl) rfl k;obtain ⟨t',aM⟩:=s';have Gl:∀ x∈xs,x∈(Op.call { callee:=.value (.func f),args:=xs.toArray,argTypes:=ts }).operands.toList:=fun x hx=>by simp [Op.operands,Call.operands];exact .inr hx
 have je : xs.map (⟨t',aM⟩:ah).ev=args.map (FV.ren (cM π)):=by
  rw [← hx];exact yZ fun x hx=>h1 x (Gl x hx)
 have Oi : zQ aM (cM π) cp:=aR.loc fun k hk=>by
  have hc:=zL.1 ml k hk;obtain ⟨x,hx,e⟩:=yU.1 (List.contains_iff_mem.1 hc);cases hh:((⟨t,ob⟩:ah).ev x).hand with
  | none => rw [hh] at e; cases e
  | some p =>
   rw [hh] at e;have e:p.1=cM π k:=by simpa using e
   exact h2 (cM π k) (WJ (x:=x) (ae:=p.2) rfl (Gl x hx) (by rw [hh,← e]))
 obtain ⟨g1,g2,g3⟩:=zq5 hF je;have hc:=Lm hF hs (cM π) Oi (Hp (by rw [zT];exact dP)) ch lA (fun k hk=>by cases hk) g1 g2 g3;have bh:(xs.map a.eval).toArray=xs.toArray.map a.eval:=by apply xU;simp
 rw [bh] at hc;unfold Oper.wp;have bg:(execOp a.eval ⟨some d,.call { callee:=.value (.func f),args:=xs.toArray,argTypes:=ts },ty,pos,after,g⟩).run c.P w=.ok (.enter f (xs.toArray.map a.eval)) w:=by
  have:=xh (P:=c.P) hs.go (xs.toArray.map a.eval) w;simp [execOp,resolve,Act.eval,Deferred.ofValue,invoke] at this ⊢;exact this
 rw [bg,Oper.upon_enter];refine hc.mono ?_;rintro e w' ⟨v,res,ob2,aJ,rfl,hq,k1,k2,k3⟩;obtain ⟨e1,e2⟩:=hQ res ob2 hq;rw [zT] at k1 k2 k3;rw [e1,e2] at k2 k3;rw [e2] at k1;refine hK _ w' aJ ?_;rw [zvC];exact k1.put cC k2 k3
end
theorem ar.q8 (id:Nat) {p8 o v:Nat} (h:look {} ob id=⟨w,.aj,E2,p8,aG⟩) (hj:aG[j]? = some row) (ho:row[o]? = some (.own k v 0 n)) (hk:look {} ob k=⟨v,.shut,E,sz,es⟩) (hn:n=es.length) :
  ar ⟨t,ob⟩ ⟨t,(id,⟨w,.aj,E2,p8,aG.set j (row.set o (.list sz es))⟩)::ob⟩:=by
 intro N w0 J a wd β hF;refine ⟨β,?_⟩;have jb:(⟨t,ob⟩:ah).ob id=⟨w,.aj,E2,p8,aG⟩:=h;have e9:(⟨t,ob⟩:ah).ob k=⟨v,.shut,E,sz,es⟩:=hk;have au:((⟨t,ob⟩:ah).ob id).ao≠.dead:=by rw [jb];exact (by decide:Zn.aj≠.dead)
 have kU:((⟨t,ob⟩:ah).ob k).ao≠.dead:=by rw [e9];exact (by decide:Zn.shut≠.dead)
 obtain ⟨s',fE⟩:∃ s' : ah,s'=⟨t,(id,⟨w,.aj,E2,p8,aG.set j (row.set o (.list sz es))⟩)::ob⟩:=⟨_,rfl⟩
 rw [← fE];have aR:∀ q,s'.ob q=if id=q then ⟨w,.aj,E2,p8,aG.set j (row.set o (.list sz es))⟩ else (⟨t,ob⟩:ah).ob q:=fun q=>by rw [fE];exact zI _ _ _ _ _
 have df:∀ q,(s'.ob q).ao≠.dead→((⟨t,ob⟩:ah).ob q).ao≠.dead:=fun q hl=>by
  rw [aR] at hl;split at hl
  ·rename_i e;subst e;exact au
  ·exact hl
 have eS:∀ q,(s'.ob q).ao.cT=true→((⟨t,ob⟩:ah).ob q).ao.cT=true:=fun q hl=>by
  rw [aR] at hl;split at hl
  ·rename_i e;subst e;rw [jb];rfl
  ·exact hl
 have hI:∀ b,aF J wd β ⟨t,ob⟩ b→aF J wd β s' b:=fun b hb=>⟨hb.1,hb.2.1,fun q hl=>hb.2.2 q (eS q hl)⟩
 have aK:∀ q,(s'.ob q).ae=((⟨t,ob⟩:ah).ob q).ae:=fun q=>by
  rw [aR];split
  ·rename_i e;subst e;rw [jb]
  ·rfl
 refine hF.step (C:=fun q=>q=id) hF.size hF.defers hF.bB (fun b hb=>⟨hI b hb,rfl⟩) (fun q=>.inl ⟨rfl,by rw [fE];rfl⟩) (fun q hC=>?_) (fun q _=>Ur (aK q).symm) (fun q hC hl _=>?_) (fun q hC hl T=>?_) (fun q q' b hl bn e e'=>hF.inj q q' b (df q hl) (df q' bn) e e') (fun b _ hn=>⟨rfl,fun q hl=>hn q (df q hl)⟩)
 ·exact ⟨by rw [aR,if_neg (fun e=>hC e.symm)],rfl,fun _ _ _=>rfl⟩
 ·subst hC;refine ⟨au,rfl,by rw [aR,if_pos rfl,jb],by rw [aR,if_pos rfl,jb],fun v1 o1 m hv=>?_⟩;rw [jb] at hv;obtain ⟨A,c,k1,k2,k3,k4,k5⟩:=hv.ex;rw [aR,if_pos rfl];exact ⟨rfl,A,c,k1,k2,by simpa using k3,k4,k5⟩
 ·subst hC;rw [aR,if_pos rfl];have hH:=(hF.obj q au).eB (by rw [jb];rfl) (by rw [jb];rfl);rw [jb] at hH;obtain ⟨v1,us,r1,r2,r3,r4⟩:=hH.row;have hw:=hH.wide;have dR:=hH.bE;dsimp only at r1 r3 r4 hw dR;have nQ:o<row.length:=(yq.1 ho).1;have cu:=QC aG hw j o row (.list sz es) hj nQ;have hfg:=QB aG hw j o row _ hj ho;refine .ld ⟨fun e he=>?_,fun f hf aL br e=>?_,v1,us,by dsimp only;rw [yA];exact r1,r2,by dsimp only;rw [cu,yA];exact r3,fun i u f hu eh=>?_⟩ rfl
  ·rcases ZE he with h'|h'
   ·exact hw e h'
   ·subst h';rw [yA];exact hw _ (zG hj)
  ·dsimp only at hf;rw [cu] at hf;rw [aK];rcases ZE hf with h'|h'
   ·exact dR f h' aL br e
   ·subst h';cases e
  ·dsimp only at eh;rw [cu,WH] at eh;by_cases dc:j * p8+o=i
   ·subst dc;rw [if_pos rfl] at eh;split at eh
    ·injection eh with eh
     subst eh;have hv:=r4 _ u _ hu hfg;have rL:=hv kU (by rw [e9]);have hO:=hF.obj k kU;have qB:=hO.bM (by rw [e9];rfl);have:=KW (I':=aF J wd β s') rL qB (fun b hb=>?_) hI
     ·rw [e9,hn] at this;dsimp only at this;rwa [Yl,yy] at this
     ·have aA:=hO.lt hb;refine ⟨aA.2,hF.fresh b aA.1 (.inr ⟨_,kU,hb⟩),fun q' bn e=>?_⟩;have:=hF.inj k q' b kU (df q' (Zn.bc bn)) hb e;subst this;have:=eS k bn;rw [e9] at this;cases this
    ·cases eh
   ·rw [if_neg dc] at eh;exact T u f (r4 i u f hu eh) (dR f (zG eh))
theorem ar.EH (id k p:Nat) {q v:Nat} (hid:id≠k) (hq:r.length=q) (h:look {} ob id=⟨w,.aj,E2,q,[r]⟩) (hp:r[p]? = some (.own k v 0 es.length)) (bQ:∀ i f,r[i]? = some f→i≠p→f.one=true)
  (hf:look {} ob k=⟨v,.own,E,sz,es⟩):ar ⟨t,ob⟩ ⟨t,(id,⟨w,.own,E2,q,[r.set p (.list sz es)]⟩)::(k,⟨v,.dead,E,sz,es⟩)::ob⟩:=by
 intro N w0 J a wd β hF;refine ⟨β,?_⟩;have ho:(⟨t,ob⟩:ah).ob id=⟨w,.aj,E2,q,[r]⟩:=h;have e9:(⟨t,ob⟩:ah).ob k=⟨v,.own,E,sz,es⟩:=hf;have au:((⟨t,ob⟩:ah).ob id).ao≠.dead:=by rw [ho];exact (by decide:Zn.aj≠.dead)
 have dp:((⟨t,ob⟩:ah).ob k).ao≠.dead:=by rw [e9];exact (by decide:Zn.own≠.dead)
 obtain ⟨s',fE⟩:∃ s' : ah,s'=⟨t,(id,⟨w,.own,E2,q,[r.set p (.list sz es)]⟩)::(k,⟨v,.dead,E,sz,es⟩)::ob⟩:=⟨_,rfl⟩
 rw [← fE];have aR:∀ i,s'.ob i=if id=i then ⟨w,.own,E2,q,[r.set p (.list sz es)]⟩ else if k=i then ⟨v,.dead,E,sz,es⟩ else (⟨t,ob⟩:ah).ob i:=fun i=>by
  rw [fE];show look ({}:zE) _ i=_;rw [zI,zI];split
  ·rfl
  ·split <;> rfl
 have df:∀ i,(s'.ob i).ao≠.dead→((⟨t,ob⟩:ah).ob i).ao≠.dead:=fun i hl=>by
  rw [aR] at hl;split at hl
  ·rename_i e;subst e;exact au
  ·split at hl
   ·exact absurd rfl hl
   ·exact hl
 have eS:∀ i,(s'.ob i).ao.cT=true→((⟨t,ob⟩:ah).ob i).ao.cT=true:=fun i hl=>by
  rw [aR] at hl;split at hl
  ·rename_i e;subst e;rw [ho];rfl
  ·split at hl
   ·cases hl
   ·exact hl
 have hI:∀ b,aF J wd β ⟨t,ob⟩ b→aF J wd β s' b:=fun b hb=>⟨hb.1,hb.2.1,fun i hl=>hb.2.2 i (eS i hl)⟩
 have aK:∀ i,(s'.ob i).ae=((⟨t,ob⟩:ah).ob i).ae:=fun i=>by
  rw [aR];split
  ·rename_i e;subst e;rw [ho]
  ·split
   ·rename_i e;subst e;rw [e9]
   ·rfl
 refine hF.step (C:=fun i=>i=id∨i=k) hF.size hF.defers hF.bB (fun b hb=>⟨hI b hb,rfl⟩) (fun i=>.inl ⟨rfl,by rw [fE];rfl⟩) (fun i hC=>?_) (fun i _=>Ur (aK i).symm) (fun i hC hl _=>?_) (fun i hC hl T=>?_) (fun i i' b hl bn e e'=>hF.inj i i' b (df i hl) (df i' bn) e e') (fun b _ hn=>⟨rfl,fun i hl=>hn i (df i hl)⟩)
 ·refine ⟨?_,rfl,fun _ _ _=>rfl⟩;rw [aR,if_neg (fun e=>hC (.inl e.symm)),if_neg (fun e=>hC (.inr e.symm))]
 ·rcases hC with rfl|rfl
  ·refine ⟨au,rfl,by rw [aR,if_pos rfl,ho],by rw [aR,if_pos rfl,ho];rfl,fun v o m hv=>?_⟩;rw [ho] at hv;obtain ⟨A,c,k1,k2,k3,k4,k5⟩:=hv.ex;rw [aR,if_pos rfl];exact ⟨rfl,A,c,k1,k2,by simpa using k3,k4,k5⟩
  ·exfalso;rw [aR,if_neg hid,if_pos rfl] at hl;exact hl rfl
 ·rcases hC with rfl|rfl
  ·rw [aR,if_pos rfl];have hH:=(hF.obj i au).eB (by rw [ho];rfl) (by rw [ho];rfl);rw [ho] at hH;obtain ⟨v1,us,r1,r2,r3,r4⟩:=hH.row;dsimp only at r1 r3 r4;rw [show ([r]:List (List FV)).flatten=r by simp] at r3 r4;refine .ofRow ⟨fun e he=>?_,fun f bS=>?_,v1,us,?_,r2,?_,fun j u f hu eh=>?_⟩ (.own rfl) rfl
   ·rw [zq.1 he,yA];exact hq
   ·dsimp only at bS;rw [show ([r.set p (.list sz es)]:List (List FV)).flatten=r.set p (.list sz es) by simp] at bS;obtain ⟨j,hj,rfl⟩:=zU bS;rw [yA] at hj;rw [Hx];split
    ·rfl
    ·rename_i aN;exact bQ j _ (by simp [hj]) fun e=>aN e.symm
   ·exact r1
   ·dsimp only;rw [show ([r.set p (.list sz es)]:List (List FV)).flatten=r.set p (.list sz es) by simp,yA];exact r3
   ·dsimp only at eh;rw [show ([r.set p (.list sz es)]:List (List FV)).flatten=r.set p (.list sz es) by simp,WH] at eh;by_cases C9:p=j
    ·subst C9;rw [if_pos rfl] at eh;have gB:p<r.length:=(yq.1 hp).1;rw [if_pos gB] at eh;injection eh with eh
     subst eh;have hv:=r4 p u _ hu hp;have rL:=hv dp (by rw [e9]);have hO:=hF.obj k dp;have qB:=hO.bM (by rw [e9];rfl);have:=KW (I':=aF J wd β s') rL qB (fun b hb=>?_) hI
     ·rw [e9] at this;dsimp only at this;rwa [Yl,yy] at this
     ·have aA:=hO.lt hb;refine ⟨aA.2,hF.fresh b aA.1 (.inr ⟨_,dp,hb⟩),fun k' bn e=>?_⟩;have:=hF.inj k k' b dp (df k' (Zn.bc bn)) hb e;subst this;rw [aR,if_neg hid,if_pos rfl] at bn;cases bn
    ·rw [if_neg C9] at eh;have hv:=r4 j u f hu eh;have h1:=bQ j f eh fun e=>C9 e.symm;have hn:f.hand=none:=by cases f <;> first|rfl|(simp [FV.one] at h1)
     exact (VR.rd hv hn).mono fun b hb=>⟨hI b hb,rfl⟩
  ·exfalso;rw [aR,if_neg hid,if_pos rfl] at hl;exact hl rfl
theorem ar.An (id k p:Nat) {q v:Nat} (hid:id≠k) (hq:r.length=q) (h:look {} ob id=⟨w,.aj,E2,q,[r]⟩) (hp:r[p]? = some (.own k v 0 es.length)) (bQ:(r.set p (.bool true)).all FV.one=true)
  (hf:look {} ob k=⟨v,.own,E,sz,es⟩):ar ⟨t,ob⟩ ⟨t,(id,⟨w,.own,E2,q,[r.set p (.list sz es)]⟩)::(k,⟨v,.dead,E,sz,es⟩)::ob⟩:=
 ar.EH id k p hid hq h hp (fun i f hi aN=>zL.1 bQ f (zG (i:=i) (by rw [Rt (fun e=>aN e.symm)];exact hi))) hf
theorem ar.Ao (id k p:Nat) {q v:Nat} {r2:List FV} (hid:id≠k) (hq:r.length=q) (h:look {} ob id=⟨w,.aj,E2,q,[r]⟩) (hp:r[p]? = some (.own k v 0 es.length)) (bQ:(r.set p (.bool true)).all FV.one=true)
  (hf:look {} ob k=⟨v,.own,E,sz,es⟩) (h2:r.set p (.list sz es)=r2):ar ⟨t,ob⟩ ⟨t,(id,⟨w,.own,E2,q,[r2]⟩)::(k,⟨v,.dead,E,sz,es⟩)::ob⟩:=by
 subst h2;exact ar.An id k p hid hq h hp bQ hf
inductive sD (s:ah):List FV→List (Nat×Operand)→List FV→Prop where
 | nil {cs:List FV}:sD s cs [] cs
 | cons {i:Nat} {x:Operand} {f:FV} {cs eV : List FV} {ps:List (Nat × Operand)} (hx:s.ev x=f) (hf:Xh s f) (hw:f.bG=true) (hi:Nat.blt i cs.length=true) (h:sD s (cs.set i f) ps eV):sD s cs ((i, x) :: ps) eV
section
variable {c:Ctx} {w0 w:World} {J:JJ} {s:ah} {a:Act} {β:Nat→Option Nat} {dst:Option Nat} {ty:TypeId} {pos:String} {after:Array Edge} {g:Option (Nat×Bool)}
theorem sD.run (h:FR c.N w0 J s a w β) {place:Nat→Option (Nat×Nat)} (hp:∀ i,i<n→place i=some (i,1)) {eV : List FV} (cu:sD s cs ps eV):∀ (us:List Value),us.length=n→cs.length=n→(∀ (j:Nat) u f,us[j]? = some u→cs[j]? = some f→oB w (aF J w β s) β s u f)→(∀ f∈cs,∀ id ae,f.hand=some (id,ae)→ae≤(s.ob id).ae)→
  ∃ oo : List Value,Instr.fill place us.toArray (ps.map fun p=>(p.1,a.eval p.2))=some oo.toArray∧oo.length=n∧eV.length=n∧(∀ (j:Nat) u f,oo[j]? = some u→eV[j]? = some f→oB w (aF J w β s) β s u f)∧∀ f∈eV,∀ id ae,f.hand=some (id,ae)→ae≤(s.ob id).ae:=by
 induction cu with
 | nil => exact fun us h1 h2 h3 h4 => ⟨us, rfl, h1, h2, h3, h4⟩
 | @cons i x f cs eV ps hx hf hw hi hr ih=>
  intro us h1 h2 h3 h4;have eZ:i<n:=by rw [← h2];exact zO hi
  obtain ⟨c1,c2⟩:=Xh.val h hx hf;have eF:=h.ev x;rw [hx] at eF;have GL:=eF.om (fun k fs e=>by subst e;cases hw);obtain ⟨oo,k1,k2⟩:=ih (us.set i (a.eval x)) (by simpa using h1) (by simpa using h2) (fun j u q hu hq=>by
   rw [WH] at hu hq;by_cases e:i=j
   ·subst e;rw [if_pos rfl,if_pos za] at hu hq;injection hu with hu;injection hq with hq
    subst hu;subst hq;exact GL
   ·rw [if_neg e] at hu hq;exact h3 j u q hu hq) (fun q hq id ae e=>by
   rcases ZE hq with hq|rfl
   ·exact h4 q hq id ae e
   ·exact h.cg x (by rw [hx];exact FV.bW (fun k fs e=>by subst e;cases hw) e))
  refine ⟨oo,?_,k2⟩;rw [zZ];unfold Instr.fill;rw [hp i eZ];simp only [c1];rw [if_neg zM];have:(Array.foldl (fun cs (x:Value×Nat)=>cs.setIfInBounds (i+x.2) x.1) us.toArray (#[a.eval x].zipIdx))=(us.set i (a.eval x)).toArray:=by simp
  exact (congrArg (fun z=>Instr.fill place z _) this).trans k1
theorem zm9 (h:FR c.N w0 J s a w β) {fs:List (Nat×Nat)} (hT:(c.ty T).k=.aQ fs) (hk:∀ p∈fs,(c.ty p.2).k≠.other) (On:fs.map (fun p=>(p.1,(c.ty p.2).size))=(List.range fs.length).map fun i=>(i,1)) (hz:(c.ty T).zero=z) (nZ:∀ f∈z,f.hand=none) (lH:z.length=fs.length)
  (ps:List (Nat×Operand)) (dO:sD s z ps cs):ZO c w0 J s a ⟨dst,.build T ps.toArray,ty,pos,after,g⟩ w (.wrap .agg cs) []:=by
 obtain ⟨d,i,zz,ht⟩:=c.get hT zc;have hd:=ht.k;rw [hT] at hd;obtain ⟨gs,rfl,pz,_⟩:=WV hd;have hp:gs.toList.mapM (fun f=>(c.P.info? f.type).map fun i=>(f.offset,i.size))=some (gs.toList.map fun f=>(f.offset,(c.ty f.type).size)):=by
  have key:∀ (l:List Field),(∀ f∈l,(c.ty f.type).k≠.other)→l.mapM (fun f=>(c.P.info? f.type).map fun i=>(f.offset,i.size))=some (l.map fun f=>(f.offset,(c.ty f.type).size)):=by
   intro l
   induction l with
   | nil => intro _; rfl
   | cons f l ih =>
    intro hl;obtain ⟨d',i',z',cS⟩:=c.get rfl (hl f zc);simp only [HB,cS.info,Za,KN,Yb,ih (fun f hf=>hl f (by simp [hf])),KO,cS.size,zZ]
  refine key _ (fun f hf=>hk (f.offset,f.type) ?_);rw [pz];exact zi.2 ⟨f,hf,rfl⟩
 have gB:gs.toList.map (fun f=>(f.offset,(c.ty f.type).size))=(List.range fs.length).map fun i=>(i,1):=by
  have:gs.toList.map (fun f=>(f.offset,(c.ty f.type).size))=(gs.toList.map fun f=>(f.offset,f.type)).map fun p=>(p.1,(c.ty p.2).size):=by rw [xb];rfl
  rw [this,← pz,On]
 have hr:=aS.zeros (w:=w) (I:=aF J w β s) ht.zr;rw [hz] at hr;obtain ⟨oo,k1,k2,k3,k4,k5⟩:=dO.run h (place:=fun i=>((List.range fs.length).map fun i=>(i,1))[i]?) (n:=fs.length) (fun i hi=>by simp [hi]) zz.cells.toList (hr.1.trans lH) lH (fun j u f hu hf=>(VR.aX (hr.2 j u f hu hf) (nZ f (zG hf))).om (fun k fs e=>by subst e;have:=nZ _ (zG hf);cases this))
  (fun f hf id ae e=>by rw [nZ f hf] at e;cases e)
 have hb:c.P.built T (ps.map fun p=>(p.1,a.eval p.2))=some oo.toArray:=by
  unfold Program.built;simp only [ht.info,ht.u,ht.zo,hp,gB];simpa using k1
 refine .pure h (v:=.agg oo.toArray) ?_ ⟨oo,rfl,k2.trans k3.symm,k4⟩ fun id ae hm=>?_
 ·have:=run_build (P:=c.P) w T (ps.map fun p=>(p.1,a.eval p.2)).toArray oo.toArray (by simpa using hb);simp only [execOp,xy];simp [this]
 ·obtain ⟨q,hq,e⟩:=Ke hm;exact k5 q hq id ae e
theorem FR.newHs (h:FR c.N w0 J s a w β) (d E:Nat) {us:List Value} (hlen:us.length=fs.length) (hv:∀ (j:Nat) u f,us[j]? = some u→fs[j]? = some f→VR w (aF J w β s) β s u f) (eu:∀ f∈fs,∀ id ae,(id,ae)∈f.hands→ae≤(s.ob id).ae) :
  FR c.N w0 J (s.set d ⟨(s.ob d).ae+1,.aj,E,fs.length,[fs]⟩) a (w.alloc (.cells us.toArray E)) (WX β d (some w.heap.size)):=by
 obtain ⟨s',fE⟩:∃ s' : ah,s'=s.set d ⟨(s.ob d).ae+1,.aj,E,fs.length,[fs]⟩:=⟨_,rfl⟩
 have cd:s'.ob d=⟨(s.ob d).ae+1,.aj,E,fs.length,[fs]⟩:=by rw [fE,ah.ay,if_pos rfl]
 have co:∀ k,k≠d→s'.ob k=s.ob k:=fun k hk=>by rw [fE,ah.ay,if_neg (fun e=>hk e.symm)]
 have bo:∀ k,k≠d→WX β d (some w.heap.size) k=β k:=fun k hk=>by unfold WX;rw [if_neg hk]
 have aO:∀ b,b<w.heap.size→(w.alloc (.cells us.toArray E)).heap[b]? = w.heap[b]?:=fun b hb=>(Vj w (.cells us.toArray E)).block b hb;have aK:∀ k,(s.ob k).ae≤(s'.ob k).ae:=fun k=>by
  by_cases hk:k=d
  ·subst hk;rw [cd];exact Us _
  ·rw [co k hk];exact zg _
 rw [← fE];refine h.step (C:=fun k=>k=d) h.size h.defers (h.bB.alloc h.bB.size _) (fun b hb=>⟨⟨?_,hb.2.1,fun id hid=>?_⟩,aO b hb.1⟩) (fun k=>.inl ⟨rfl,by rw [fE];rfl⟩) (fun k hk=>⟨co k hk,bo k hk,fun hl b hb=>aO b ((h.obj k hl).lt hb).2⟩) (fun k _=>aK k) ?_ ?_ ?_ ?_
 ·exact xx hb.1 (Vj w (.cells us.toArray E)).size
 ·by_cases hk:id=d
  ·subst hk;rw [yM];intro e;injection e with e;have:=hb.1;omega
  ·rw [bo id hk];exact hb.2.2 id (by rw [← co id hk];exact hid)
 ·rintro k rfl hl hv;rw [cd] at hv;exact absurd hv (Qc _)
 ·rintro k rfl hl hT;rw [cd,yM];refine .ld ⟨by simp,fun g hg id ae hm=>?_,.slice (some ⟨w.heap.size,0,none⟩) 1 1,us,⟨by rw [hlen];simp,.inr ⟨w.heap.size,1,us.toArray,rfl,h.bB.size,heap_alloc_new w _,zg _,by simp [maxLen],by simp [hlen],by simp [← hlen]⟩⟩,rfl,by simp [hlen],fun j u g hu hg=>?_⟩ rfl
  ·simp at hg;exact yc (eu g hg id ae hm) (aK id)
  ·simp at hg;exact hT u g (hv j u g hu hg) (eu g (zG hg))
 ·intro id aL b h1 h2 e1 e2;by_cases hk:id=d
  ·by_cases ee : aL=d
   ·rw [hk,ee]
   ·subst hk;rw [yM] at e1;rw [bo aL ee] at e2;rw [co aL ee] at h2;injection e1 with e1
    have:=((h.obj aL h2).lt e2).2;omega
  ·by_cases ee : aL=d
   ·subst ee;rw [yM] at e2;rw [bo id hk] at e1;rw [co id hk] at h1;injection e2 with e2
    have:=((h.obj id h1).lt e1).2;omega
   ·rw [bo id hk] at e1;rw [bo aL ee] at e2;rw [co id hk] at h1;rw [co aL ee] at h2;exact h.inj id aL b h1 h2 e1 e2
 ·intro b hb hn;refine ⟨aO b hb,fun id hl=>?_⟩;by_cases hk:id=d
  ·subst hk;rw [yM];intro e;injection e with e;omega
  ·rw [bo id hk];exact hn id (by rw [← co id hk];exact hl)
end
section
variable {c:Ctx} {ops:Array Oper} {rest:List Oper} {t:List (Nat×FV)} {ob:List (Nat×zE)} {d:Nat} {ty:TypeId} {pos:String} {af:Array Edge} {gd:Option (Nat×Bool)} {QS:ah→Prop}
theorem zta {fs:List (Nat×Nat)} (hT:c.ty T=⟨.aQ fs,sz,c8,z⟩) (dO:sD ⟨t,ob⟩ z ps cs) (hk:fs.all (fun p=>(c.ty p.2).k.known)=true) (On:fs.map (fun p=>(p.1,(c.ty p.2).size))=(List.range fs.length).map fun i=>(i,1)) (nZ:z.all (fun f=>f.hand.isNone)=true) (lH:z.length=fs.length)
  (hd:Nat.blt d c.N=true) (hw:ZB ops ⟨t,ob⟩ ⟨some d,.build T ps.toArray,ty,pos,af,gd⟩ true) (k:zt c ops rest ⟨(d,.wrap .agg cs)::t,ob⟩ QS):zt c ops (⟨some d,.build T ps.toArray,ty,pos,af,gd⟩::rest) ⟨t,ob⟩ QS:=
 Ci (wr:=[]) hd hw (fun w0 J a w β hF=>zm9 hF (by rw [hT]) (fun p hp=>TK.aB (zL.1 hk p hp)) On (by rw [hT]) (fun f hf=>by have:=zL.1 nZ f hf;simpa using this) lH ps dO) k
theorem zwn (hx:(⟨t,ob⟩:ah).ev x=.wrap .agg fs) (BD:fs.all FV.bG=true) (hv:(⟨t,ob⟩:ah).ob d=⟨v0,lf0,E0,gK,du⟩) (hd:Nat.blt d c.N=true) (hw:ZB ops ⟨t,ob⟩ ⟨some d,.box T x,ty,pos,af,gd⟩ true)
  (k:zt c ops rest ⟨(d,.ptr d (v0+1) 0 0)::t,(d,⟨v0+1,.aj,T,fs.length,[fs]⟩)::ob⟩ QS):zt c ops (⟨some d,.box T x,ty,pos,af,gd⟩::rest) ⟨t,ob⟩ QS:=fun QQ w0 J a w β hQ hF=>by
 unfold wpList;rw [if_pos (hw.model hF)];refine .inl ?_;have eF:=hF.ev x;have eu:∀ aL br,(aL,br)∈(FV.wrap .agg fs).hands→br≤((⟨t,ob⟩:ah).ob aL).ae:=fun aL br e=>hF.cg x (by rw [hx];exact e);rw [hx] at eF;obtain ⟨us,he,im,hu⟩:=eF;have hN:=hF.newHs d T im (fun j u f h1 h2=>VR.wM (hu j u f h1 h2)) (fun f hf id ae hm=>eu id ae (by
  have h1:=zL.1 BD f hf;unfold FV.hands;refine yU.2 ⟨f,hf,?_⟩;cases f with
  | own|ptr|omap => have := zq.1 hm; rw [this]; rfl
  | wrap => cases h1
  | _ => cases hm))
 have bg:(execOp a.eval ⟨some d,.box T x,ty,pos,af,gd⟩).run c.P w=.ok (.value (.pointer (some ⟨w.heap.size,0,none⟩))) (w.alloc (.cells us.toArray T)):=by
  simp [execOp,Instr.box,newVar,newRow,he,Wk.mk,Value.cells]
 rw [hv] at hN;refine ZO.wp (f:=.ptr d (v0+1) 0 0) (wr:=[(d,⟨v0+1,.aj,T,fs.length,[fs]⟩)]) ⟨_,_,_,bg,hN,fun _ _=>⟨?_,w.heap.size,yM _ _ _,by simp⟩,fun id ae e=>?_⟩ (fun d' e=>by injection e with e;subst e;exact zO hd) fun a' w' aJ eW=>k QQ w0 J a' w' aJ hQ eW
 ·show (ah.ob (ah.set _ d _) d).ao.bC=true;rw [ah.ay,if_pos rfl];rfl
 ·simp only [FV.hands,zq,xf] at e;obtain ⟨rfl,rfl⟩:=e;show _≤(ah.ob (ah.set _ _ _) _).ae;rw [ah.ay,if_pos rfl];exact zg _
end
def Dq (p:aq→Bool) (l:List aq):Int:=if l.any p=true then (l.findIdx p:Nat) else -1
theorem zgz (l:List aq) (cf:Nat) (aH:List FV) (p:aq→Bool) (hl:l.length≤1000000000) (hp:∀ o:aq,xA Tryz.prog cf ([.agg o.fv]++aH) .fr (.bool (p o))):xA Tryz.prog 80 [.list 8 (l.map aq.fv),.fn cf aH] .fr (.int .i64 (Dq p l)):=by
 refine ym 19 Tryz.func80 Tryz.ntmps80 rfl ?_;change FW _ _ _ ⟨[(0,.list 8 (l.map aq.fv)),(1,.fn cf aH)],[]⟩;refine zb ?_;refine FW.loop (fun i:Nat=>⟨[(0,.list 8 (l.map aq.fv)),(1,.fn cf aH),(7,.int .i64 l.length),(8,.int .i64 i)],[]⟩) (fun i=>i≤l.length∧∀ j,j<i→p (nth l j)=false) (fun i=>l.length - i) 0 ⟨zp _,fun j hj=>by omega⟩ (ar.cv [] xu zf) ?_;rintro i ⟨hi,hf⟩;refine zb ?_;refine FW.cond rfl (fun h=>?_) (fun h=>?_)
 ·have aA:i<l.length:=by simpa using h
  clear h;refine zb ?_;refine H2 rfl (hp (nth l i)) (by repeat (first|exact zH.nil|refine zH.cons zB ?_)) rfl rfl ?_;refine zb ?_;refine FW.cond rfl (fun h=>?_) (fun h=>?_)
  ·refine zb ?_;have he:Dq p l=i:=by
    unfold Dq;rw [if_pos (UY.2 ⟨i,aA,h⟩),(List.findIdx_eq aA).2 ⟨by rw [← ak aA];exact h,fun j hj=>by rw [← ak (show j<l.length by omega)];exact hf j hj⟩]
   exact FW.ret ⟨.inl rfl,yt rfl rfl (congrArg (FV.int .i64) he.symm) rfl⟩
  ·refine zb ?_;refine ⟨i+1,⟨by omega,fun j hj=>?_⟩,by omega,(ar.cv [] xu zf)⟩;rcases yg j i with h1|h1
   ·exact hf j h1
   ·have:j=i:=by omega
    subst this;exact h
 ·obtain rfl:i=l.length:=by simp at h;omega
  refine zb ?_;have he:Dq p l = -1:=by
   unfold Dq;rw [if_neg];intro h;obtain ⟨j,h1,h2⟩:=UY.1 h;rw [hf j h1] at h2;cases h2
  exact FW.ret ⟨.inl rfl,yt rfl rfl (by rw [he];rfl) rfl⟩
theorem zhG (l:List aq) (cf:Nat) (aH:List FV) (p:aq→Bool) (hl:l.length≤1000000000) (hp:∀ o:aq,xA Tryz.prog cf ([.agg o.fv]++aH) .fr (.bool (p o))):xA Tryz.prog 55 [.list 8 (l.map aq.fv),.fn cf aH] .fr (.bool (l.any p)):=by
 refine ym 9 Tryz.func55 Tryz.ntmps55 rfl ?_;change FW _ _ _ ⟨[(0,.list 8 (l.map aq.fv)),(1,.fn cf aH)],[]⟩;refine zb ?_;refine yP (zgz l cf aH p hl hp) (by repeat (first|exact zH.nil|refine zH.cons zB ?_)) rfl rfl ?_;refine zb ?_;refine FW.ret ⟨.inl rfl,yt rfl rfl ?_ rfl⟩;refine congrArg FV.bool ?_;unfold Dq;cases h:l.any p with
 | true => rw [if_pos rfl]; exact decide_eq_true (Int.natCast_nonneg _)
 | false => rw [if_neg zd]; rfl
theorem zpI (a b x y:Int):D5 Tryz.prog 82 [.int .i64 a,.int .i64 b] [.int .i64 x,.int .i64 y] (decide (a=x∧b=y)):=by
 refine ⟨by kernel_rfl,fun w=>?_⟩;show (Op.equalIn 10000 82 (.agg #[.int .i64 a,.int .i64 b]) (.agg #[.int .i64 x,.int .i64 y])).run Tryz.prog w=_;have hS:Tryz.prog.underlying 82=some (.struct (Tryz.prog.fieldsOf 82)):=by kernel_rfl
 have hp:Tryz.prog.stoodInHeld 82=false:=by kernel_rfl
 rw [show (10000:Nat)=9999+1 from rfl,run_equalIn_agg w 9999 82 _ _ hS hp];simp only [Program.fieldsOf,Tryz.underlying82];simp [go_sem];by_cases h1:a=x
 ·by_cases h2:b=y <;> simp [h1,h2]
 ·simp [h1]
theorem zhF (key:Int) (o:aq):xA Tryz.prog 56 ([.agg o.fv]++[.ax 1 [[.int .i64 key]] 0 0]) .fr (.bool (jJ key 0 o)):=by
 have hv:=WY o;obtain ⟨R,hR⟩:∃ R,jJ key 0 o=R:=⟨_,rfl⟩
 rw [hR];refine ym 18 Tryz.func56 Tryz.ntmps56 rfl ?_;change FW _ _ _ ⟨[(0,.agg o.fv),(1,.ax 1 [[.int .i64 key]] 0 0)],[]⟩;refine zb ?_;refine FW.ko zw ?_;refine yH ?_;refine Cg (fun h1=>?_) (fun h1=>?_)
 ·have h1:o.k=0:=by simpa using h1
  refine yH ?_;cases hd:o.done with
  | true =>
   have hc:VQ o=UV o.key o.res:=by unfold VQ;rw [UQ h1]
   rw [hc] at hv;refine yH ?_;refine zwi hv (by repeat (first|exact zH.nil|refine zH.cons zB ?_)) rfl ⟨_,_,rfl,rfl,rfl⟩ ?_;refine yH ?_;refine zxt rfl rfl rfl rfl (zpI o.key o.res key 0) rfl ⟨_,_,rfl,rfl,rfl⟩ ?_;refine yH ?_;refine ⟨by kernel_rfl,?_⟩;skip;refine FW.ret ⟨.inl rfl,yt rfl rfl ?_ rfl⟩;rw [← hR];refine congrArg FV.bool ?_;unfold jJ;rw [hd,decide_eq_true h1,yN,yN,Bool.decide_and]
  | false =>
   refine yH ?_;refine ⟨by kernel_rfl,?_⟩;skip;refine FW.ret ⟨.inl rfl,yt rfl rfl ?_ rfl⟩;rw [← hR];refine congrArg FV.bool ?_;unfold jJ;rw [hd,Zo,Ls]
 ·have h1:¬ o.k=0:=by simpa using h1
  refine yH ?_;refine ⟨by kernel_rfl,?_⟩;skip;refine FW.ret ⟨.inl rfl,yt rfl rfl ?_ rfl⟩;rw [← hR];refine congrArg FV.bool ?_;unfold jJ;rw [decide_eq_false h1,Zo]
abbrev nC:=Bool×List Nat×Int
def Ah (l:List aq) (c:Int):Bool:=l.any (jJ c 0)
def sw (l:List aq) (c:Int) (j:Nat):Bool:=decide ((nth l j).key=c) && (decide ((nth l j).k=1) && yC l j)
theorem VG {c:Int}:sw l c j=true↔(nth l j).key=c∧(nth l j).k=1∧yC l j=true:=by simp [sw]
def qN (l:List aq) (c:Int) (k:Nat):List Nat:=(List.range k).filter (sw l c)
def lM (l:List aq) (c v:Int) (k:Nat):List Nat:=(List.range k).filter fun j=>jJ c v (nth l j)
def Uf (l:List aq) (c:Int) (k:Nat):List nC:=(if Ah l c=true then [(true,[],0)] else [])++(qN l c k).map fun w=>(false,[w],(nth l w).arg)
def km (l:List aq) (c:Int) (k:Nat) (T:List nC):List dx:=T.map fun q=>⟨q.1,q.2.1++lM l c q.2.2 k⟩
def ZI (l:List aq) (c:Int):List dx:=km l c l.length (Uf l c l.length)
def zyc (c:Int) (p:nC×Nat):List FV:=[UV c p.1.2.2,.int .i64 (p.2:Int)]
def WK (c:Int) (T:List nC):List (List FV):=T.zipIdx.map (zyc c)
section
variable {l:List aq} {c:Int}
theorem Wv (k:Nat) (T:List nC):(km l c k T).length=T.length:=by simp [km]
theorem Cc {T:List nC} (h:j<T.length):nth (km l c k T) j=⟨(nth T j).1,(nth T j).2.1++lM l c (nth T j).2.2 k⟩:=by
 unfold km;rw [ak (by simpa using h),Xu,ak h]
theorem ziV (v:Int) (k:Nat):lM l c v (k+1)=lM l c v k++if jJ c v (nth l k)=true then [k] else []:=by
 unfold lM;rw [yQ,ZT];congr 1;by_cases h:jJ c v (nth l k)=true <;> simp [h]
theorem zjd (k:Nat):qN l c (k+1)=qN l c k++if sw l c k=true then [k] else []:=by
 unfold qN;rw [yQ,ZT];congr 1;by_cases h:sw l c k=true <;> simp [h]
theorem HM:j∈qN l c k↔j<k∧sw l c j=true:=by unfold qN;rw [zY,zn]
theorem Hw:j∈lM l c v k↔j<k∧jJ c v (nth l j)=true:=by unfold lM;rw [zY,zn]
theorem zvb (h:sw l c k=true):Uf l c (k+1)=Uf l c k++[(false,[k],(nth l k).arg)]:=by
 unfold Uf;rw [zjd,if_pos h,zF,← yV];rfl
theorem zww (h:sw l c k=false):Uf l c (k+1)=Uf l c k:=by
 have e:qN l c (k+1)=qN l c k:=by rw [zjd,if_neg (by rw [h];decide),zT]
 unfold Uf;rw [e]
theorem LD:(Uf l c k).length≤k+1:=by
 unfold Uf;have:(qN l c k).length≤k:=by unfold qN;exact yc (xV _ _) zc
 split <;> simp <;> omega
theorem WL {q:nC}:q∈Uf l c k↔(Ah l c=true∧q=(true,[],0))∨∃ w,w<k∧sw l c w=true∧q=(false,[w],(nth l w).arg):=by
 unfold Uf;rw [zC,zi];constructor
 ·rintro (h|⟨w,hw,rfl⟩)
  ·split at h
   ·rename_i h0;exact .inl ⟨h0,by simpa using h⟩
   ·cases h
  ·obtain ⟨h1,h2⟩:=HM.1 hw;exact .inr ⟨w,h1,h2,rfl⟩
 ·rintro (⟨h0,rfl⟩|⟨w,h1,h2,rfl⟩)
  ·left;rw [if_pos h0];simp
  ·exact .inr ⟨w,HM.2 ⟨h1,h2⟩,rfl⟩
theorem zml (D:yE l) (hk:k≤l.length):((Uf l c k).map fun q=>q.2.2).Nodup:=by
 unfold Uf;rw [zF,xb];refine xX.2 ⟨by split <;> simp,?_,fun a ha b hb e=>?_⟩
 ·show ((qN l c k).map fun w=>(nth l w).arg).Nodup;refine (Um.2 ?_);refine (List.Pairwise.imp_of_mem ?_ (show (qN l c k).Pairwise (·≠·) from List.nodup_range.sublist Li));intro a b ha hb aN e;obtain ⟨a1,a2⟩:=HM.1 ha;obtain ⟨b1,b2⟩:=HM.1 hb;rw [VG] at a2 b2;exact aN (D.uniq za za a2.2.1 b2.2.1 (a2.1.trans b2.1.symm) e)
 ·obtain ⟨w,hw,rfl⟩:=zi.1 hb;obtain ⟨b1,b2⟩:=HM.1 hw;rw [VG] at b2;have:a=0:=by
   split at ha
   ·simpa using ha
   ·cases ha
  have e:a=(nth l w).arg:=e;exact D.arg za b2.2.1 (by rw [← e,this])
theorem zn9 (T:List nC):km l c 0 T=T.map fun q=>⟨q.1,q.2.1⟩:=by
 unfold km;refine yZ fun q _=>?_;show dx.mk _ (q.2.1++[])=_;rw [zT]
theorem zvO {T:List nC} (hj:j<T.length) (hn:(T.map fun q=>q.2.2).Nodup) (h:jJ c (nth T j).2.2 (nth l k)=true):km l c (k+1) T=(km l c k T).set j ⟨(nth (km l c k T) j).iF,(nth (km l c k T) j).ops++[k]⟩:=by
 have cN:j<(km l c k T).length:=by rw [Wv];exact hj
 refine ya (by rw [yA,Wv,Wv]) fun i hi=>?_;rw [Wv] at hi;rw [Cc hi,YH (by rw [Wv];exact hi),ziV];by_cases e:j=i
 ·subst e;rw [if_pos rfl,if_pos h,Cc hj];dsimp only;rw [yV]
 ·rw [if_neg e,if_neg,zT,Cc hi];intro h2;rw [ZW] at h h2;have e2:(nth T j).2.2=(nth T i).2.2:=h.2.2.2.symm.trans h2.2.2.2;have:=(WI (h₀:=by simpa using hj) (h₁:=by simpa using hi) hn).1 (by rw [Xu,Xu,← ak hj,← ak hi];exact e2);exact e this
theorem zt7 {T:List nC} (h:∀ v,jJ c v (nth l k)=false):km l c (k+1) T=km l c k T:=by
 unfold km;refine yZ fun q _=>?_;rw [ziV,if_neg (by rw [h];decide),zT]
theorem zsA (T:List nC) (q:nC):WK c (T++[q])=WK c T++[[UV c q.2.2,.int .i64 (T.length:Int)]]:=by
 unfold WK;rw [List.zipIdx_append,zF];simp [zyc]
theorem zsB {T:List nC} (h:j<T.length):[UV c (nth T j).2.2,.int .i64 (j:Int)]∈WK c T:=by
 unfold WK;refine zi.2 ⟨(T[j],j),?_,by rw [ak h];rfl⟩;rw [List.mem_zipIdx_iff_getElem?];simp [h]
theorem zqc {T:List nC} (h:∀ q∈T,q.2.2≠v):∀ row∈WK c T,row.head?≠some (UV c v):=fun row hr he=>by
 obtain ⟨p,hp,rfl⟩:=zi.1 hr;injection he with he
 exact h p.1 (znW hp) (UD he).2
theorem zlN {T:List nC} (hc:bU c) (h:∀ q∈T,bU q.2.2):∀ row∈WK c T,∀ kf,row.head? = some kf→XH Tryz.prog 82 kf:=fun row hr kf hk=>by
 obtain ⟨p,hp,rfl⟩:=zi.1 hr;injection hk with hk
 subst hk;exact tO hc (h p.1 (znW hp))
theorem ztA (aP:∀ o∈l,Ue o) (hk:k≤l.length):∀ q∈Uf l c k,bU q.2.2:=fun q hq=>by
 rcases WL.1 hq with ⟨_,rfl⟩|⟨w,hw,_,rfl⟩
 ·exact ⟨by decide,by decide⟩
 ·exact (aP _ (zu (show w<l.length by omega))).2.2.2.1
theorem zmk (D:yE l) {r:Nat} (hr:r<l.length) (hk:(nth l r).key=c) (h0:(nth l r).k=0) (hd:(nth l r).done=true) (ht:vh l r=false):∃ j,j<(Uf l c l.length).length∧(nth (Uf l c l.length) j).2.2=(nth l r).res:=by
 have key:∃ q∈Uf l c l.length,q.2.2=(nth l r).res:=by
  by_cases hz:(nth l r).res=0
  ·exact ⟨_,WL.2 (.inl ⟨UY.2 ⟨r,hr,ZW.2 ⟨h0,hd,hk,hz⟩⟩,rfl⟩),hz.symm⟩
  ·unfold vh at ht;rw [decide_eq_true h0,hd,decide_eq_true hz,yN,yN,yN] at ht;cases hw:jH l (nth l r).key (nth l r).res with
   | none => rw [hw] at ht; cases ht
   | some w =>
    obtain ⟨w1,w2,_⟩:=WM hw;rw [ZM] at w2;exact ⟨_,WL.2 (.inr ⟨w,w1,VG.2 ⟨w2.2.1.trans hk,w2.1,ztI hr h0 hd w1 w2.1 w2.2.1 w2.2.2⟩,rfl⟩),w2.2.2⟩
 obtain ⟨q,hq,e⟩:=key;obtain ⟨j,hj,rfl⟩:=zU hq;exact ⟨j,hj,by rw [ak hj];exact e⟩
end
def YW (C:List dx) (j:Nat):List FV:=[.bool (nth C j).iF,.own (1000+j) 0 0 (nth C j).ops.length]
def YV (C:List dx) (j:Nat):zE:=⟨0,.own,3,1,(nth C j).ops.map yx⟩
theorem Q0 [Inhabited α] {a b:List α} (h:j<a.length):nth (a++b) j=nth a j:=by
 rw [ak h,ak zM,DG h]
theorem Q1 [Inhabited α] {a:List α} {x:α}:nth (a++[x]) a.length=x:=by
 rw [ak zc];simp
theorem ar.fk {C:List dx} (hC:C.length≤1000) (E:List bJ) (i v:Nat) (cE:aT ob) (hi:i<1000) (EU:E.all (fun q=>Nat.blt q.new 100)=true∧E.all (fun q=>match q.src with|some k=>Nat.blt k 1000 && !Nat.beq k i|none=>true)=true∧(E.map bJ.new).Nodup∧(E.filterMap bJ.src).Nodup)
  (h1:look {} ob i=⟨v,.aj,91,2,(List.range C.length).map (YW C)⟩) (hf:∀ j,j<C.length→look {} ob (1000+j)=YV C j)
  (hE:Zu ob ((⟨100,some i,v,⟨0,.aj,91,2,(List.range C.length).map (YW C)⟩⟩::E)++kF 1000 C.length (fun j=>some (1000+j)) (fun _=>0) (YV C)) E)
  (ht:m5 t ((⟨100,some i,v,⟨0,.aj,91,2,(List.range C.length).map (YW C)⟩⟩::E)++kF 1000 C.length (fun j=>some (1000+j)) (fun _=>0) (YV C)) t') :
  ar ⟨t,ob⟩ ⟨t',(100,⟨0,.aj,91,2,(List.range C.length).map (YW C)⟩)::(E.map fun e=>(e.new,e.b))++(Xk 200++VT 1000 C.length (YV C))⟩:=by
 obtain ⟨e1,e2,e3,e4⟩:=EU;have lv : ∀ q∈E,q.new<100:=fun q hq=>zO (zL.1 e1 q hq);have pg : ∀ k∈E.filterMap bJ.src,k<1000∧k≠i:=fun k hk=>by
  obtain ⟨q,hq,hs⟩:=yU.1 hk;have:=zL.1 e2 q hq;rw [hs] at this;simp only [zx,HQ] at this;exact ⟨zO this.1,fun e=>by rw [e,Up] at this;exact absurd this.2 zd⟩
 refine ar.oF (⟨100,some i,v,⟨0,.aj,91,2,(List.range C.length).map (YW C)⟩⟩::E) 1000 C.length (fun _=>0) (YV C) rfl (by unfold zm;omega) ?_ ?_ ?_ ?_ cE (fun j hj=>.inr ⟨_,rfl,hf j hj,rfl⟩) (.eA h1 (eU.of (fun j _=>rfl) fun j hj=>?_) hE) ht
 ·refine zL.2 fun q hq=>?_;rcases zA.1 hq with rfl|hq
  ·rfl
  ·exact Uq (by have:=lv q hq;omega)
 ·rw [zZ,yp];refine ⟨fun hm=>?_,e3⟩;obtain ⟨q,hq,e⟩:=zi.1 hm;have:=lv q hq;have e:q.new=100:=e;omega
 ·rw [Ym];exact yp.2 ⟨fun hm=>(pg i hm).2 rfl,e4⟩
 ·intro k hk;rw [Ym] at hk;rcases zA.1 hk with rfl|hk
  ·exact hi
  ·exact (pg k hk).1
 ·have hm:=xv (B:=1000) (s:=fun j=>some (1000+j)) (vo:=fun _=>0) (f:=YV C) hj;exact .cons (.plain rfl rfl) (.cons (.own (zX _ hm) rfl rfl rfl) .nil)
theorem ar.vI {C:List dx} (n:Nat) (hn:C.length=n) (hC:n≤1000) (E:List bJ) (i v a x vx:Nat) (g:Nat→List FV) (cE:aT ob) (hi:i<1000) (hx:x<1000) (hix:i≠x) (EU:E.all (fun q=>Nat.blt q.new 100)=true∧E.all (fun q=>match q.src with|some k=>Nat.blt k 1000 && !Nat.beq k i && !Nat.beq k x|none=>true)=true∧(E.map bJ.new).Nodup∧(E.filterMap bJ.src).Nodup)
  (h1:look {} ob i=⟨v,.aj,91,2,(List.range n).map g⟩) (hg:∀ j,j<n→j≠a→g j=YW C j∧look {} ob (1000+j)=YV C j)
  (ha:g a=[.bool (nth C a).iF,.own x vx 0 (nth C a).ops.length]) (hax:look {} ob x=⟨vx,.own,3,1,(nth C a).ops.map yx⟩)
  (hE:Zu ob ((⟨100,some i,v,⟨0,.aj,91,2,(List.range n).map (YW C)⟩⟩::E)++kF 1000 n (fun j=>if j=a then some x else some (1000+j)) (fun j=>if j=a then vx else 0) (YV C)) E)
  (ht:m5 t ((⟨100,some i,v,⟨0,.aj,91,2,(List.range n).map (YW C)⟩⟩::E)++kF 1000 n (fun j=>if j=a then some x else some (1000+j)) (fun j=>if j=a then vx else 0) (YV C)) t') :
  ar ⟨t,ob⟩ ⟨t',(100,⟨0,.aj,91,2,(List.range n).map (YW C)⟩)::(E.map fun e=>(e.new,e.b))++(Xk 200++VT 1000 n (YV C))⟩:=by
 obtain ⟨e1,e2,e3,e4⟩:=EU;have lv : ∀ q∈E,q.new<100:=fun q hq=>zO (zL.1 e1 q hq);have pg : ∀ k∈E.filterMap bJ.src,k<1000∧k≠i∧k≠x:=fun k hk=>by
  obtain ⟨q,hq,hs⟩:=yU.1 hk;have:=zL.1 e2 q hq;rw [hs] at this;simp only [zx,HQ] at this;exact ⟨zO this.1.1,fun e=>by rw [e,Up] at this;exact absurd this.1.2 zd,fun e=>by rw [e,Up] at this;exact absurd this.2 zd⟩
 refine ar.cZ (⟨100,some i,v,⟨0,.aj,91,2,(List.range n).map (YW C)⟩⟩::E) 1000 n a (some x) (fun j=>if j=a then vx else 0) (YV C) rfl (by unfold zm;omega) ?_ ?_ ?_ ?_ cE (fun j hj=>?_) (.eA h1 (eU.of (fun j _=>rfl) fun j hj=>?_) hE) ht
 ·refine zL.2 fun q hq=>?_;rcases zA.1 hq with rfl|hq
  ·rfl
  ·exact Uq (by have:=lv q hq;omega)
 ·rw [zZ,yp];refine ⟨fun hm=>?_,e3⟩;obtain ⟨q,hq,e⟩:=zi.1 hm;have:=lv q hq;have e:q.new=100:=e;omega
 ·rw [Ym];refine xX.2 ⟨yp.2 ⟨fun hm=>(pg i hm).2.1 rfl,e4⟩,by simp,fun k hk k' ee e=>?_⟩;have:k'=x:=by simpa using ee
  subst this;subst e;rcases zA.1 hk with e|hk
  ·exact hix e.symm
  ·exact (pg _ hk).2.2 rfl
 ·intro k hk;rw [Ym] at hk;left;rcases zC.1 hk with hk|hk
  ·rcases zA.1 hk with rfl|hk
   ·exact hi
   ·exact (pg k hk).1
  ·have:k=x:=by simpa using hk
   omega
 ·by_cases bF:j=a
  ·subst bF;rw [if_pos rfl,if_pos rfl];exact .inr ⟨x,rfl,hax,rfl⟩
  ·rw [if_neg bF,if_neg bF];exact .inr ⟨_,rfl,(hg j hj bF).2,rfl⟩
 ·have hm:=xv (B:=1000) (s:=fun j=>if j=a then some x else some (1000+j)) (vo:=fun j=>if j=a then vx else 0) (f:=YV C) hj;by_cases bF:j=a
  ·subst bF;rw [ha];simp only [if_pos] at hm;exact .cons (.plain rfl rfl) (.cons (.own (zX _ hm) rfl rfl rfl) .nil)
  ·rw [(hg j hj bF).1];simp only [if_neg bF] at hm;exact .cons (.plain rfl rfl) (.cons (.own (zX _ hm) rfl rfl rfl) .nil)
theorem ar.Am {C:List dx} (hC:C.length≤1000) (E:List bJ) (a:Nat) (ha:a<C.length) (cE:aT ob) (EU:E.all (fun q=>Nat.blt q.new 100)=true∧E.all (fun q=>match q.src with|some k=>Nat.blt k 1000 && !Nat.beq k 100|none=>true)=true∧(E.map bJ.new).Nodup∧(E.filterMap bJ.src).Nodup)
  (h1:look {} ob 100=⟨0,.aj,91,2,(List.range C.length).map (YW C)⟩) (hf:∀ j,j<C.length→look {} ob (1000+j)=YV C j)
  (hE:Zu ob ((⟨100,some 100,0,⟨0,.aj,91,2,(List.range C.length).map fun j=>if j=a then [.bool (nth C a).iF,.own 150 0 0 (nth C a).ops.length] else YW C j⟩⟩::⟨150,some (1000+a),0,YV C a⟩::E)++kF 1000 C.length (fun j=>if j=a then none else some (1000+j)) (fun _=>0) (fun j=>if j=a then ⟨0,.own,3,1,[]⟩ else YV C j)) E)
  (ht:m5 t ((⟨100,some 100,0,⟨0,.aj,91,2,(List.range C.length).map fun j=>if j=a then [.bool (nth C a).iF,.own 150 0 0 (nth C a).ops.length] else YW C j⟩⟩::⟨150,some (1000+a),0,YV C a⟩::E)++kF 1000 C.length (fun j=>if j=a then none else some (1000+j)) (fun _=>0) (fun j=>if j=a then ⟨0,.own,3,1,[]⟩ else YV C j)) t') :
  ar ⟨t,ob⟩ ⟨t',(100,⟨0,.aj,91,2,(List.range C.length).map fun j=>if j=a then [.bool (nth C a).iF,.own 150 0 0 (nth C a).ops.length] else YW C j⟩)::(150,YV C a)::(E.map fun e=>(e.new,e.b))++(Xk 200++VT 1000 C.length fun j=>if j=a then ⟨0,.own,3,1,[]⟩ else YV C j)⟩:=by
 obtain ⟨e1,e2,e3,e4⟩:=EU;have lv : ∀ q∈E,q.new<100:=fun q hq=>zO (zL.1 e1 q hq);have pg : ∀ k∈E.filterMap bJ.src,k<1000∧k≠100:=fun k hk=>by
  obtain ⟨q,hq,hs⟩:=yU.1 hk;have:=zL.1 e2 q hq;rw [hs] at this;simp only [zx,HQ] at this;exact ⟨zO this.1,fun e=>by rw [e] at this;exact absurd this.2 zd⟩
 refine ar.cZ (⟨100,some 100,0,⟨0,.aj,91,2,(List.range C.length).map fun j=>if j=a then [.bool (nth C a).iF,.own 150 0 0 (nth C a).ops.length] else YW C j⟩⟩::⟨150,some (1000+a),0,YV C a⟩::E) 1000 C.length a none (fun _=>0) (fun j=>if j=a then ⟨0,.own,3,1,[]⟩ else YV C j) rfl (by unfold zm;omega) ?_ ?_ ?_ ?_ cE (fun j hj=>?_) (.eA h1 (eU.of (fun j _=>?_) fun j hj=>?_) (.bL (hf a ha) rfl rfl hE)) ht
 ·refine zL.2 fun q hq=>?_;rcases zA.1 hq with rfl|hq
  ·rfl
  rcases zA.1 hq with rfl|hq
  ·rfl
  ·exact Uq (by have:=lv q hq;omega)
 ·rw [zZ,zZ,yp,yp];have bl:∀ z:Nat,100≤z→z∉E.map bJ.new:=fun z hz hm=>by
   obtain ⟨q,hq,e⟩:=zi.1 hm;have:=lv q hq;omega
  exact ⟨fun hm=>by
   rcases zA.1 hm with e|hm
   ·exact absurd (show (100:Nat)=150 from e) zd
   ·exact bl _ (zg _) hm,bl _ (by show 100≤150;omega),e3⟩
 ·rw [Ym,Ym];show ((100::(1000+a)::E.filterMap bJ.src)++[]).Nodup;rw [zT,yp,yp];exact ⟨fun hm=>by
   rcases zA.1 hm with e|hm
   ·omega
   ·exact (pg _ hm).2 rfl,fun hm=>by have:=(pg _ hm).1;omega,e4⟩
 ·intro k hk;rw [Ym,Ym] at hk;have hk:k∈(100::(1000+a)::E.filterMap bJ.src)++[]:=hk;rw [zT] at hk;rcases zA.1 hk with rfl|hk
  ·left;omega
  rcases zA.1 hk with rfl|hk
  ·exact .inr rfl
  ·exact .inl (pg k hk).1
 ·by_cases bF:j=a
  ·rw [if_pos bF,if_pos bF];exact .inl ⟨rfl,rfl,rfl⟩
  ·rw [if_neg bF,if_neg bF];exact .inr ⟨_,rfl,hf j hj,rfl⟩
 ·split <;> rfl
 ·by_cases bF:j=a
  ·subst bF;rw [if_pos rfl];exact .cons (.plain rfl rfl) (.cons (.own (xW _ (Yu ..)) rfl rfl rfl) .nil)
  ·rw [if_neg bF];have hm:=xv (B:=1000) (s:=fun j=>if j=a then none else some (1000+j)) (vo:=fun _=>0) (f:=fun j=>if j=a then ⟨0,.own,3,1,[]⟩ else YV C j) hj;simp only [if_neg bF] at hm;exact .cons (.plain rfl rfl) (.cons (.own (zX _ hm) rfl rfl rfl) .nil)
theorem zhZ [Inhabited α] (l:List α):(List.range l.length).map (nth l)=l:=by
 apply BZ
 ·simp
 ·intro i h1 h2;rw [Xu,Ql,ak h2]
theorem zrf (C:List dx):(List.map (YW C) (List.range C.length)).length=C.length:=by simp
theorem W0 (l:List aq) (c:Int) (ins:List Bool) (hl:l.length≤300) (aP:∀ o∈l,Ue o) (hc:bU c) (D:yE l) (eZ:ins.length=l.length) (iD:∀ i,i<l.length→nth ins i=yC l i) (GI:∀ i,i<l.length→(nth l i).key=c→vh l i=false) :
  xA Tryz.prog 36 [.list 8 (l.map aq.fv),.int .i64 c,.list 1 (ins.map dz)] .sh (.list 2 ((ZI l c).map dx.fv)):=by
 refine ym 99 Tryz.func36 Tryz.ntmps36 rfl ?_;change FW _ _ _ ⟨[(0,.list 8 (l.map aq.fv)),(1,.int .i64 c),(2,.list 1 (ins.map dz))],[]⟩
 (repeat (first|refine FW.seq ?_|refine FW.region ?_|refine zt.nil ?_|refine LY rfl rfl rfl rfl rfl ?_|refine zt.ai (yj rfl) rfl rfl ?_|refine zt.cL (PK rfl) rfl rfl ?_|refine zt.ai (zD rfl) rfl rfl ?_))
 refine zt.le ?_ (ar.eC 4 rfl rfl);refine zb ?_;refine yP (zhG l 56 [.ax 1 [[.int .i64 c]] 0 0] (jJ c 0) za (zhF c)) (by repeat (first|exact zH.nil|refine zH.cons zB ?_)) rfl rfl ?_;refine Ua ?_;refine FW.join (fun C0:List dx=>⟨[(0,.list 8 (l.map aq.fv)),(2,.list 1 (ins.map dz)),(4,.ax 1 [[.int .i64 c]] 0 0),(7,.omap 99 0),(8,.own 100 0 0 C0.length)],(100,⟨0,.aj,91,2,(List.range C0.length).map (YW C0)⟩)::[(99,⟨0,.aC,46,0,WK c (Uf l c 0)⟩)]++(Xk 200++VT 1000 C0.length (YV C0))⟩) (fun C0=>C0=km l c 0 (Uf l c 0)) ?_ ?_
 ·refine FW.cond rfl (fun h=>?_) (fun h=>?_)
  ·have hT:Uf l c 0=[(true,[],0)]:=by unfold Uf Ah;rw [if_pos h];rfl
   rw [hT];refine zb ?_;refine YD u9 (es:=[]) (fun row hr=>by cases hr) (tO hc ⟨by decide,by decide⟩) (.inr ⟨fun row hr=>(by cases hr),rfl⟩) rfl rfl rfl rfl rfl rfl rfl ?_;refine zb ?_;refine ⟨rfl,[⟨true,[]⟩],rfl,?_⟩;exact (ar.wR (i:=24) rfl).trans (ar.jr [⟨100,some 24,0+1,⟨0,.aj,91,2,(List.range 1).map (YW [⟨true,[]⟩])⟩⟩,⟨99,some 14,0+1,⟨0,.aC,46,0,WK c [(true,[],0)]⟩⟩] 1000 1 (YV [⟨true,[]⟩]) rfl (by unfold zm;omega) rfl zc zc (by repeat (first|exact aT.nil|exact aT.dH rfl (by unfold zm;omega)|refine aT.cons rfl ?_))
    (fun j hj=>⟨rfl,by
     obtain rfl:j=0:=by omega
     rfl⟩) (.eA rfl (eU.of (n:=1) (c:=fun _=>[.bool true,.nil]) (fun j _=>rfl) fun j hj=>(by
     obtain rfl:j=0:=by omega
     exact .cons (.plain rfl rfl) (.cons (.nil (zX _ (xv hj)) rfl) .nil))) (.bL rfl rfl rfl .nil)) zf)
  ·have hT:Uf l c 0=[]:=by unfold Uf Ah;rw [if_neg (by rw [h];decide)];rfl
   rw [hT];refine zb ?_;refine ⟨rfl,[],rfl,?_⟩;refine ar.trans (?_:ar _ ⟨[(0,.list 8 (l.map aq.fv)),(2,.list 1 (ins.map dz)),(4,.ax 1 [[.int .i64 c]] 0 0),(7,.omap 99 0),(8,.own 98 0 0 0)],[(98,⟨0,.own,91,2,[]⟩),(99,⟨0,.aC,46,0,[]⟩)]⟩) ?_
   ·exact (ar.cv [⟨98,none,0,⟨0,.own,91,2,[]⟩⟩,⟨99,some 14,0+1,⟨0,.aC,46,0,[]⟩⟩] zh zf)
   exact (ar.wR (i:=98) rfl).trans (ar.jr [⟨100,some 98,0,⟨0,.aj,91,2,(List.range 0).map (YW [])⟩⟩,⟨99,some 99,0,⟨0,.aC,46,0,WK c []⟩⟩] 1000 0 (YV []) rfl (by unfold zm;omega) rfl zc zc (by repeat (first|exact aT.nil|exact aT.dH rfl (by unfold zm;omega)|refine aT.cons rfl ?_))
    (fun j hj=>by omega) (.eA rfl eU.nil (.bL rfl rfl rfl .nil)) zf)
 rintro C0 S1;refine zb ?_;refine FW.loop (fun p:Nat×List dx=>⟨[(0,.list 8 (l.map aq.fv)),(2,.list 1 (ins.map dz)),(4,.ax 1 [[.int .i64 c]] 0 0),(7,.omap 99 0),(8,.own 100 0 0 p.2.length),(25,.list 8 (l.map aq.fv)),(26,.int .i64 l.length),(27,.int .i64 p.1)],(100,⟨0,.aj,91,2,(List.range p.2.length).map (YW p.2)⟩)::[(99,⟨0,.aC,46,0,WK c (Uf l c p.1)⟩)]++(Xk 200++VT 1000 p.2.length (YV p.2))⟩) (fun p=>p.1≤l.length∧p.2=km l c 0 (Uf l c p.1)) (fun p=>l.length - p.1) (0,C0) ⟨zp _,S1⟩ ?_ ?_
 ·have iV:C0.length≤1000:=by rw [S1,Wv];have:=LD (l:=l) (c:=c) (k:=0);omega
  refine ar.fk (C:=C0) iV [⟨99,some 99,0,⟨0,.aC,46,0,WK c (Uf l c 0)⟩⟩] 100 0 (by repeat (first|exact aT.nil|exact aT.dH rfl (by unfold zm;omega)|refine aT.cons rfl ?_)) zd ⟨rfl,rfl,by simp,by simp⟩ rfl (fun j hj=>yb (C:=[(100,_),(99,_)]) rfl zd hj) (.bL rfl rfl rfl .nil) zf
 rintro ⟨i,C⟩ ⟨hi,hC⟩;dsimp only at hi hC ⊢;refine zb ?_;refine FW.cond rfl (fun h=>?_) (fun h=>?_)
 ·have aA:i<l.length:=by simpa using h
  clear h;have iV:C.length<1000:=by rw [hC,Wv];have:=LD (l:=l) (c:=c) (k:=i);omega
  have ho:=aP _ (zu aA);have cy:=iD i aA;have bl:=fun h=>zww (l:=l) (c:=c) (k:=i) h;have bu:=fun h=>zvb (l:=l) (c:=c) (k:=i) h;have k7:sw l c i=(decide ((nth l i).key=c) && (decide ((nth l i).k=1) && yC l i)):=rfl;have dR:=WY (nth l i);obtain ⟨o,er⟩:∃ o,nth l i=o:=⟨_,rfl⟩
  obtain ⟨q,hq⟩:∃ q,yC l i=q:=⟨_,rfl⟩
  rw [er,hq] at k7;rw [er] at ho bu dR;rw [hq] at cy;refine zb ?_;rw [er];skip;refine yR (fun h1=>?_) (fun h1=>?_)
  ·rw [h1,yN] at k7;refine zb ?_;refine yR (fun h2=>?_) (fun h2=>?_)
   ·rw [h2,yN] at k7;refine zb ?_;rw [cy];cases q with
    | true=>
     have bu:=bu k7;have iB : o.key=c:=by simpa using h1
     have eG : o.k=1:=by simpa using h2
     have aI:VQ o=UV c o.arg:=by unfold VQ;rw [VC eG,iB]
     rw [aI] at dR;have rH:∀ p∈Uf l c i,p.2.2≠o.arg:=fun p hp=>by
      rcases WL.1 hp with ⟨_,rfl⟩|⟨w,hw,JV,rfl⟩
      ·have:=D.arg aA (by rw [er];exact eG);rw [er] at this;exact fun e=>this e.symm
      ·rw [VG] at JV;intro e;have:=D.uniq (show w<l.length by omega) aA JV.2.1 (by rw [er];exact eG) (by rw [JV.1,er,iB]) (by rw [er];exact e);omega
     have hCT:C.length=(Uf l c i).length:=by rw [hC,Wv]
     have EM:km l c 0 (Uf l c (i+1))=C++[⟨false,[i]⟩]:=by rw [bu,hC,zn9,zn9,zF];rfl
     have JK:=zsA (c:=c) (Uf l c i) (false,[i],o.arg);rw [← hCT,← bu] at JK;have F8:=zlN hc (ztA aP (c:=c) (show i≤l.length by omega));have hmn:=zqc (c:=c) rH;clear bl;refine zb ?_;refine yP dR (by repeat (first|exact zH.nil|refine zH.cons zB ?_)) rfl rfl ?_;refine zb ?_;refine YD u9 F8 (tO hc ho.2.2.2.1) (.inr ⟨hmn,rfl⟩) rfl rfl rfl rfl rfl rfl rfl ?_
     (repeat (first|refine FW.region ?_|refine zt.nil ?_|refine zt.ai (zD rfl) rfl rfl ?_|refine zt.cL (Ye rfl rfl rfl rfl rfl rfl) rfl rfl ?_))
     refine zs9 rfl rfl rfl rfl rfl rfl rfl (.inr (.inl ⟨_,_,_,_,rfl,yI rfl zd⟩)) rfl rfl rfl ?_;refine zqz rfl rfl rfl rfl rfl rfl rfl (fun f hf=>by
      rcases zA.1 hf with rfl|hf
      ·exact .inl rfl
      ·rw [zq.1 hf];exact .inr (.inl ⟨_,_,_,_,rfl,yI rfl zd⟩)) rfl rfl rfl ?_
     refine zuX rfl rfl (zrf C).symm rfl rfl rfl rfl rfl rfl rfl zd (fun f hf=>by
      rcases zA.1 hf with rfl|hf
      ·exact .inl rfl
      ·rw [zq.1 hf];exact .inr (.inl ⟨_,_,_,_,rfl,yI rfl zd⟩)) za za rfl rfl rfl ?_
     refine zb ?_;refine ⟨(i+1,C++[⟨false,[i]⟩]),⟨by dsimp only;omega,EM.symm⟩,by dsimp only;omega,?_⟩;have hlen:(C++[(⟨false,[i]⟩:dx)]).length=C.length+1:=by simp
     dsimp only;rw [JK,hlen];refine ar.vI (C.length+1) hlen za [⟨99,some 99,0,⟨0,.aC,46,0,WK c (Uf l c i)++[[UV c o.arg,.int .i64 (C.length:Int)]]⟩⟩] 57 (0+1) C.length 54 (0+1) (fun j=>if j=C.length then [.bool false,.own 54 (0+1) 0 1] else YW C j) (by repeat (first|exact aT.nil|exact aT.dH rfl (by unfold zm;omega)|refine aT.cons rfl ?_)) zd zd zd ⟨rfl,rfl,by simp,by simp⟩
      (Dx (b:=(⟨0+1,.aj,91,2,List.map (YW C) (List.range C.length)++[[.bool false,.own 54 (0+1) 0 1]]⟩:zE)) rfl (by
       refine congrArg (fun z=>(⟨0+1,.aj,91,2,z⟩:zE)) ?_;rw [yQ,zF];rw [show List.map (fun j=>if j=C.length then [FV.bool false,.own 54 (0+1) 0 1] else YW C j) (List.range C.length)=List.map (YW C) (List.range C.length) from yZ fun j hj=>by rw [if_neg (by have:=zn.1 hj;omega)]];simp))
      (fun j hj aN=>by
       have dT : j<C.length:=by omega
       refine ⟨?_,(yb (C:=[(57,_),(100,_),(56,_),(54,_),(99,_),(10,_),(10,_),(100,_),(99,_)]) rfl zd dT).trans ?_⟩
       ·rw [if_neg aN];unfold YW;rw [Q0 dT]
       ·unfold YV;rw [Q0 dT])
      (by rw [if_pos rfl,Q1];rfl) (by rw [Q1];rfl) (.bL rfl rfl rfl .nil) zf
    | false =>
     have bl:=bl k7;refine zb ?_;refine ⟨(i+1,C),⟨by dsimp only;omega,by dsimp only;rw [bl];exact hC⟩,by dsimp only;omega,?_⟩;dsimp only;rw [bl];exact ar.fk (C:=C) za [⟨99,some 99,0,⟨0,.aC,46,0,WK c (Uf l c i)⟩⟩] 100 0 (by repeat (first|exact aT.nil|exact aT.dH rfl (by unfold zm;omega)|refine aT.cons rfl ?_)) zd ⟨rfl,rfl,by simp,by simp⟩ rfl (fun j hj=>yb (C:=[(10,_),(10,_),(100,_),(99,_)]) rfl zd hj) (.bL rfl rfl rfl .nil) zf
   ·rw [h2,Zo] at k7;have bl:=bl k7;refine zb ?_;refine ⟨(i+1,C),⟨by dsimp only;omega,by dsimp only;rw [bl];exact hC⟩,by dsimp only;omega,?_⟩;dsimp only;rw [bl];exact ar.fk (C:=C) za [⟨99,some 99,0,⟨0,.aC,46,0,WK c (Uf l c i)⟩⟩] 100 0 (by repeat (first|exact aT.nil|exact aT.dH rfl (by unfold zm;omega)|refine aT.cons rfl ?_)) zd ⟨rfl,rfl,by simp,by simp⟩ rfl (fun j hj=>yb (C:=[(10,_),(10,_),(100,_),(99,_)]) rfl zd hj) (.bL rfl rfl rfl .nil) zf
  ·rw [h1,Zo] at k7;have bl:=bl k7;refine zb ?_;refine ⟨(i+1,C),⟨by dsimp only;omega,by dsimp only;rw [bl];exact hC⟩,by dsimp only;omega,?_⟩;dsimp only;rw [bl];exact ar.fk (C:=C) za [⟨99,some 99,0,⟨0,.aC,46,0,WK c (Uf l c i)⟩⟩] 100 0 (by repeat (first|exact aT.nil|exact aT.dH rfl (by unfold zm;omega)|refine aT.cons rfl ?_)) zd ⟨rfl,rfl,by simp,by simp⟩ rfl (fun j hj=>yb (C:=[(10,_),(10,_),(100,_),(99,_)]) rfl zd hj) (.bL rfl rfl rfl .nil) zf
 obtain rfl:i=l.length:=by simp at h;omega
 clear h;refine zb ?_;obtain ⟨T,hT⟩:∃ T,Uf l c l.length=T:=⟨_,rfl⟩
 have E9:=LD (l:=l) (c:=c) (k:=l.length);have Tl:=zml (c:=c) D (zg _);have Tk:=zlN hc (ztA aP (c:=c) (zg _));have Fa:=fun r h1 h2 h3 h4 h5=>zmk (c:=c) (r:=r) D h1 h2 h3 h4 h5;have ch:ZI l c=km l c l.length T:=by unfold ZI;rw [hT]
 rw [hT] at hC E9 Tl Tk Fa ⊢;rw [ch];refine FW.loop (fun p:Nat×List dx=>⟨[(0,.list 8 (l.map aq.fv)),(2,.list 1 (ins.map dz)),(4,.ax 1 [[.int .i64 c]] 0 0),(7,.omap 99 0),(8,.own 100 0 0 p.2.length),(59,.list 8 (l.map aq.fv)),(60,.int .i64 l.length),(61,.int .i64 p.1)],(100,⟨0,.aj,91,2,(List.range p.2.length).map (YW p.2)⟩)::[(99,⟨0,.aC,46,0,WK c T⟩)]++(Xk 200++VT 1000 p.2.length (YV p.2))⟩) (fun p=>p.1≤l.length∧p.2=km l c p.1 T) (fun p=>l.length - p.1) (0,C) ⟨zp _,hC⟩ ?_ ?_
 ·have iV:C.length≤1000:=by rw [hC,Wv];omega
  refine ar.fk (C:=C) iV [⟨99,some 99,0,⟨0,.aC,46,0,WK c T⟩⟩] 100 0 (by repeat (first|exact aT.nil|exact aT.dH rfl (by unfold zm;omega)|refine aT.cons rfl ?_)) zd ⟨rfl,rfl,by simp,by simp⟩ rfl (fun j hj=>yb (C:=[(100,_),(99,_)]) rfl zd hj) (.bL rfl rfl rfl .nil) zf
 rintro ⟨i,C⟩ ⟨hi,hC⟩;dsimp only at hi hC ⊢;refine zb ?_;refine FW.cond rfl (fun h=>?_) (fun h=>?_)
 ·have aA:i<l.length:=by simpa using h
  clear h;have iV:C.length=T.length:=by rw [hC,Wv]
  have ho:=aP _ (zu aA);have cy:=iD i aA;have bI:=fun h=>zt7 (l:=l) (c:=c) (T:=T) (k:=i) h;have eN:=fun j h1 h2=>zvO (l:=l) (c:=c) (T:=T) (k:=i) (j:=j) h1 Tl h2;have qC:=GI i aA;have Fa:=Fa i aA;have dR:=WY (nth l i);have C7:=fun h=>xk (l:=l) (i:=i) h;have hid:=fun h=>WT (l:=l) (i:=i) h;rw [← hC] at bI eN;obtain ⟨o,er⟩:∃ o,nth l i=o:=⟨_,rfl⟩
  obtain ⟨q,hq⟩:∃ q,yC l i=q:=⟨_,rfl⟩
  rw [hq] at cy C7 hid;rw [er] at ho bI dR qC Fa C7 hid;simp only [er] at eN;refine zb ?_;rw [er];skip;refine yR (fun h1=>?_) (fun h1=>?_)
  ·have iB : o.key=c:=by simpa using h1
   refine zb ?_;refine yR (fun h2=>?_) (fun h2=>?_)
   ·have eG : o.k=0:=by simpa using h2
    refine zb ?_;rw [cy];cases q with
    | true=>
     obtain ⟨j,hj,TL⟩:=Fa iB eG (C7 eG rfl) (qC iB);have eN:=eN j hj (ZW.2 ⟨eG,C7 eG rfl,iB,TL.symm⟩);have aI:VQ o=UV c o.res:=by unfold VQ;rw [UQ eG,iB]
     have cH:=zsB (c:=c) hj;rw [TL] at cH;rw [aI] at dR;have JH:j<C.length:=by omega
     have hCl1:C.length≤301:=by omega
     obtain ⟨⟨b0,P0⟩,hP⟩:∃ P,nth C j=P:=⟨_,rfl⟩
     rw [hP] at eN;have Th:P0.length≤1000000:=by
      have h3:=Cc (l:=l) (c:=c) (k:=i) hj;rw [← hC,hP] at h3;injection h3 with _ h3
      rw [h3,zN];have h4:(lM l c (nth T j).2.2 i).length≤i:=by unfold lM;exact yc (xV _ _) zc
      have h5:(nth T j).2.1.length≤1:=by
       rw [← hT] at hj ⊢;rcases WL.1 (zu hj) with ⟨_,e⟩|⟨w,_,_,e⟩ <;> rw [e] <;> simp
      omega
     refine zb ?_;refine yP dR (by repeat (first|exact zH.nil|refine zH.cons zB ?_)) rfl rfl ?_;skip;refine Qo u9 Tk (tO hc ho.2.2.2.2.1) (.inl ⟨rfl,cH⟩) rfl rfl zd rfl rfl rfl rfl rfl rfl ?_
     (repeat (first|refine FW.region ?_|refine zt.nil ?_|refine zt.ai (yj rfl) rfl rfl ?_|refine zt.ai (zD rfl) rfl rfl ?_|refine zt.ai (yL rfl rfl rfl rfl rfl rfl zd rfl xg) rfl rfl ?_|refine zt.ai (Zl rfl rfl rfl rfl rfl rfl zd) rfl rfl ?_))
     refine zt.le (s':=⟨[(90,.ptr 100 0 j 1),(86,.int .i64 (j:Int)),(85,.own 100 0 0 C.length),(11,.int .i64 (i:Int)),(0,.list 8 (l.map aq.fv)),(2,.list 1 (ins.map dz)),(4,.ax 1 [[.int .i64 c]] 0 0),(7,.omap 99 0),(8,.own 100 0 0 C.length),(59,.list 8 (l.map aq.fv)),(60,.int .i64 l.length),(61,.int .i64 i)],(100,⟨0,.aj,91,2,(List.range C.length).map fun k=>if k=j then [.bool (nth C j).iF,.own 150 0 0 (nth C j).ops.length] else YW C k⟩)::(150,YV C j)::[(99,⟨0,.aC,46,0,WK c T⟩)]++(Xk 200++VT 1000 C.length fun k=>if k=j then ⟨0,.own,3,1,[]⟩ else YV C k)⟩) ?_ ?_
     ·unfold YV;rw [hP];refine XC rfl rfl rfl (xR C.length j _ JH) (by rw [if_pos rfl];rfl) rfl rfl ?_
      (repeat (first|refine zt.ai (zD rfl) rfl rfl ?_|refine zt.cL (Ye rfl rfl rfl rfl rfl rfl) rfl rfl ?_|refine zs8 rfl rfl (by first|exact (zj _).symm|rfl|(simp;done)|omega|(simp;omega)) rfl rfl rfl zd (by exact WE.own rfl rfl zd (by first|exact zj _|exact (zj _).symm|exact yT|rfl|(simp;done)|omega|(simp;omega))) RL RL rfl rfl rfl ?_|refine zt.ai (yL rfl rfl rfl rfl rfl rfl zd rfl RL) rfl rfl ?_|refine zt.ai (Zl rfl rfl rfl rfl rfl rfl zd) rfl rfl ?_))
      refine ziZ rfl (show _=FV.own 94 (0+1) 0 (List.map yx P0++[[FV.int .i64 (i:Int)]]).length from rfl) (.inr (.inl ⟨_,_,_,_,rfl,yI rfl zd⟩)) rfl rfl rfl (xR C.length j _ JH) (by rw [if_pos rfl];show 1<2;omega) rfl ?_;refine zb ?_;rw [Vw];obtain ⟨C2,EM⟩:∃ C2:List dx,C.set j ⟨b0,P0++[i]⟩=C2:=⟨_,rfl⟩
      have EO:C2.length=C.length:=by rw [← EM,yA]
      have Aw:∀ k,k<C.length→nth C2 k=if j=k then ⟨b0,P0++[i]⟩ else nth C k:=fun k hk=>by rw [← EM];exact YH hk
      have EN:nth C2 j=⟨b0,P0++[i]⟩:=by rw [Aw j JH,if_pos rfl]
      refine ⟨(i+1,C2),⟨by dsimp only;omega,by dsimp only;rw [eN];exact EM.symm⟩,by dsimp only;omega,?_⟩;dsimp only;rw [EO];refine ar.vI C.length EO za [⟨99,some 99,0,⟨0,.aC,46,0,WK c T⟩⟩] 100 0 j 94 (0+1) (fun k=>if k=j then [.bool b0,.own 94 (0+1) 0 (P0.length+1)] else YW C k) (by repeat (first|exact aT.nil|exact aT.dH rfl (by unfold zm;omega)|refine aT.cons rfl ?_)) zd zd zd ⟨rfl,rfl,by simp,by simp⟩ ?_ ?_ ?_ ?_ (.bL rfl rfl rfl .nil) zf
      ·refine Dx (b:=(⟨0,.aj,91,2,List.map (fun k=>if k=j then (if j=j then [FV.bool b0,FV.own 150 0 0 P0.length] else YW C j).set (0+1) (.own 94 (0+1) 0 (List.map yx P0++[[FV.int .i64 (i:Int)]]).length) else if k=j then [FV.bool b0,FV.own 150 0 0 P0.length] else YW C k) (List.range C.length)⟩:zE)) rfl ?_;refine congrArg (fun z=>(⟨0,.aj,91,2,z⟩:zE)) (yZ fun k _=>?_);by_cases hk:k=j
       ·rw [if_pos hk,if_pos hk,if_pos rfl,zN,zj];rfl
       ·rw [if_neg hk,if_neg hk,if_neg hk]
      ·intro k hk aN;have Gd : ¬ j=k:=fun e=>aN e.symm;refine ⟨?_,(yb (C:=[(100,_),(94,_),(150,_),(93,_),(100,_),(150,_),(99,_)]) rfl zd hk).trans ?_⟩
       ·rw [if_neg aN];unfold YW;rw [Aw k hk,if_neg Gd]
       ·rw [if_neg aN];unfold YV;rw [Aw k hk,if_neg Gd]
      ·rw [if_pos rfl,EN];simp
      ·rw [EN];show (⟨_,_,_,_,_⟩:zE)=_;simp [yx]
     ·exact ar.Am (C:=C) za [⟨99,some 99,0,⟨0,.aC,46,0,WK c T⟩⟩] j JH (by repeat (first|exact aT.nil|exact aT.dH rfl (by unfold zm;omega)|refine aT.cons rfl ?_)) ⟨rfl,rfl,by simp,by simp⟩ rfl (fun k hk=>yb (C:=[(12,_),(12,_),(100,_),(99,_)]) rfl zd hk) (.bL rfl rfl rfl .nil) zf
    | false=>
     have bI:=bI (fun v=>by
      cases hx:jJ c v o with
      | false => rfl
      | true => have := hid (ZW.1 hx).2.1; cases this)
     refine zb ?_;refine ⟨(i+1,C),⟨by dsimp only;omega,bI.symm⟩,by dsimp only;omega,?_⟩;exact ar.fk (C:=C) za [⟨99,some 99,0,⟨0,.aC,46,0,WK c T⟩⟩] 100 0 (by repeat (first|exact aT.nil|exact aT.dH rfl (by unfold zm;omega)|refine aT.cons rfl ?_)) zd ⟨rfl,rfl,by simp,by simp⟩ rfl (fun j hj=>yb (C:=[(12,_),(12,_),(100,_),(99,_)]) rfl zd hj) (.bL rfl rfl rfl .nil) zf
   ·have bI:=bI (fun v=>by
     cases hx:jJ c v o with
     | false => rfl
     | true => have := (ZW.1 hx).1; rw [decide_eq_true this] at h2; cases h2)
    refine zb ?_;refine ⟨(i+1,C),⟨by dsimp only;omega,bI.symm⟩,by dsimp only;omega,?_⟩;exact ar.fk (C:=C) za [⟨99,some 99,0,⟨0,.aC,46,0,WK c T⟩⟩] 100 0 (by repeat (first|exact aT.nil|exact aT.dH rfl (by unfold zm;omega)|refine aT.cons rfl ?_)) zd ⟨rfl,rfl,by simp,by simp⟩ rfl (fun j hj=>yb (C:=[(12,_),(12,_),(100,_),(99,_)]) rfl zd hj) (.bL rfl rfl rfl .nil) zf
  ·have bI:=bI (fun v=>by
    cases hx:jJ c v o with
    | false => rfl
    | true => have := (ZW.1 hx).2.2.1; rw [decide_eq_true this] at h1; cases h1)
   refine zb ?_;refine ⟨(i+1,C),⟨by dsimp only;omega,bI.symm⟩,by dsimp only;omega,?_⟩;exact ar.fk (C:=C) za [⟨99,some 99,0,⟨0,.aC,46,0,WK c T⟩⟩] 100 0 (by repeat (first|exact aT.nil|exact aT.dH rfl (by unfold zm;omega)|refine aT.cons rfl ?_)) zd ⟨rfl,rfl,by simp,by simp⟩ rfl (fun j hj=>yb (C:=[(12,_),(12,_),(100,_),(99,_)]) rfl zd hj) (.bL rfl rfl rfl .nil) zf
 obtain rfl:i=l.length:=by simp at h;omega
 clear h;rw [← hC];have iV:C.length≤301:=by rw [hC,Wv];omega
 refine yW ?_;refine zt.ai (zD rfl) rfl rfl ?_;refine zt.ai (yj rfl) rfl rfl ?_;refine zt.le ?_ ((ar.EI 100 1000 C.length 1 (fun j=>[.bool (nth C j).iF]) (fun j _=>⟨rfl,rfl⟩) (w:=0) (E2:=91) (E:=3) (sz:=1) (fun _=>0) (fun j=>(nth C j).ops.map yx) ?_ (fun j hj=>yb (C:=[(100,_),(99,_)]) rfl zd hj) zd).trans (ar.share 6 rfl rfl zc))
 ·refine yW ?_;refine FW.ret ⟨.inl rfl,.sh (.cons (.tmp 6 rfl rfl) .nil) ?_ rfl⟩;show FV.list 2 _=FV.list 2 _;refine congrArg (FV.list 2) ?_;rw [show C.map dx.fv=((List.range C.length).map (nth C)).map dx.fv by rw [zhZ],xb];rfl
 ·refine Dx (b:=(⟨0,.aj,91,2,(List.range C.length).map (YW C)⟩:zE)) rfl ?_;refine congrArg (fun z=>(⟨0,.aj,91,2,z⟩:zE)) (yZ fun j _=>?_);rw [zj];rfl
end
section
variable {l:List aq} {c:Int}
def Ux (l:List aq) (c:Int) (j:Nat):Int:=(nth (Uf l c l.length) j).2.2
theorem B7:(ZI l c).length=(Uf l c l.length).length:=by unfold ZI;exact Wv _ _
theorem Vk (hj:j<(ZI l c).length):(Ah l c=true∧Ux l c j=0∧nth (ZI l c) j=⟨true,lM l c 0 l.length⟩)∨
  ∃ w,w<l.length∧sw l c w=true∧Ux l c j=(nth l w).arg∧nth (ZI l c) j=⟨false,w::lM l c (nth l w).arg l.length⟩:=by
 rw [B7] at hj;have h1:nth (ZI l c) j=_:=Cc hj;have hm:=zu hj;unfold Ux;rcases WL.1 hm with ⟨h0,e⟩|⟨w,w1,w2,e⟩
 ·left;refine ⟨h0,by rw [e],?_⟩;rw [h1,e];rfl
 ·right;refine ⟨w,w1,w2,by rw [e],?_⟩;rw [h1,e];rfl
theorem Yn (D:yE l) (hj:j<(ZI l c).length):i∈(nth (ZI l c) j).ops↔tW l c (Ux l c j) i:=by
 have rd:∀ v,i∈lM l c v l.length↔tW l c v i∧(nth l i).k=0:=fun v=>by
  rw [Hw,ZW];unfold tW;constructor
  ·rintro ⟨h1,h2,h3,h4,h5⟩;exact ⟨⟨h1,h4,(UQ h2).trans h5,WT h3⟩,h2⟩
  ·rintro ⟨⟨h1,h2,h3,h4⟩,h5⟩;exact ⟨h1,h5,xk h5 h4,h2,(UQ h5).symm.trans h3⟩
 rcases Vk hj with ⟨h0,h1,h2⟩|⟨w,w1,w2,h1,h2⟩
 ·rw [h1,h2];show i∈lM l c 0 l.length↔_;rw [rd];refine ⟨fun h=>h.1,fun h=>⟨h,?_⟩⟩;rcases D.kind h.1 with hk|hk
  ·exact hk
  ·exact absurd ((VC hk).symm.trans h.2.2.1) (D.arg h.1 hk)
 ·rw [h1,h2];show i∈w::lM l c (nth l w).arg l.length↔_;rw [zA,rd];rw [VG] at w2;constructor
  ·rintro (rfl|h)
   ·exact ⟨w1,w2.1,VC w2.2.1,w2.2.2⟩
   ·exact h.1
  ·intro h;rcases D.kind h.1 with hk|hk
   ·exact .inr ⟨h,hk⟩
   ·exact .inl (D.uniq h.1 w1 hk w2.2.1 (h.2.1.trans w2.1.symm) ((VC hk).symm.trans h.2.2.1))
theorem Ij (D:yE l) (hj:j<(ZI l c).length):0<(nth (ZI l c) j).ops.length:=by
 rcases Vk hj with ⟨h0,h1,h2⟩|⟨w,w1,w2,h1,h2⟩
 ·obtain ⟨i,hi,h⟩:=UY.1 h0;rw [h2];exact Xp (Hw.2 ⟨hi,h⟩)
 ·rw [h2];simp
theorem zlY (v:Int) (k:Nat):(lM l c v k).length≤k:=by unfold lM;exact yc (xV _ _) zc
theorem zre (hj:j<(ZI l c).length):(nth (ZI l c) j).ops.length≤l.length+1:=by
 rcases Vk hj with ⟨h0,h1,h2⟩|⟨w,w1,w2,h1,h2⟩
 ·rw [h2];have:=zlY (l:=l) (c:=c) 0 l.length;dsimp only;omega
 ·rw [h2];have:=zlY (l:=l) (c:=c) (nth l w).arg l.length;simp;omega
theorem Y8:(ZI l c).length≤l.length+1:=by rw [B7];exact LD
theorem zsa (D:yE l) (hi:i<l.length):nth (Cx l) i=yC l i:=by
 unfold Cx;rw [wU hi,decide_eq_true hi,yN];unfold yC;cases hd:(nth l i).done with
 | true => rfl
 | false=>
  rw [ZR,ZR,VM,Yk,zx,UY];constructor
  ·rintro ⟨j,hj,h⟩;simp only [zx,decide_eq_true_eq] at h;obtain ⟨h1,h2⟩:=h;have dT : j<l.length:=zn.1 hj;obtain ⟨w1,w2,_⟩:=WM h2;rw [ZM] at w2;refine ⟨by simpa using w2.1,j,dT,?_⟩;rcases D.kind dT with hk|hk
   ·exact ZW.2 ⟨hk,h1,w2.2.1.symm,by rw [w2.2.2,UQ hk]⟩
   ·have:j=i:=D.uniq dT hi hk w2.1 w2.2.1.symm (by rw [w2.2.2,VC hk]);subst this;rw [h1] at hd;cases hd
  ·rintro ⟨h1,j,hj,h2⟩;have h1:(nth l i).k=1:=by simpa using h1
   rw [ZW] at h2;refine ⟨j,zn.2 hj,?_⟩;rw [h2.2.1,yN,decide_eq_true_eq,UQ h2.1,h2.2.2.1,h2.2.2.2];exact Sp D hi h1
end
def pd (l:List aq) (C:List dx) (i:Nat):Nat→Nat→List (Nat×Nat)
 | 0, _ => []
 | f+1, k => if mU l (nth C i) (nth C k)=[] then pd l C i f (k+1) else mU l (nth C i) (nth C k)
def sW (l:List aq) (C:List dx):Nat→Nat→List (Nat×Nat)
 | 0, _ => []
 | f+1, i => if pd l C i (C.length - (i+1)) (i+1)=[] then sW l C f (i+1) else pd l C i (C.length - (i+1)) (i+1)
theorem RP {l:List aq} {C:List dx} {i:Nat}:∀ {f k:Nat},pd l C i f k=[]↔∀ j,k≤j→j<k+f→mU l (nth C i) (nth C j)=[]
 | 0, k => ⟨fun _ j h1 h2 => by omega, fun _ => rfl⟩
 | f+1,k=>by
  unfold pd;by_cases h:mU l (nth C i) (nth C k)=[]
  ·rw [if_pos h,RP];constructor
   ·intro h2 j h3 h4;by_cases e:j=k
    ·rw [e];exact h
    ·exact h2 j za za
   ·intro h2 j h3 h4;exact h2 j za za
  ·rw [if_neg h];exact ⟨fun h2=>absurd h2 h,fun h2=>absurd (h2 k (zg _) za) h⟩
theorem zn7 {l:List aq} {C:List dx} {i:Nat}:∀ {f k:Nat},pd l C i f k≠[]→∃ j,k≤j∧j<k+f∧pd l C i f k=mU l (nth C i) (nth C j)
 | 0, k, h => absurd rfl h
 | f+1,k,h=>by
  unfold pd at h ⊢;by_cases h1:mU l (nth C i) (nth C k)=[]
  ·rw [if_pos h1] at h ⊢;obtain ⟨j,j1,j2,j3⟩:=zn7 h;exact ⟨j,by omega,by omega,j3⟩
  ·rw [if_neg h1];exact ⟨k,zg _,by omega,rfl⟩
theorem RO {l:List aq} {C:List dx}:∀ {f i:Nat},sW l C f i=[]↔∀ a,i≤a→a<i+f→∀ j,a<j→j<C.length→mU l (nth C a) (nth C j)=[]
 | 0, i => ⟨fun _ j h1 h2 => by omega, fun _ => rfl⟩
 | f+1,i=>by
  unfold sW;by_cases h:pd l C i (C.length - (i+1)) (i+1)=[]
  ·rw [if_pos h,RO];rw [RP] at h;constructor
   ·intro h2 a h3 h4 j h5 h6;by_cases e:a=i
    ·subst e;exact h j za za
    ·exact h2 a za za j h5 h6
   ·intro h2 a h3 h4;exact h2 a za za
  ·rw [if_neg h];refine ⟨fun h2=>absurd h2 h,fun h2=>absurd ?_ h⟩;exact RP.2 fun j h3 h4=>h2 i (zg _) za j za za
theorem zn6 {l:List aq} {C:List dx}:∀ {f i:Nat},sW l C f i≠[]→∃ a j,i≤a∧a<i+f∧a<j∧j<C.length∧sW l C f i=mU l (nth C a) (nth C j)
 | 0, i, h => absurd rfl h
 | f+1,i,h=>by
  unfold sW at h ⊢;by_cases h1:pd l C i (C.length - (i+1)) (i+1)=[]
  ·rw [if_pos h1] at h ⊢;obtain ⟨a,j,j1,j2,j3,j4,j5⟩:=zn6 h;exact ⟨a,j,by omega,by omega,j3,j4,j5⟩
  ·rw [if_neg h1];obtain ⟨j,j1,j2,j3⟩:=zn7 h1;exact ⟨i,j,zg _,by omega,by omega,by omega,j3⟩
structure LV where
 cls:Int
 ord:List Nat
 ed:List (Nat×Nat)
 deriving DecidableEq
def tK (l:List aq) (c:Int) (i:Nat):Bool:=decide ((nth l i).key=c) && vh l i
def UA (l:List aq) (c:Int) (i:Nat):Bool:=decide ((nth l i).key=c) && DZ l i
def IW (l:List aq) (i:Nat):Nat:=(jH l (nth l i).key (nth l i).res).getD 0
def tL (l:List aq) (c:Int):List (Nat×Nat):=sW l (ZI l c) (ZI l c).length 0
def jP (l:List aq) (c:Int):LV:=
 match (List.range l.length).find? (tK l c) with
 | some i => ⟨2, [i], []⟩
 | none => match (List.range l.length).find? (UA l c) with
  | some i => ⟨3, [i, IW l i], []⟩
  | none => if tL l c=[] then ⟨0, [], []⟩ else ⟨4, [], tL l c⟩
theorem zlc (hi:i<n) (h:p i=true) (hj:∀ j,j<i→p j=false):(List.range n).find? p=some i:=by
 rw [HX];exact ⟨h,zn.2 hi,fun j dT=>by rw [hj j dT];rfl⟩
theorem zlb (hj:∀ j,j<n→p j=false):(List.range n).find? p=none:=by
 rw [xq];exact fun j dT=>by rw [hj j (zn.1 dT)];decide
end Go.Proofs.YtphidhljdcledaaGreat
