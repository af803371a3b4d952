/-
  Lemmas, in parts.
-/
import Derived.Test.YtphidhljdcledaaGreatZFmCau4
import Derived.Test.YtphidhljdcledaaGreatChecked
import Derived.Shelf.SlIterI.Nil
import Derived.Shelf.SortM.Plain
import Derived.Shelf.SortM.SortNone
import Derived.Test.YtphidhljdcledaaGreatZC
import Derived.Test.YtphidhljdcledaaGreatZJ
import Derived.Test.YtphidhljdcledaaGreatZL
namespace Go.Proofs.YtphidhljdcledaaGreat
set_option linter.unusedVariables false
set_option maxHeartbeats 16000000
variable {a b i k n q sz y:Nat} {A L X:List (Nat×Nat)} {KS ex:List Nat} {ob:List (Nat×zE)} {w:World} {I:Nat→Prop} {l:List aq} {es:List (List FV)} {P:Program} {args pre:List FV} {Q:FV→(Nat→zE)→Prop} {r:FV}
section
open Go.RowKit
def WD (P:List (Nat×Nat)) (x:Nat):List Nat:=(P.filter fun e=>decide (e.2=x)).map (·.1)
def IG (ks:List Nat) (e:Nat×Nat):List Nat:=if e.2∈ks then ks else ks++[e.2]
def Xy (X:List (Nat×Nat)):List Nat:=X.foldl IG []
theorem zp1 (X:List (Nat×Nat)) (e:Nat×Nat):Xy (X++[e])=if e.2∈Xy X then Xy X else Xy X++[e.2]:=by
 unfold Xy;rw [ZU];rfl
theorem zox:∀ (X:List (Nat×Nat)) (ks:List Nat),ks.Nodup→(X.foldl IG ks).Nodup
 | [], _, h => h
 | e :: X, ks, h => zox X _ (by
  unfold IG;split
  ·exact h
  ·rename_i hk;exact xX.2 ⟨h,by simp,fun x hx y hy=>by rw [zq.1 hy];exact fun e=>hk (e▸hx)⟩)
theorem zow (X:List (Nat×Nat)):(Xy X).Nodup:=zox X [] Ul
theorem zlz (q:Nat):∀ (X:List (Nat×Nat)) (ks:List Nat),q∈X.foldl IG ks↔q∈ks∨∃ e∈X,e.2=q
 | [], ks => by simp
 | e ::X,ks=>by
  rw [XT,zlz q X];unfold IG;split
  ·rename_i h;constructor
   ·rintro (h1|⟨e',h1,h2⟩)
    ·exact .inl h1
    ·exact .inr ⟨e',by simp [h1],h2⟩
   ·rintro (h1|⟨e',h1,h2⟩)
    ·exact .inl h1
    ·rcases zA.1 h1 with rfl|h1
     ·exact .inl (h2▸h)
     ·exact .inr ⟨e',h1,h2⟩
  ·constructor
   ·rintro (h1|⟨e',h1,h2⟩)
    ·rcases zC.1 h1 with h1|h1
     ·exact .inl h1
     ·exact .inr ⟨e,by simp,(zq.1 h1).symm⟩
    ·exact .inr ⟨e',by simp [h1],h2⟩
   ·rintro (h1|⟨e',h1,h2⟩)
    ·exact .inl (by simp [h1])
    ·rcases zA.1 h1 with rfl|h1
     ·exact .inl (by simp [h2])
     ·exact .inr ⟨e',h1,h2⟩
theorem UC:q∈Xy X↔∃ e∈X,e.2=q:=by unfold Xy;rw [zlz];simp
theorem Wl (X:List (Nat×Nat)) (e:Nat×Nat) (q:Nat):WD (X++[e]) q=WD X q++if e.2=q then [e.1] else []:=by
 unfold WD;rw [ZT,zF];congr 1;by_cases h:e.2=q
 ·rw [if_pos h,HW (by simpa using h)];rfl
 ·rw [if_neg h,HU (by simpa using h)];rfl
theorem zn0 (h:q∉Xy X):WD X q=[]:=by
 unfold WD;rw [Qm,List.filter_eq_nil_iff];intro e he h2;exact h (UC.2 ⟨e,he,by simpa using h2⟩)
def bw (KS:List Nat) (g:Nat→FV):List (List FV):=KS.map fun q:Nat=>[.int .i64 (q:Int),g q]
theorem UE {g:Nat→FV} (h:∀ q∈KS,q<1000):∀ row∈bw KS g,∀ kf,row.head? = some kf→XH Tryz.prog 3 kf:=fun row hr kf hk=>by
 obtain ⟨q,hq,rfl⟩:=zi.1 hr;injection hk with hk
 subst hk;have:=h q hq;exact WB (by unfold bU;omega)
theorem zlB {g:Nat→FV} {vf:FV} (hn:KS.Nodup):qg (bw KS g) (.int .i64 (k:Int)) vf (bw (if k∈KS then KS else KS++[k]) fun q=>if q=k then vf else g q):=by
 by_cases hk:k∈KS
 ·rw [if_pos hk];obtain ⟨j,hj⟩:=B4 hk;refine .inl ⟨j,g k,by unfold bw;rw [ye,hj];rfl,?_⟩;apply Lh;intro i;unfold bw;rw [WH,ye];by_cases dc:j=i
  ·subst dc;rw [if_pos rfl,hj,if_pos (by rw [zj];exact (yq.1 hj).1)];simp
  ·rw [if_neg dc,ye];cases hi:KS[i]? with
   | none => rfl
   | some q =>
    have:q≠k:=fun e=>dc (zr9 hn hj (e▸hi));simp [this]
 ·rw [if_neg hk];refine .inr ⟨fun row hr e=>?_,?_⟩
  ·obtain ⟨q,hq,rfl⟩:=zi.1 hr;simp at e;have:q=k:=by omega
   exact hk (this▸hq)
  ·unfold bw;rw [zF,List.map_singleton];dsimp only;rw [if_pos rfl];congr 1;refine yZ fun q hq=>?_;rw [if_neg (fun e:q=k=>hk (e▸hq))]
theorem PD {g:Nat→FV} {z:FV}:lK (bw KS g) (.int .i64 (k:Int)) z (if k∈KS then g k else z) (decide (k∈KS)):=by
 by_cases hk:k∈KS
 ·rw [if_pos hk];exact .inl ⟨by simpa using hk,zi.2 ⟨k,hk,rfl⟩⟩
 ·rw [if_neg hk];refine .inr ⟨by simpa using hk,rfl,fun row hr e=>?_⟩;obtain ⟨q,hq,rfl⟩:=zi.1 hr;simp at e;have:q=k:=by omega
  exact hk (this▸hq)
theorem sL.bw {M:List bJ} {g g' : Nat→FV} (h:∀ q∈KS,iI M (g q) (g' q)):sL M (bw KS g) (bw KS g'):=by
 refine ⟨by unfold Go.Proofs.YtphidhljdcledaaGreat.bw;simp,fun j cz hr=>?_⟩;unfold Go.Proofs.YtphidhljdcledaaGreat.bw at hr ⊢;rw [ye] at hr;cases hj:KS[j]? with
 | none => rw [hj] at hr; cases hr
 | some q =>
  rw [hj] at hr;injection hr with hr
  subst hr;exact ⟨_,g q,g' q,by rw [ye,hj];rfl,rfl,h q (zG hj)⟩
def gD (X:List (Nat×Nat)) (q:Nat):FV:=.own (1000+q) 0 0 (WD X q).length
def o7 (X:List (Nat×Nat)) (q:Nat):zE:=⟨0,.own,3,1,(WD X q).map yx⟩
theorem znP (h:dW A y=none):∀ p∈A,p.1≠y:=fun p hp e=>by
 unfold dW at h;have:=xq.1 (HG.1 h) p hp;simp [e] at this
theorem znO (h:dW A y=none):∀ row∈A.map Yd,row.head?≠some (.int .i64 (y:Int)):=fun row hr e=>by
 obtain ⟨p,hp,rfl⟩:=zi.1 hr;unfold Yd at e;simp at e;exact znP h p hp za
theorem VL (A:List (Nat×Nat)) (y:Nat):lK (A.map Yd) (.int .i64 (y:Int)) (.int .i64 0) (.int .i64 (((dW A y).getD 0:Nat):Int)) (dW A y).isSome:=by
 cases h:dW A y with
 | none => exact .inr ⟨rfl, rfl, znO h⟩
 | some d => exact .inl ⟨rfl, zi.2 ⟨_, UX h, rfl⟩⟩
theorem UW (h:∀ p∈A,p.1<1000):∀ row∈A.map Yd,∀ kf,row.head? = some kf→XH Tryz.prog 3 kf:=fun row hr kf hk=>by
 obtain ⟨p,hp,rfl⟩:=zi.1 hr;injection hk with hk
 subst hk;have:=h p hp;exact WB (by unfold bU;omega)
theorem Ui.F2 {t:List (Nat×FV)} {id ae E:Nat} {g g' : Nat→FV} (h:look {} ob id=⟨ae,.bh,E,sz,bw KS g⟩) (hv:∀ q∈KS,Ui ⟨t,ob⟩ (g q) (g' q)):Ui ⟨t,ob⟩ (.omap id ae) (.smap (bw KS g')):=by
 have ho:(⟨t,ob⟩:ah).ob id=⟨ae,.bh,E,sz,bw KS g⟩:=h;have key:∀ (j:Nat) row cz,(bw KS g)[j]? = some row→(bw KS g')[j]? = some cz→∃ q∈KS,row=[.int .i64 (q:Int),g q]∧cz=[.int .i64 (q:Int),g' q]:=fun j row cz h1 h2=>by
  unfold bw at h1 h2;rw [ye] at h1 h2;cases hj:KS[j]? with
  | none => rw [hj] at h1; cases h1
  | some q =>
   rw [hj] at h1 h2;injection h1 with h1;injection h2 with h2
   exact ⟨q,zG hj,h1.symm,h2.symm⟩
 refine .bh (yI ho zd) (by rw [ho]) (by rw [ho];unfold bw;simp) (fun j row cz h1 h2=>?_) (fun j row cz f f' h1 h2 hf bS=>?_)
 ·rw [ho] at h1;obtain ⟨q,_,rfl,rfl⟩:=key j row cz h1 h2;exact ⟨rfl,rfl⟩
 ·rw [ho] at h1;obtain ⟨q,hq,rfl,rfl⟩:=key j row cz h1 h2;injection hf with hf;injection bS with bS
  subst hf;subst bS;exact hv q hq
theorem zh9 (l:List aq) (r2 f1:FV) (K:Nat→Option (List (Nat×Nat))) (n t0:Nat) (fS:l.length=n) (hn:n≤1000) (hK:∀ i L,i<n→K i=some L→L.length≤2000∧∀ p∈L,p.1<n) (ht:t0<n) :
  xN Tryz.prog 43 [.ax 4 [[.list 8 (l.map aq.fv),f1,r2,.list 1 ((List.range n).map fun q=>[YA (K q)])]] 0 0,.int .i64 t0] [] [] (fun res _=>∃ A,Uh (Zr K n) t0 n A∧res=.smap (A.map Yd)):=by
 refine xN.G7 (c:=(fP Tryz.prog xp yF 78)) ⟨Tryz.func43,rfl,Tryz.ntmps43,by kernel_rfl⟩ xt (fun res o ⟨A,_,e⟩=>zlE (by rw [e];rfl)) ?_;intro w0 J;change GW _ _ _ _ _ ⟨[(0,.ax 4 [[.list 8 (l.map aq.fv),f1,r2,.list 1 ((List.range n).map fun q=>[YA (K q)])]] 0 0),(1,.int .i64 t0)],[]⟩;refine GW.seq ?_;refine zb ?_;change GW _ _ _ _ _ _;refine GW.seq ?_;refine zb ?_;change GW _ _ _ _ _ _;refine GW.le ?_ (ar.Pf (i:=15) rfl);refine GW.seq ?_;refine zb ?_;refine Yq (ziP (.list 8 (l.map aq.fv)) r2 f1 K n hn (fun i L hi hl=>⟨(hK i L hi hl).1,fun p hp=>xx ((hK i L hi hl).2 p hp) hn⟩)) [] rfl zQ.nil rfl rfl rfl rfl rfl rfl ?_;rintro _ _ ⟨P,hP,rfl⟩;refine ZQ.one [] (.list 2 (P.map bZ)) rfl rfl ?_;refine zb ?_;have AG:∀ e∈P,e.1<n∧e.2<n:=fun e he=>by
  obtain ⟨a,ha,h2⟩:=Vb.1 (hP.mem_iff.1 he);obtain ⟨p,hp,rfl⟩:=zi.1 h2;have ha:=zn.1 ha;refine ⟨ha,?_⟩;cases hk:K a with
  | none => rw [hk] at hp; cases hp
  | some L => rw [hk] at hp; exact (hK a L ha hk).2 p hp
 have Th:P.length≤2000000:=by
  have h3:=Kp (K:=K) (i:=n) (n:=n) (zg _) (fun a L ha hl=>(hK a L ha hl).1);have h4:=hP.length_eq;omega
 refine FW.loop (fun i:Nat=>⟨[(0,.ax 4 [[.list 8 (l.map aq.fv),f1,r2,.list 1 ((List.range n).map fun q=>[YA (K q)])]] 0 0),(1,.int .i64 t0),(5,.omap 105 0),(17,.list 2 (P.map bZ)),(18,.int .i64 P.length),(19,.int .i64 i)],[(105,⟨0,.bh,133,0,bw (Xy (P.take i)) (gD (P.take i))⟩)]++(Xk 200++VT 1000 n (o7 (P.take i)))⟩) (fun i=>i≤P.length) (fun i=>P.length - i) 0 (zp _) ?_ ?_
 ·exact ar.jr [⟨105,some 15,0+1,⟨0,.bh,133,0,[]⟩⟩] 1000 n (o7 []) rfl (by unfold zm;omega) rfl zc zc (by repeat (first|exact aT.nil|exact aT.dH rfl (by unfold zm;omega)|refine aT.cons rfl ?_)) (fun j _=>⟨rfl,rfl⟩) (.og rfl sL.nil .nil) zf
 intro i hi;refine zb ?_;refine FW.cond rfl (fun h=>?_) (fun h=>?_)
 ·have aA:i<P.length:=by simpa using h
  clear h;obtain ⟨e,he⟩:∃ e,nth P i=e:=⟨_,rfl⟩
  have hem:=AG e (by rw [← he];exact zu aA);have fz:P.take (i+1)=P.take i++[e]:=by rw [xe aA,← ak aA,he]
  obtain ⟨X,hX⟩:∃ X,P.take i=X:=⟨_,rfl⟩
  rw [hX] at fz ⊢;have CV:∀ q∈Xy X,q<1000:=fun q hq=>by
   obtain ⟨e',h1,rfl⟩:=UC.1 hq;rw [← hX] at h1;have:=(AG e' (xn h1)).2;omega
  refine zb ?_;rw [he];skip;have dp:=PD (KS:=Xy X) (g:=gD X) (k:=e.2) (z:=.nil);have aO:=fun vf=>zlB (g:=gD X) (k:=e.2) (vf:=vf) (zow X);have eR:=zp1 X e;have EZ:∀ q∈Xy X,q<n:=fun q hq=>by
   obtain ⟨e',h1,rfl⟩:=UC.1 hq;rw [← hX] at h1;exact (AG e' (xn h1)).2
  have AE:∀ q∈Xy (X++[e]),q<n:=fun q hq=>by
   rw [← fz] at hq;obtain ⟨e',h1,rfl⟩:=UC.1 hq;exact (AG e' (xn h1)).2
  obtain ⟨Ex,AD⟩:∃ Ex,Xy (X++[e])=Ex:=⟨_,rfl⟩
  rw [AD] at eR AE;have ij:(WD X e.2).length≤2000000:=by
   have h1:(WD X e.2).length≤X.length:=by unfold WD;rw [zj];exact xV ..
   have h2:X.length≤P.length:=by rw [← hX,zW];omega
   have h3:=Kp (K:=K) (i:=n) (n:=n) (zg _) (fun a L ha hl=>(hK a L ha hl).1);have h4:=hP.length_eq;omega
  by_cases hk:e.2∈Xy X
  ·rw [if_pos hk] at eR;simp only [if_pos hk] at aO dp;have dp:=PD (KS:=Xy X) (g:=(fun q=>if q=e.2 then .own 150 0 0 (WD X e.2).length else gD X q)) (k:=e.2) (z:=.nil);have aO:∀ vf,qg (bw (Xy X) (fun q=>if q=e.2 then .own 150 0 0 (WD X e.2).length else gD X q)) (.int .i64 (e.2:Int)) vf (bw Ex fun q=>if q=e.2 then vf else if q=e.2 then .own 150 0 0 (WD X e.2).length else gD X q):=fun vf=>by
    have:=zlB (g:=(fun q=>if q=e.2 then .own 150 0 0 (WD X e.2).length else gD X q)) (k:=e.2) (vf:=vf) (zow X);rw [if_pos hk] at this;rw [eR];exact this
   rw [if_pos hk] at dp;simp only [if_true] at dp;refine FW.le (s':=⟨[(0,.ax 4 [[.list 8 (l.map aq.fv),f1,r2,.list 1 ((List.range n).map fun q=>[YA (K q)])]] 0 0),(1,.int .i64 t0),(5,.omap 105 0),(7,.ptr 107 0 0 0),(17,.list 2 (P.map bZ)),(18,.int .i64 P.length),(19,.int .i64 i)],[(105,⟨0,.bh,133,0,bw (Xy X) (fun q=>if q=e.2 then .own 150 0 0 (WD X e.2).length else gD X q)⟩),(107,⟨0,.own,93,2,[bZ e]⟩),(150,⟨0,.own,3,1,(WD X e.2).map yx⟩)]++(Xk 200++VT 1000 n (fun q=>if q=e.2 then (⟨0,.own,3,1,[]⟩:zE) else o7 X q))⟩) ?_ ?_
   ·refine Zf ?_;refine zoQ YJ (UE CV) (WB (by unfold bU;omega)) dp rfl rfl rfl rfl rfl rfl rfl rfl ?_;refine yH ?_;refine ziU (d:=0) YJ (UE CV) (WB (by unfold bU;omega)) (aO _) rfl rfl rfl rfl rfl rfl ?_;refine zR.nil ⟨by kernel_rfl,?_⟩;refine zb ?_;refine ⟨i+1,by omega,by omega,?_⟩;rw [fz,AD];refine ar.cZ [⟨105,some 105,0,⟨0,.bh,133,0,bw Ex (gD (X++[e]))⟩⟩] 1000 n e.2 (some 33) (fun q=>if q=e.2 then 1 else 0) (o7 (X++[e])) rfl (by unfold zm;omega) rfl zc zc zc (by repeat (first|exact aT.nil|exact aT.dH rfl (by unfold zm;omega)|refine aT.cons rfl ?_)) ?_ ?_ zf
    ·intro q hq;by_cases bX:q=e.2
     ·subst bX;rw [if_pos rfl,if_pos rfl];refine .inr ⟨33,rfl,?_,rfl⟩;unfold o7;rw [Wl,if_pos rfl,zF];rfl
     ·rw [if_neg bX,if_neg bX];refine .inr ⟨_,rfl,(yb (C:=[(105,_),(33,_),(150,_),(32,_),(105,_),(107,_),(150,_)]) rfl zd hq).trans ?_,rfl⟩;show (if q=e.2 then _ else o7 X q)=_;rw [if_neg bX];unfold o7;rw [Wl,if_neg (fun h=>bX h.symm),zT]
    ·refine .og rfl (sL.bw fun q hq=>?_) .nil;have Br:q<n:=AE q hq;have cH:=xv (B:=1000) (s:=fun q=>if q=e.2 then some 33 else some (1000+q)) (vo:=fun q=>if q=e.2 then 1 else 0) (f:=o7 (X++[e])) Br;by_cases bX:q=e.2
     ·subst bX;rw [if_pos rfl,if_pos rfl] at cH;rw [if_pos rfl];unfold gD;refine .own (zX _ cH) rfl rfl ?_;rw [Wl,if_pos rfl];simp
     ·rw [if_neg bX,if_neg bX] at cH;rw [if_neg bX];show iI _ (if q=e.2 then _ else gD X q) _;rw [if_neg bX];unfold gD;refine .own (zX _ cH) rfl rfl ?_;rw [Wl,if_neg (fun h=>bX h.symm),zT]
   ·refine ar.cZ [⟨105,some 105,0,⟨0,.bh,133,0,bw (Xy X) (fun q=>if q=e.2 then .own 150 0 0 (WD X e.2).length else gD X q)⟩⟩,⟨107,some 7,0+1,⟨0,.own,93,2,[bZ e]⟩⟩,⟨150,some (1000+e.2),0,⟨0,.own,3,1,(WD X e.2).map yx⟩⟩] 1000 n e.2 none (fun _=>0) (fun q=>if q=e.2 then (⟨0,.own,3,1,[]⟩:zE) else o7 X q) rfl (by unfold zm;omega) rfl zc DO DO (by repeat (first|exact aT.nil|exact aT.dH rfl (by unfold zm;omega)|refine aT.cons rfl ?_)) ?_ ?_ zf
    ·intro q hq;by_cases bX:q=e.2
     ·rw [if_pos bX,if_pos bX];exact .inl ⟨rfl,rfl,rfl⟩
     ·rw [if_neg bX,if_neg bX];exact .inr ⟨_,rfl,(yb (C:=[(7,_),(7,_),(105,_)]) rfl zd hq).trans rfl,rfl⟩
    ·refine .og rfl (sL.bw fun q hq=>?_) (.bL rfl zd rfl (.bL ((yb (C:=[(7,_),(7,_),(105,_)]) rfl zd hem.2).trans rfl) zd rfl .nil));have Br:q<n:=EZ q hq;have cH:=xv (B:=1000) (s:=fun q=>if q=e.2 then none else some (1000+q)) (vo:=fun _=>0) (f:=(fun q=>if q=e.2 then (⟨0,.own,3,1,[]⟩:zE) else o7 X q)) Br;by_cases bX:q=e.2
     ·subst bX;rw [if_pos rfl];unfold gD;exact .own (.tail _ (.tail _ (.head _))) rfl rfl rfl
     ·rw [if_neg bX,if_neg bX] at cH;rw [if_neg bX];unfold gD;exact .own (zX _ cH) rfl rfl rfl
  ·rw [if_neg hk] at dp eR;simp only [if_neg hk] at aO;rw [← eR] at aO;have gS:=zn0 hk;refine Zf ?_;refine zoQ YJ (UE CV) (WB (by unfold bU;omega)) dp rfl rfl rfl rfl rfl rfl rfl rfl ?_;refine yH ?_;refine ziU (d:=0) YJ (UE CV) (WB (by unfold bU;omega)) (aO _) rfl rfl rfl rfl rfl rfl ?_;refine zR.nil ⟨by kernel_rfl,?_⟩;refine zb ?_;refine ⟨i+1,by omega,by omega,?_⟩;rw [fz,AD];refine ar.cZ [⟨105,some 105,0,⟨0,.bh,133,0,bw Ex (gD (X++[e]))⟩⟩] 1000 n e.2 (some 33) (fun q=>if q=e.2 then 1 else 0) (o7 (X++[e])) rfl (by unfold zm;omega) rfl zc zc zc (by repeat (first|exact aT.nil|exact aT.dH rfl (by unfold zm;omega)|refine aT.cons rfl ?_)) ?_ ?_ zf
   ·intro q hq;by_cases bX:q=e.2
    ·subst bX;rw [if_pos rfl,if_pos rfl];refine .inr ⟨33,rfl,?_,rfl⟩;unfold o7;rw [Wl,if_pos rfl,gS,YQ];rfl
    ·rw [if_neg bX,if_neg bX];refine .inr ⟨_,rfl,(yb (C:=[(105,_),(33,_),(32,_),(7,_),(7,_),(105,_)]) rfl zd hq).trans ?_,rfl⟩;unfold o7;rw [Wl,if_neg (fun h=>bX h.symm),zT]
   ·refine .og rfl (sL.bw fun q hq=>?_) .nil;have Br:q<n:=AE q hq;have cH:=xv (B:=1000) (s:=fun q=>if q=e.2 then some 33 else some (1000+q)) (vo:=fun q=>if q=e.2 then 1 else 0) (f:=o7 (X++[e])) Br;by_cases bX:q=e.2
    ·subst bX;rw [if_pos rfl,if_pos rfl] at cH;rw [if_pos rfl];unfold gD;refine .own (zX _ cH) rfl rfl ?_;rw [Wl,if_pos rfl,gS,YQ];simp
    ·rw [if_neg bX,if_neg bX] at cH;rw [if_neg bX];unfold gD;refine .own (zX _ cH) rfl rfl ?_;rw [Wl,if_neg (fun h=>bX h.symm),zT]
 ·have oJ:i=P.length:=by simp at h;omega
  subst oJ;clear h hi;rw [yy];refine zb ?_;change GW _ _ _ _ _ _;refine GW.le (s':=⟨[(0,.ax 4 [[.list 8 (l.map aq.fv),f1,r2,.list 1 ((List.range n).map fun q=>[YA (K q)])]] 0 0),(1,.int .i64 t0),(5,.smap (bw (Xy P) fun q=>.list 1 ((WD P q).map yx)))],[]⟩) ?_ (ar.freeze (aT.gh (by repeat (first|exact aT.nil|exact aT.dH rfl (by unfold zm;omega)|refine aT.cons rfl ?_))) (.cons rfl (.plain rfl) rfl (.cons rfl (.plain rfl) rfl (.cons rfl (Ui.F2 rfl fun q hq=>?_) rfl .nil))))
  ·refine GW.seq ?_;refine zb ?_;refine zte YJ (fun row hr=>by cases hr) (WB (by unfold bU;omega)) (.inr ⟨fun row hr=>(by cases hr),rfl⟩) rfl rfl rfl rfl rfl rfl rfl ?_;refine zb ?_;change GW _ _ _ _ _ _;refine GW.le (s':=⟨[(0,.ax 4 [[.list 8 (l.map aq.fv),f1,r2,.list 1 ((List.range n).map fun q=>[YA (K q)])]] 0 0),(1,.int .i64 t0),(5,.smap (bw (Xy P) fun q=>.list 1 ((WD P q).map yx))),(8,.omap 106 0)],[(106,⟨0,.aC,64,0,[(t0,0)].map Yd⟩)]⟩) ?_ (ar.cv [⟨106,some 35,0+1,⟨0,.aC,64,0,[(t0,0)].map Yd⟩⟩] zh zf);refine GW.Hh ?_;change GW _ _ _ (.region _ ([_,_,_,_,_,_]++([_,_]:List Oper)).toArray false) _ _;refine GW.make (n:=n+1) (dir:=.both) (e:=3) (ag:=false) zw rfl (by show 8 * (n+1)≤_;omega) za zd ?_;refine zb ?_;refine ⟨by show FV.int .i64 ((l.length:Int)+1)=_;rw [fS];rfl,?_⟩;rintro ⟨d,dD,cap⟩ hd dB fa a w s9;dsimp only at hd dB;subst hd;subst dB;obtain ⟨h,hh⟩:∃ h:Ch,h=⟨9,dD,n+1⟩:=⟨_,rfl⟩
   rw [← hh] at s9 fa;refine wp_mono (Q:=fun e a' w'=>∃ s' q',((e=.ret∨e=.normal)∧∃ res,Ad (fP Tryz.prog xp yF 78) Tryz.f43 s' res∧∃ A,Uh (Zr K n) t0 n A∧res=.smap (A.map Yd))∧vG (fP Tryz.prog xp yF 78) w0 J h q' s' a' w') ?_ (fun e a' w' ⟨s',q',hq,hr⟩=>let ⟨β,hf⟩:=fa _ _ _ _ hr;⟨s',β,hq,hf⟩);refine (show CW (fP Tryz.prog xp yF 78) w0 J h _ (fun e s' q'=>((e=.ret∨e=.normal)∧∃ res,Ad (fP Tryz.prog xp yF 78) Tryz.f43 s' res∧∃ A,Uh (Zr K n) t0 n A∧res=.smap (A.map Yd))) ⟨_,_⟩ [] from ?_) a w s9;refine CW.seq ?_;subst hh;refine CW.send (h:=⟨9,dD,n+1⟩) rfl (by show 0<n+1;omega) ⟨by decide,by decide,by decide,by show 45≠9;decide,by show 46≠9;decide⟩ ?_;refine CW.seq ?_;refine CW.block ?_;refine CW.loop (fun x:List (Nat×Nat)×List (Nat×Nat)=>⟨[(5,.smap (bw (Xy P) fun q=>.list 1 ((WD P q).map yx))),(8,.omap 106 0)],[(106,⟨0,.aC,64,0,(x.1++x.2).map Yd⟩)]⟩) (fun x=>x.2.map fun y=>(y.1:Int)) (fun x=>tT (Zr K n) t0 n x.1 x.2) (fun x=>n - x.1.length) ([],[(t0,0)]) (.start ht) rfl ?_ ?_
   ·exact (ar.cv [⟨106,some 106,0,⟨0,.aC,64,0,[(t0,0)].map Yd⟩⟩] zh zf)
   rintro ⟨D,q⟩ hI;dsimp only at hI ⊢;refine CW.seq ?_;refine CW.seq ?_;refine CW.len (h:=⟨9,dD,n+1⟩) (dir:=.both) (e:=3) zw ⟨by decide,by decide⟩ zw ?_;refine zb ?_;change CW _ _ _ _ _ _ _ _;refine CW.cond rfl (fun h=>?_) (fun h=>?_)
   ·refine CW.skip ?_;cases q with
    | nil => simp at h
    | cons xd q=>
     obtain ⟨x,d⟩:=xd;clear h;have Fb:=hI.take;have GV:(x,d)∈D++(x,d)::q:=by simp
     have hlen:=Fb.len;refine CW.block ?_;refine CW.seq ?_;refine CW.recv (h:=⟨9,dD,n+1⟩) (dir:=.both) (e:=3) (bb:=0) (ag:=false) zw rfl ⟨by decide,by decide,by decide,by show 50≠9;decide,by show 51≠9;decide,by show 10≠9;decide⟩ ?_;refine CW.seq ?_;refine CW.of zw ?_;have dp:=PD (KS:=Xy P) (g:=fun q=>.list 1 ((WD P q).map yx)) (k:=x) (z:=.nil);have Jt:∀ q∈Xy P,q<1000:=fun q hq=>by
      obtain ⟨e',h1,rfl⟩:=UC.1 hq;have:=(AG e' h1).2;omega
     have nX:x<n:=(Fb.cW _ GV).1;have Fw:d≤1000:=by have:=(Fb.cW _ GV).2;dsimp only at this;omega
     have Ni:∀ y,y∈WD P x↔(y,x)∈Zr K n:=fun y=>by
      rw [← hP.mem_iff];unfold WD;rw [zi];constructor
      ·rintro ⟨⟨a,b⟩,he,rfl⟩;obtain ⟨h1,h2⟩:=zY.1 he;simp at h2;rw [← h2];exact h1
      ·intro he;exact ⟨(y,x),zY.2 ⟨he,by simp⟩,rfl⟩
     by_cases hk:x∈Xy P
     ·rw [if_pos hk] at dp;refine zb ?_;refine KY (e:=22) YJ (UE Jt) (WB (by unfold bU;omega)) dp rfl rfl rfl rfl rfl rfl rfl ?_;refine zb ?_;change CW _ _ _ _ _ _ _ _;have ij:(WD P x).length≤2000000:=by
       have h1:(WD P x).length≤P.length:=by unfold WD;rw [zj];exact xV ..
       omega
      refine CW.block ?_;refine CW.loop (fun z:Nat×List (Nat×Nat)=>⟨[(5,.smap (bw (Xy P) fun q=>.list 1 ((WD P q).map yx))),(8,.omap 106 0),(10,.int .i64 x),(54,.list 1 ((WD P x).map yx)),(55,.int .i64 (WD P x).length),(56,.int .i64 z.1)],[(106,⟨0,.aC,64,0,(D++(x,d)::z.2).map Yd⟩)]⟩) (fun z=>z.2.map fun y=>(y.1:Int)) (fun z=>z.1≤(WD P x).length∧qO (Zr K n) t0 n D x d z.2 ((WD P x).take z.1)) (fun z=>(WD P x).length - z.1) (0,q) ⟨zp _,Fb⟩ rfl ?_ ?_
      ·exact (ar.cv [⟨106,some 106,0,⟨0,.aC,64,0,(D++(x,d)::q).map Yd⟩⟩] zh zf)
      rintro ⟨j,u⟩ ⟨hj,hX⟩;dsimp only at hj hX ⊢;have EL:=hX.len;have SZ:∀ p∈D++(x,d)::u,p.1<n:=fun p hp=>(hX.cW p hp).1;have S0:dW (D++(x,d)::u) x=some d:=Sb hX.nd zc;have im:u.length+1≤(D++(x,d)::u).length:=by simp
      have aO:∀ h:j<(WD P x).length,(WD P x).take (j+1)=(WD P x).take j++[nth (WD P x) j]:=fun h=>by rw [xe h,ak h]
      obtain ⟨B,hB⟩:∃ B,D++(x,d)::u=B:=⟨_,rfl⟩
      rw [hB] at EL SZ S0 im;rw [hB];refine CW.seq ?_;refine CW.of zw ?_;refine zb ?_;change CW _ _ _ _ _ _ _ _;refine CW.seq ?_;refine CW.cond rfl (fun h=>?_) (fun h=>?_)
      ·have cN:j<(WD P x).length:=by simpa using h
       clear h;refine CW.skip ?_;refine CW.seq ?_;refine CW.block ?_;refine CW.seq ?_;refine CW.of zw ?_;refine zb ?_;change CW _ _ _ _ _ _ _ _;obtain ⟨y,hy⟩:∃ y,nth (WD P x) j=y:=⟨_,rfl⟩
       have hym:y∈WD P x:=by rw [← hy];exact zu cN
       have U6:=(Ni y).1 hym;have OZ:y<n:=(AG _ (hP.mem_iff.2 U6)).1;have aO:=aO cN;rw [hy] at aO;rw [hy];have Av:∀ p∈B,p.1<1000:=fun p hp=>xx (SZ p hp) hn;have hly:=VL B y;have F1:=VL B x;rw [S0] at F1;refine CW.seq ?_;refine CW.of zw ?_;refine zb ?_;refine Vz (e:=3) YJ (UW Av) (WB (by unfold bU;omega)) hly rfl rfl zd rfl rfl rfl rfl rfl rfl ?_;refine zb ?_;change CW _ _ _ _ _ _ _ _;refine CW.seq ?_;refine CW.of zw ?_;refine zb ?_;change CW _ _ _ _ _ _ _ _;refine CW.cond rfl (fun h=>?_) (fun h=>?_)
       ·have bl:dW B y=none:=by cases ha:dW B y with|none=>rfl|some d=>rw [ha] at h;cases h
        rw [bl];refine CW.seq ?_;refine CW.of zw ?_;refine zb ?_;refine Qo (e:=3) YJ (UW Av) (WB (by unfold bU;omega)) F1 rfl rfl zd rfl rfl rfl rfl rfl rfl ?_;rw [Zy];refine zb ?_;refine YD YJ (UW Av) (WB (by unfold bU;omega)) (show qg (B.map Yd) (.int .i64 (y:Int)) (.int .i64 ((d:Int)+1)) (B.map Yd++[[.int .i64 (y:Int),.int .i64 ((d:Int)+1)]]) from .inr ⟨znO bl,rfl⟩) rfl rfl rfl rfl rfl rfl rfl ?_;refine zb ?_;change CW _ _ _ _ _ _ _ _;refine CW.send (h:=⟨9,dD,n+1⟩) rfl (by rw [zj];show u.length<n+1;omega) ⟨by decide,by decide,by decide,by show 74≠9;decide,by show 75≠9;decide⟩ ?_;change CW _ _ _ _ _ _ _ _;refine CW.of zw ?_;refine zb ?_;refine ⟨(j+1,u++[(y,d+1)]),⟨cN,?_⟩,by show (WD P x).length - (j+1)<(WD P x).length - j;omega,by simp,?_⟩
        ·rw [aO];exact hX.push OZ U6 (by rw [hB];exact znP bl)
        dsimp only;rw [show (D++(x,d)::(u++[(y,d+1)])).map Yd=B.map Yd++[[.int .i64 (y:Int),.int .i64 ((d:Int)+1)]] by rw [← hB];simp [Yd]];generalize B.map Yd++[[FV.int .i64 (y:Int),.int .i64 ((d:Int)+1)]]=ES;show ar _ ⟨[(5,.smap (bw (Xy P) fun q=>.list 1 ((WD P q).map yx))),(8,.omap 106 0),(10,.int .i64 x),(54,.list 1 ((WD P x).map yx)),(55,.int .i64 (WD P x).length),(56,.int .i64 (j+1:Nat))],[(106,⟨0,.aC,64,0,ES⟩)]⟩;exact (ar.cv [⟨106,some 106,0,⟨0,.aC,64,0,ES⟩⟩] zh zf)
       ·refine CW.skip ?_;change CW _ _ _ _ _ _ _ _;refine CW.of zw ?_;refine zb ?_;obtain ⟨d',vO⟩:∃ d',dW B y=some d':=by cases ha:dW B y with|none=>rw [ha] at h;cases h|some d'=>exact ⟨d',rfl⟩
        refine ⟨(j+1,u),⟨cN,?_⟩,by show (WD P x).length - (j+1)<(WD P x).length - j;omega,rfl,?_⟩
        ·rw [aO];exact hX.seen (by rw [hB];exact UX vO)
        dsimp only;rw [hB];exact (ar.cv [⟨106,some 106,0,⟨0,.aC,64,0,B.map Yd⟩⟩] zh zf)
      ·refine CW.exit ?_;have kr:j=(WD P x).length:=by simp at h;omega
       rw [kr,yy] at hX;refine ⟨(D++[(x,d)],u),hX.done fun y hy=>(Ni y).2 hy,by show n - (D++[(x,d)]).length<n - D.length;rw [← hB] at EL;simp at EL ⊢;omega,rfl,?_⟩;dsimp only;rw [show D++[(x,d)]++u=B by rw [← hB];simp];exact (ar.cv [⟨106,some 106,0,⟨0,.aC,64,0,B.map Yd⟩⟩] zh zf)
     ·rw [if_neg hk] at dp;refine zb ?_;refine KY (e:=22) YJ (UE Jt) (WB (by unfold bU;omega)) dp rfl rfl rfl rfl rfl rfl rfl ?_;refine zb ?_;change CW _ _ _ _ _ _ _ _;refine CW.block ?_;refine CW.loop (fun _:Unit=>⟨[(5,.smap (bw (Xy P) fun q=>.list 1 ((WD P q).map yx))),(8,.omap 106 0),(55,.int .i64 0),(56,.int .i64 0)],[(106,⟨0,.aC,64,0,(D++(x,d)::q).map Yd⟩)]⟩) (fun _=>q.map fun y=>(y.1:Int)) (fun _=>True) (fun _=>0) () trivial rfl ?_ ?_
      ·exact (ar.cv [⟨106,some 106,0,⟨0,.aC,64,0,(D++(x,d)::q).map Yd⟩⟩] zh zf)
      rintro _ _;refine CW.seq ?_;refine CW.of zw ?_;refine zb ?_;change CW _ _ _ _ _ _ _ _;refine CW.seq ?_;refine CW.cond rfl (fun h=>absurd h zd) (fun h=>?_);refine CW.exit ?_;have hnb:WD P x=[]:=zn0 hk;refine ⟨(D++[(x,d)],q),Fb.done (fun y hy=>by have:=(Ni y).2 hy;rw [hnb] at this;cases this),by show n - (D++[(x,d)]).length<n - D.length;simp at hlen ⊢;omega,rfl,?_⟩;dsimp only;rw [show D++[(x,d)]++q=D++(x,d)::q by simp];exact (ar.cv [⟨106,some 106,0,⟨0,.aC,64,0,(D++(x,d)::q).map Yd⟩⟩] zh zf)
   ·refine CW.exit ?_;change CW _ _ _ _ _ _ _ _;refine CW.of zw ?_;refine zb ?_;have JO:q=[]:=by cases q with|nil=>rfl|cons y q=>simp at h
    subst JO;rw [zT];refine FW.le (s':=⟨[(4,.smap (D.map Yd))],[]⟩) (FW.ret ⟨.inl rfl,_,.tmp rfl rfl,D,hI.finish,rfl⟩) ?_;exact ar.freeze (aT.gh (by repeat (first|exact aT.nil|exact aT.dH rfl (by unfold zm;omega)|refine aT.cons rfl ?_))) (.cons rfl (Ui.mM rfl) rfl .nil)
  ·have Br:q<n:=by
    obtain ⟨e',h1,rfl⟩:=UC.1 hq;exact (AG e' h1).2
   exact Ui.BO ((yb (C:=[(105,_)]) rfl zd Br).trans rfl) zc (fun e he=>by obtain ⟨q,_,rfl⟩:=zi.1 he;rfl) (fun g hg=>by obtain ⟨e,he,hg⟩:=yJ.1 hg;obtain ⟨q,_,rfl⟩:=zi.1 he;rw [zq.1 hg];rfl)
end
section
open Go.Shelf
def zl2:Go.Shelf.Ren:=
{
 f:=fun x=>
  match x with
  | 7 => 66
  | 10 => 87
  | n => n,
 t:=fun x=>
  match x with
  | 23 => 64
  | 26 => 3
  | 3 => 3
  | 28 => 137
  | 0 => 0
  | 27 => 136
  | 33 => 69
  | 4 => 4
  | n => n,
 g:=fun x=>
  have n:=x;
  n }
theorem ziB:SlLaysZI.n7 Tryz.prog zl2 where
 mixed:=by kernel_rfl
 f7:=⟨"maps.Keys[map[int]int,int,int]",by decide,by kernel_rfl⟩
 f10:=⟨"maps.Keys[map[int]int,int,int]$1",by decide,by kernel_rfl⟩
 t0:=by kernel_rfl
 a0:=fun _=>by kernel_rfl
 z0:=fun _=>by kernel_rfl
 v0:=fun _=>by kernel_rfl
 t4:=by kernel_rfl
 a4:=fun _=>by kernel_rfl
 z4:=fun _=>by kernel_rfl
 v4:=fun _=>by kernel_rfl
 t23:=by kernel_rfl
 a23:=fun _=>by kernel_rfl
 z23:=fun _=>by kernel_rfl
 v23:=fun _=>by kernel_rfl
 t26:=by kernel_rfl
 a26:=fun _=>by kernel_rfl
 z26:=fun _=>by kernel_rfl
 v26:=fun _=>by kernel_rfl
 t27:=by kernel_rfl
 a27:=fun _=>by kernel_rfl
 z27:=fun _=>by kernel_rfl
 v27:=fun _=>by kernel_rfl
 t28:=by kernel_rfl
 a28:=fun _=>by kernel_rfl
 z28:=fun _=>by kernel_rfl
 v28:=fun _=>by kernel_rfl
 t33:=by kernel_rfl
 a33:=fun _=>by kernel_rfl
 z33:=fun _=>by kernel_rfl
 v33:=fun _=>by kernel_rfl
def Z4:Go.Shelf.Ren:=
{
 f:=fun x=>
  match x with
  | 6 => 65
  | 8 => 86
  | 9 => 33
  | 11 => 95
  | 13 => 54
  | 12 => 53
  | 23 => 78
  | 24 => 79
  | 14 => 69
  | 15 => 70
  | 16 => 71
  | 17 => 72
  | 18 => 73
  | 19 => 74
  | 20 => 75
  | 21 => 76
  | 22 => 77
  | 25 => 88
  | 26 => 89
  | 27 => 90
  | 28 => 91
  | 29 => 92
  | 30 => 93
  | 31 => 96
  | n => n,
 t:=fun x=>
  match x with
  | 26 => 3
  | 28 => 137
  | 24 => 22
  | 0 => 0
  | 3 => 3
  | 37 => 118
  | 48 => 154
  | 50 => 156
  | 4 => 4
  | 40 => 148
  | 39 => 147
  | 45 => 80
  | 5 => 5
  | 9 => 9
  | 51 => 160
  | 55 => 164
  | 57 => 169
  | 58 => 170
  | 33 => 69
  | n => n,
 g:=fun x=>
  have n:=x;
  n }
theorem zlD:SlLaysZI.n6 Tryz.prog Z4 where
 mixed:=by kernel_rfl
 f6:=⟨"slices.Sorted[int]",by decide,by kernel_rfl⟩
 f8:=⟨"slices.Collect[int]",by decide,by kernel_rfl⟩
 f11:=⟨"slices.AppendSeq[[]int,int]",by decide,by kernel_rfl⟩
 t0:=by kernel_rfl
 a0:=fun _=>by kernel_rfl
 z0:=fun _=>by kernel_rfl
 v0:=fun _=>by kernel_rfl
 t24:=by kernel_rfl
 a24:=fun _=>by kernel_rfl
 z24:=fun _=>by kernel_rfl
 v24:=fun _=>by kernel_rfl
 t26:=by kernel_rfl
 a26:=fun _=>by kernel_rfl
 z26:=fun _=>by kernel_rfl
 v26:=fun _=>by kernel_rfl
 t28:=by kernel_rfl
 a28:=fun _=>by kernel_rfl
 z28:=fun _=>by kernel_rfl
 v28:=fun _=>by kernel_rfl
 i26:=by kernel_rfl
def zs4:Go.Shelf.Ren:=
{
 f:=fun x=>
  match x with
  | 5 => 33
  | 8 => 54
  | 7 => 53
  | 19 => 78
  | 20 => 79
  | 10 => 69
  | 11 => 70
  | 12 => 71
  | 13 => 72
  | 14 => 73
  | 15 => 74
  | 16 => 75
  | 17 => 76
  | 18 => 77
  | 30 => 88
  | 31 => 89
  | 32 => 90
  | 33 => 91
  | 34 => 92
  | 35 => 93
  | 40 => 96
  | n => n,
 t:=fun x=>
  match x with
  | 23 => 22
  | 25 => 3
  | 3 => 3
  | 32 => 118
  | 22 => 22
  | 0 => 0
  | 44 => 154
  | 46 => 156
  | 4 => 4
  | 36 => 148
  | 35 => 147
  | 41 => 80
  | 5 => 5
  | 9 => 9
  | 53 => 160
  | 57 => 164
  | 63 => 169
  | 64 => 170
  | n => n,
 g:=fun x=>
  have n:=x;
  n }
theorem ziC:SlLaysM.n5 Tryz.prog zs4 where
 mixed:=by kernel_rfl
 f5:=⟨"slices.Sort[[]int,int]",by decide,by kernel_rfl⟩
 f7:=⟨"slices.pdqsortOrdered[int]",by decide,by kernel_rfl⟩
 f8:=by kernel_rfl
 f10:=⟨"slices.insertionSortOrdered[int]",by decide,by kernel_rfl⟩
 f11:=⟨"slices.heapSortOrdered[int]",by decide,by kernel_rfl⟩
 f12:=⟨"slices.breakPatternsOrdered[int]",by decide,by kernel_rfl⟩
 f13:=⟨"slices.choosePivotOrdered[int]",by decide,by kernel_rfl⟩
 f14:=⟨"slices.reverseRangeOrdered[int]",by decide,by kernel_rfl⟩
 f15:=⟨"slices.partialInsertionSortOrdered[int]",by decide,by kernel_rfl⟩
 f16:=⟨"cmp.Less[int]",by decide,by kernel_rfl⟩
 f17:=⟨"slices.partitionEqualOrdered[int]",by decide,by kernel_rfl⟩
 f18:=⟨"slices.partitionOrdered[int]",by decide,by kernel_rfl⟩
 f19:=by kernel_rfl
 f20:=by kernel_rfl
 f30:=⟨"slices.siftDownOrdered[int]",by decide,by kernel_rfl⟩
 f31:=by kernel_rfl
 f32:=by kernel_rfl
 f33:=⟨"slices.medianAdjacentOrdered[int]",by decide,by kernel_rfl⟩
 f34:=⟨"slices.medianOrdered[int]",by decide,by kernel_rfl⟩
 f35:=⟨"cmp.isNaN[int]",by decide,by kernel_rfl⟩
 f40:=⟨"slices.order2Ordered[int]",by decide,by kernel_rfl⟩
 t0:=by kernel_rfl
 a0:=fun _=>by kernel_rfl
 z0:=fun _=>by kernel_rfl
 v0:=fun _=>by kernel_rfl
 t3:=by kernel_rfl
 a3:=fun _=>by kernel_rfl
 z3:=fun _=>by kernel_rfl
 v3:=fun _=>by kernel_rfl
 t4:=by kernel_rfl
 a4:=fun _=>by kernel_rfl
 z4:=fun _=>by kernel_rfl
 v4:=fun _=>by kernel_rfl
 t5:=by kernel_rfl
 a5:=fun _=>by kernel_rfl
 z5:=fun _=>by kernel_rfl
 v5:=fun _=>by kernel_rfl
 t9:=by kernel_rfl
 a9:=fun _=>by kernel_rfl
 z9:=fun _=>by kernel_rfl
 v9:=fun _=>by kernel_rfl
 t22:=by kernel_rfl
 a22:=fun _=>by kernel_rfl
 z22:=fun _=>by kernel_rfl
 v22:=fun _=>by kernel_rfl
 t23:=by kernel_rfl
 a23:=fun _=>by kernel_rfl
 z23:=fun _=>by kernel_rfl
 v23:=fun _=>by kernel_rfl
 t25:=by kernel_rfl
 a25:=fun _=>by kernel_rfl
 z25:=fun _=>by kernel_rfl
 v25:=fun _=>by kernel_rfl
 t32:=by kernel_rfl
 a32:=fun _=>by kernel_rfl
 z32:=fun _=>by kernel_rfl
 v32:=fun _=>by kernel_rfl
 t35:=by kernel_rfl
 a35:=fun _=>by kernel_rfl
 z35:=fun _=>by kernel_rfl
 v35:=fun _=>by kernel_rfl
 t36:=by kernel_rfl
 a36:=fun _=>by kernel_rfl
 z36:=fun _=>by kernel_rfl
 v36:=fun _=>by kernel_rfl
 t41:=by kernel_rfl
 a41:=fun _=>by kernel_rfl
 z41:=fun _=>by kernel_rfl
 v41:=fun _=>by kernel_rfl
 t44:=by kernel_rfl
 a44:=fun _=>by kernel_rfl
 z44:=fun _=>by kernel_rfl
 v44:=fun _=>by kernel_rfl
 t46:=by kernel_rfl
 a46:=fun _=>by kernel_rfl
 z46:=fun _=>by kernel_rfl
 v46:=fun _=>by kernel_rfl
 t53:=by kernel_rfl
 a53:=fun _=>by kernel_rfl
 z53:=fun _=>by kernel_rfl
 v53:=fun _=>by kernel_rfl
 t57:=by kernel_rfl
 a57:=fun _=>by kernel_rfl
 z57:=fun _=>by kernel_rfl
 v57:=fun _=>by kernel_rfl
 t63:=by kernel_rfl
 a63:=fun _=>by kernel_rfl
 z63:=fun _=>by kernel_rfl
 v63:=fun _=>by kernel_rfl
 t64:=by kernel_rfl
 a64:=fun _=>by kernel_rfl
 z64:=fun _=>by kernel_rfl
 v64:=fun _=>by kernel_rfl
end
section
open Go.RowKit Go.Sort
theorem zxC (m:Nat):AnyZI.SortsIn Tryz.prog Z4 Fence.wide m:=
 ⟨fun blk off cap ss W hH bp aY=>callsIn_wide.2 (AnyM.slices_Sort_int ziC blk off cap ss W hH bp aY),
 fun p cap W=>callsIn_wide.2 (AnyM.slices_Sort_int_none ziC p cap W)⟩
def ny (L:List (Nat×Nat)):List Int:=(L.map fun p=>(p.1:Int)).mergeSort leI
theorem zi7 (L:List (Nat×Nat)):(ny L).Perm (L.map fun p=>(p.1:Int)):=List.mergeSort_perm _ _
theorem zts (L:List (Nat×Nat)):(ny L).Pairwise (·≤·):=by
 have:=List.pairwise_mergeSort (le:=leI) (fun a b c h1 h2=>by simp only [leI,decide_eq_true_eq] at *;omega) (fun a b=>by simp only [leI,xB,decide_eq_true_eq];omega) (L.map fun p=>(p.1:Int));exact this.imp fun h=>by simpa [leI] using h
theorem zrL {clock:Nat} {aw:Array MapEntry} (hM:Mp w I b clock aw (L.map Yd)):aw.toList.map (·.key)=L.map fun p=>Value.int .i64 (p.1:Int):=by
 have hl:=hM.sz;rw [zj] at hl;apply Lh;intro j;rw [ye,ye];rcases yg j L.length with hj|hj
 ·have h1:aw[j]? = some aw[j]:=by simp [hl,hj]
  obtain ⟨kf,vf,h2,_,h4,_⟩:=hM.row h1;rw [ye,xz hj] at h2;simp [Yd] at h2;rw [xz hj,show aw.toList[j]? = some aw[j] by simp [hl,hj]];simp [h4,← h2.1,FV.val,FV.dU]
 ·rw [Rs hj,show aw.toList[j]? = none by simp;omega];rfl
section
variable {w:World} {I:Nat→Prop} {b clock:Nat} {aw:Array MapEntry} {L:List (Nat×Nat)}
def sP (H:Type) (_:Value):Option (DataW H×List MemPlace):=some (.nil,[])
theorem Mp.owns (hM:Mp w I b clock aw (L.map Yd)) (hL:∀ p∈L,p.1<1000) (hl:L.length≤1000000):∃ D0:DataW Unit,w.ownsMap Tryz.prog 3 (sP Unit) b aw.size D0∧(Go.intKeys D0).Perm (L.map fun p=>(p.1:Int))∧Maps.size D0≤1000000:=by
 have hk:=zrL hM;have aY:=hM.sz;rw [zj] at aY;have jV:∀ x∈aw.toList,∃ p∈L,x.key=Value.int .i64 (p.1:Int):=fun x hx=>by
  have:x.key∈aw.toList.map (·.key):=zi.2 ⟨x,hx,rfl⟩;rw [hk] at this;obtain ⟨p,hp,e⟩:=zi.1 this;exact ⟨p,hp,e.symm⟩
 have gC:∀ x∈aw.toList,∃ p∈L,x.key=Value.int .i64 (p.1:Int)∧WideElems.rd Tryz.prog 3 (sP Unit) x=some (.int .i64 (p.1:Int),.nil):=fun x hx=>by
  obtain ⟨p,hp,e⟩:=jV x hx;refine ⟨p,hp,e,?_⟩;have hko:keyOf Tryz.prog 3 x.key=some (.int .i64 (p.1:Int)):=by
   rw [e];exact P8 (q:=.i64) zw (Cn (by have:=hL p hp;unfold bU;omega))
  unfold WideElems.rd sP;rw [hko];rfl
 have Oz:aw.toList.map (fun x=>(WideElems.rg Tryz.prog 3 (sP Unit) x).1)=L.map fun p=>Lit.int .i64 (p.1:Int):=by
  have h1:aw.toList.map (fun x=>(WideElems.rg Tryz.prog 3 (sP Unit) x).1)=(aw.toList.map (·.key)).map fun v=>match v with|.int q a=>Lit.int q a|_=>.bool false:=by
   rw [xb];refine yZ fun x hx=>?_;obtain ⟨p,hp,e1,e2⟩:=gC x hx;rw [WideElems.rg_of e2];simp [e1]
  rw [h1,hk,xb];rfl
 refine ⟨_,⟨aw,clock,hM.hb,⟨?_,hM.st,fun x hx=>?_⟩,zg _,rfl⟩,?_,?_⟩
 ·have:maxLen≥1000000:=by decide
  omega
 ·obtain ⟨p,_,_,e2⟩:=gC x hx;exact ⟨_,e2⟩
 ·show ((aw.toList.map (WideElems.rg Tryz.prog 3 (sP Unit))).foldr DataW.insert []).map (fun p=>Go.intOf p.1) |>.Perm _;have h1:=(WideShapes.sorted_perm (aw.toList.map (WideElems.rg Tryz.prog 3 (sP Unit)))).map fun p=>Go.intOf p.1;refine h1.trans ?_;rw [xb];have h2:aw.toList.map ((fun p=>Go.intOf p.1)∘WideElems.rg Tryz.prog 3 (sP Unit))=(aw.toList.map fun x=>(WideElems.rg Tryz.prog 3 (sP Unit) x).1).map Go.intOf:=by rw [xb];rfl
  rw [h2,Oz,xb];exact .of_eq rfl
 ·show ((aw.toList.map (WideElems.rg Tryz.prog 3 (sP Unit))).foldr DataW.insert []).length≤_;rw [(WideShapes.sorted_perm _).length_eq,zj,LS];omega
end
section
variable {N:Nat} {ops:Array Oper} {rest:List Oper} {t:List (Nat×FV)} {ob:List (Nat×zE)} {QS:ah→Prop} {c:Ctx}
theorem zkl {x:Operand} {d1 d2 nj lJ:Nat} {V5 V6:Array TypeId} {p1 p2:String} {m6 lW:Array Edge} (hc:c.P=Tryz.prog) (hx:(⟨t,ob⟩:ah).ev x=.smap (L.map Yd)) (hL:∀ p∈L,p.1<1000) (hl:L.length≤1000000) (hd:d1<c.N∧d2<c.N)
  (k:zt c ops rest ⟨(d2,.list 1 ((ny L).map zJ))::(d1,.undef)::t,ob⟩ QS) :
  zt c ops ((⟨some d1,.call { callee:=.value (.func 66),args:=#[x],argTypes:=V5 },nj,p1,m6,none⟩:Oper)::⟨some d2,.call { callee:=.value (.func 65),args:=#[.tmp d1],argTypes:=V6 },lJ,p2,lW,none⟩::rest) ⟨t,ob⟩ QS:=by
 intro QQ w0 J a w β hQ hF;obtain ⟨b,clock,aw,ea,hM⟩:=hF.Pe hx;unfold wpList;rw [if_pos (by unfold Region.wanted;rfl)];refine .inl ?_;unfold Oper.wp;have hgK:tX c.P 66=true:=by rw [hc];kernel_rfl
 have hgS:tX c.P 65=true:=by rw [hc];kernel_rfl
 have GB:(execOp a.eval ⟨some d1,.call { callee:=.value (.func 66),args:=#[x],argTypes:=V5 },nj,p1,m6,none⟩).run c.P w=.ok (.enter 66 #[.map (some b)]) w:=by
  have h1:=xh (P:=c.P) hgK (#[x].map a.eval) w;have h2:#[x].map a.eval=#[.map (some b)]:=by rw [← ea];simp
  rw [← h2];simp [execOp,resolve,Act.eval,Deferred.ofValue,invoke] at h1 ⊢;exact h1
 rw [GB,Oper.upon_enter];have hK:=callsIn_wide.1 (AnyZI.keys_in ziB Fence.wide 5 trivial rfl (some b) w);rw [← hc] at hK;refine BU hK ?_;rintro e w1 ⟨rfl,rfl⟩;dsimp only;have hbw:Below w.heap.size w (w.alloc (.cells #[.map (some b)] 64)):=(Zc _ w).alloc (zg _) _;have eE:=(hF.grow hbw).put (f:=.undef) (v:=.func (.func 87) #[] #[.pointer (some ⟨w.heap.size,0,none⟩)]) hd.1 (VR.aX (.undef _) rfl) (fun id ae hm=>by simp [FV.hands] at hm);obtain ⟨D0,lF,jX,De⟩:=hM.owns hL hl;have Og:(w.alloc (.cells #[.map (some b)] 64)).ownsMap Tryz.prog 3 (sP Unit) b aw.size D0:=by
  have ij:=lF.lt;obtain ⟨es,clock,hb,Ft,hs,hD⟩:=lF;exact ⟨es,clock,(Lp _ _ b ij).trans hb,Ft,hs,hD⟩
 have OH:SeqGives Fence.wide 2 Tryz.prog 87 #[.pointer (some ⟨w.heap.size,0,none⟩)] encZ (fun ss=>ss.Perm (Go.intKeys D0)) (Maps.size D0) (w.alloc (.cells #[.map (some b)] 64)):=
  AnyZI.keys_gives (ρ:=zl2) { ziB with } Fence.wide _ trivial rfl za w.heap.size b aw.size D0 _ zc zc Og
 have hS:=AnyZI.sorted_in zlD Fence.wide 5 trivial trivial trivial trivial rfl za (zxC _) (fun args w=>xh zw args w) 87 #[.pointer (some ⟨w.heap.size,0,none⟩)] trivial (fun args w=>xh zw args w) _ _ (by have:maxLen≥1000000:=zd;omega) za _ OH;obtain ⟨w1,eK⟩:∃ w1,w.alloc (.cells #[.map (some b)] 64)=w1:=⟨_,rfl⟩
 obtain ⟨a1,m8⟩:∃ a1,a.put (some d1) (.func (.func 87) #[] #[.pointer (some ⟨w.heap.size,0,none⟩)])=a1:=⟨_,rfl⟩
 have EJ:a1.eval (.tmp d1)=.func (.func 87) #[] #[.pointer (some ⟨w.heap.size,0,none⟩)]:=by
  show a1.tmps.getD d1 undef=_;rw [← m8,xI _ _ _ _ (hF.size▸hd.1),if_pos rfl]
 rw [eK] at eE hS;rw [m8] at eE;show wpList c.P ops QQ _ (a.put (some d1) (.func (.func 87) #[] #[.pointer (some ⟨w.heap.size,0,none⟩)])) (w.alloc (.cells #[.map (some b)] 64));rw [m8,eK];unfold wpList;rw [if_pos (by unfold Region.wanted;rfl)];refine .inl ?_;unfold Oper.wp;have GC:(execOp a1.eval ⟨some d2,.call { callee:=.value (.func 65),args:=#[.tmp d1],argTypes:=V6 },lJ,p2,lW,none⟩).run c.P w1=.ok (.enter 65 #[.func (.func 87) #[] #[.pointer (some ⟨w.heap.size,0,none⟩)]]) w1:=by
  have h1:=xh (P:=c.P) hgS (#[.tmp d1].map a1.eval) w1;have h2:#[.tmp d1].map a1.eval=#[.func (.func 87) #[] #[.pointer (some ⟨w.heap.size,0,none⟩)]]:=by rw [← EJ];simp
  rw [← h2];simp [execOp,resolve,Act.eval,Deferred.ofValue,invoke] at h1 ⊢;exact h1
 rw [GC,Oper.upon_enter];have Ti:=callsIn_wide.1 hS;rw [← hc] at Ti;refine BU Ti ?_;rintro e w2 ⟨v,ss,rfl,hSS,aj,_,dZ⟩;dsimp only;have T6:ss.mergeSort (fun x y=>decide (x≤y))=ny L:=mergeSort_of_perm_i (hSS.trans jX);rw [T6] at aj;have nc:ss.length=(ny L).length:=by rw [← T6,Hy]
 rw [nc] at aj;have hG:=eE.grow dZ;have gC:Rd w2 (aF J w2 β ⟨(d1,.undef)::t,ob⟩) v (.list 1 ((ny L).map zJ)):=by
  have bK:=lO.gP w2 (fun _=>False) (ny L);have hm:aS w2 (aF J w2 β ⟨(d1,.undef)::t,ob⟩) (flat jm (ny L)) ((ny L).map zJ).flatten:=⟨bK.1,fun j u f hu hf=>(bK.2 j u f hu hf).mono fun b hb=>hb.elim⟩
  rcases aj.2 with ⟨rfl,h0⟩|⟨b2,cap,cur,rfl,cE,ec,hn,_,bk,fz⟩
  ·exact Rd.list none 0 0 1 _ _ (by simpa using h0) (zg _) (lO.kB _) (lO.pV _) (fun h=>absurd rfl h) hm.1 hm.2
  ·refine Rd.list (some ⟨b2,0,none⟩) (ny L).length cap 1 _ _ (zj _) hn (lO.kB _) (lO.pV _) (fun _=>⟨b2,0,rfl,⟨(YL.1 ec).1,eE.fresh b2 (yc eE.bB.size cE) (.inl cE),fun id hl e=>?_⟩,fun j u hu=>?_⟩) hm.1 hm.2
   ·have:=((eE.obj id (Zn.bc hl)).lt e).2;omega
   ·rw [cell_of_row _ b2 _ cur _ (0,0) ec];rw [Wo] at hu;rw [xY] at fz;rw [← fz,xG] at hu;split at hu
    ·simpa using hu
    ·cases hu
 exact k QQ w0 J _ _ β hQ (hG.put hd.2 (VR.aX gC rfl) (fun id ae e=>(FV.aV rfl e).elim))
end
end
section
open Go.RowKit
abbrev dF:=Nat×Nat×Nat
def dF.fv (e:dF):List FV:=[.int .i64 (e.1:Int),.int .i64 (e.2.1:Int),.int .i64 (e.2.2:Int)]
def vD (K:Nat→Option (List (Nat×Nat))) (a b:Nat):Nat:=(dW ((K a).getD []) b).getD 0
def XI (oT:Nat→Nat→Nat):List Nat→List dF
 | a :: b :: r => (a, b, oT a b) :: XI oT (b :: r)
 | _ => []
def Aj (K:Nat→Option (List (Nat×Nat))) (n x y:Nat):List dF:=XI (vD K) (qE (Zr K n) y n x)
theorem Kq {K:Nat→Option (List (Nat×Nat))}:(a,b)∈Zr K n↔a<n∧∃ L,K a=some L∧∃ p∈L,p.1=b:=by
 unfold Zr;rw [Vb];constructor
 ·rintro ⟨x,hx,h⟩;obtain ⟨p,hp,e⟩:=zi.1 h;injection e with e1 e2
  subst e1;subst e2;refine ⟨zn.1 hx,?_⟩;cases hk:K x with
  | none => rw [hk] at hp; cases hp
  | some L => rw [hk] at hp; exact ⟨L, rfl, p, hp, rfl⟩
 ·rintro ⟨h1,L,h2,p,h3,rfl⟩;exact ⟨a,zn.2 h1,zi.2 ⟨p,by rw [h2];exact h3,rfl⟩⟩
theorem ztr (L:List (Nat×Nat)) (hn:(L.map (·.1)).Nodup):∃ SK:List Nat,ny L=SK.map (fun k:Nat=>(k:Int))∧SK.Pairwise (· < ·)∧∀ b,b∈SK↔∃ p∈L,p.1=b:=by
 have hp:=zi7 L;have hs:=zts L;have hm:∀ z∈ny L,∃ p∈L,z=(p.1:Int):=fun z hz=>by
  obtain ⟨p,h1,h2⟩:=zi.1 (hp.mem_iff.1 hz);exact ⟨p,h1,h2.symm⟩
 have he:ny L=((ny L).map Int.toNat).map (fun k:Nat=>(k:Int)):=by
  rw [xb]
  conv=>lhs;rw [← List.map_id (ny L)]
  refine yZ fun z hz=>?_;obtain ⟨p,_,rfl⟩:=hm z hz;simp
 have dP:(ny L).Nodup:=hp.nodup_iff.2 (by
  rw [show (L.map fun p=>(p.1:Int))=(L.map (·.1)).map (fun k:Nat=>(k:Int)) by rw [xb];rfl];exact Um.2 (hn.imp fun h e=>h za))
 refine ⟨_,he,?_,fun b=>?_⟩
 ·refine Um.2 ?_;have:=P2.2 fun {a b} eX=>And.intro (P2.1 hs eX) (P2.1 dP eX);refine this.imp_of_mem fun {a b} ha hb h=>?_;obtain ⟨p,_,rfl⟩:=hm a ha;obtain ⟨q,_,rfl⟩:=hm b hb;have h1:=h.1;have h2:=h.2;simp;omega
 ·rw [zi];constructor
  ·rintro ⟨z,hz,rfl⟩;obtain ⟨p,hp,rfl⟩:=hm z hz;exact ⟨p,hp,by simp⟩
  ·rintro ⟨p,h1,rfl⟩;exact ⟨(p.1:Int),hp.mem_iff.2 (zi.2 ⟨p,h1,rfl⟩),by simp⟩
theorem dF.js (X:List dF):∀ e∈X.map dF.fv,FV.flat.dY e=true:=fun e he=>by
 obtain ⟨q,_,rfl⟩:=zi.1 he;rfl
theorem LK (E:List (Nat×Nat)) (t n:Nat):∀ k x,(pU E t n k x).length=k+1
 | 0, _ => rfl
 | k+1, x => by unfold pU; rw [yS, LK E t n k]
theorem J8 (oT:Nat→Nat→Nat):∀ X:List Nat,(XI oT X).length=X.length - 1
 | [] => rfl
 | [_] => rfl
 | a :: b :: r => by unfold XI; rw [yS, J8 oT (b :: r)]; simp
theorem zkZ (oT:Nat→Nat→Nat) (E:List (Nat×Nat)) (t n k x:Nat):XI oT (pU E t n (k+1) x)=(x,oV E t n k x,oT x (oV E t n k x))::XI oT (pU E t n k (oV E t n k x)):=by
 show XI oT (x::pU E t n k _)=_;obtain ⟨r,hr⟩:∃ r,pU E t n k (oV E t n k x)=oV E t n k x::r:=by cases k <;> exact ⟨_,rfl⟩
 rw [hr];rfl
structure Mw (K:Nat→Option (List (Nat×Nat))) (n:Nat):Prop where
 len:∀ i L,i<n→K i=some L→L.length≤2000
 cW:∀ i L,i<n→K i=some L→∀ p∈L,p.1<n
 nd:∀ i L,i<n→K i=some L→(L.map (·.1)).Nodup
 oT:∀ i L,i<n→K i=some L→∀ p∈L,p.2≤1000
theorem zlT (l:List aq) (r2 f1:FV) (K:Nat→Option (List (Nat×Nat))) (n x0 y0:Nat) (fS:l.length=n) (hn:n≤1000) (hK:Mw K n) (U5:x0<n) (hy0:y0<n) (aN:x0≠y0) :
  xA Tryz.prog 44 [.ax 4 [[.list 8 (l.map aq.fv),f1,r2,.list 1 ((List.range n).map fun q=>[YA (K q)])]] 0 0,.int .i64 x0,.int .i64 y0] (.ow 71 3) (.list 3 ((Aj K n x0 y0).map dF.fv)):=by
 have hE:∀ e∈Zr K n,e.1<n∧e.2<n:=fun ⟨a,b⟩ he=>by
  obtain ⟨h1,L,h2,p,h3,rfl⟩:=Kq.1 he;exact ⟨h1,hK.cW a L h1 h2 p h3⟩
 refine ym 76 Tryz.func44 Tryz.ntmps44 rfl ?_;change FW _ _ _ ⟨[(0,.ax 4 [[.list 8 (l.map aq.fv),f1,r2,.list 1 ((List.range n).map fun q=>[YA (K q)])]] 0 0),(1,.int .i64 x0),(2,.int .i64 y0)],[]⟩;refine zb ?_;refine Yq (zh9 l r2 f1 K n y0 fS hn (fun i L hi hl=>⟨hK.len i L hi hl,hK.cW i L hi hl⟩) hy0) [] rfl zQ.nil rfl rfl rfl rfl rfl rfl ?_;rintro _ _ ⟨A,hA,rfl⟩;refine ZQ.one [] (.smap (A.map Yd)) rfl rfl ?_;have ph:∀ p∈A,p.1<1000:=fun p hp=>xx (hA.cW p hp).1 hn;have F1:=VL A x0;refine zb ?_;refine Wt (e:=3) YJ (UW ph) (WB (by unfold bU;omega)) F1 rfl rfl rfl rfl rfl rfl rfl ?_;refine zb ?_;obtain ⟨C,hC⟩:∃ C,C=List.map (fun q=>[YA (K q)]) (List.range n):=⟨_,rfl⟩
 have iV:C.length=n:=by rw [hC];simp
 have aI:∀ i,i<n→C.getD i []=[YA (K i)]:=fun i hi=>by rw [hC,yz,xR n i _ hi];rfl
 rw [← hC];refine FW.cond rfl (fun h=>?_) (fun h=>?_)
 ·have bl:dW A x0=none:=by cases ha:dW A x0 with|none=>rfl|some d=>rw [ha] at h;cases h
  have Oo:Aj K n x0 y0=[]:=by unfold Aj;rw [hA.none bl];rfl
  rw [Oo];refine zb ?_;exact FW.ret ⟨.inl rfl,.wN _ _ rfl rfl⟩
 have bu:∃ d,dW A x0=some d:=by cases ha:dW A x0 with|none=>rw [ha] at h;cases h|some d=>exact ⟨d,rfl⟩
 obtain ⟨d0,Fs⟩:=bu;clear h;obtain ⟨R,hR⟩:∃ R,Aj K n x0 y0=R:=⟨_,rfl⟩
 have AI:XI (vD K) (pU (Zr K n) y0 n d0 x0)=R:=by rw [← hR];unfold Aj;rw [hA.path Fs aN]
 have sX:R.length≤1000:=by
  rw [← AI,J8,LK];have:=(hA.cW _ (UX Fs)).2;dsimp only at this;omega
 rw [hR];refine zb ?_;refine FW.loop (fun x:Nat×Nat×List dF=>⟨[(0,.ax 4 [[.list 8 (l.map aq.fv),f1,r2,.list 1 C]] 0 0),(1,.int .i64 x.1),(2,.int .i64 y0),(7,.smap (A.map Yd)),(10,.own 100 0 0 x.2.2.length)],[(100,⟨0,.own,71,3,x.2.2.map dF.fv⟩)]⟩) (fun x=>x.1<n∧dW A x.1=some x.2.1∧x.2.2++XI (vD K) (pU (Zr K n) y0 n x.2.1 x.1)=R) (fun x=>x.2.1) (x0,d0,[]) ⟨U5,Fs,AI⟩ ?_ ?_
 ·exact (ar.cv [⟨100,none,0,⟨0,.own,71,3,[]⟩⟩] zh zf)
 rintro ⟨v,m,out⟩ ⟨hv,qv,fa⟩;dsimp only at hv qv fa ⊢;refine zb ?_;refine FW.cond rfl (fun h=>?_) (fun h=>?_)
 ·have Dk:v≠y0:=fun e=>by subst e;simp at h
  clear h;obtain ⟨m,rfl⟩:=hA.zero qv Dk;have hcv:=aI v hv;have hw:=hA.walk qv;obtain ⟨u,hu1,hu2⟩:=WN.1 hw;obtain ⟨_,L,vK,_⟩:=Kq.1 hu1;rw [vK] at hcv;have Jq:=hK.len v L hv vK;have MZ:=hK.cW v L hv vK;have hLn:=hK.nd v L hv vK;have MY:=hK.oT v L hv vK;have Jp:∀ p∈L,p.1<1000:=fun p hp=>xx (MZ p hp) hn;obtain ⟨SK,Tj,M9,CT⟩:=ztr L hLn;have E8:∀ b,b∈SK↔(v,b)∈Zr K n:=fun b=>by
   rw [CT,Kq];constructor
   ·intro q;exact ⟨hv,L,vK,q⟩
   ·rintro ⟨_,L',h1,q⟩;rw [vK] at h1;injection h1 with h1;rw [h1];exact q
  have ru:=zsH (fun e he=>(hE e he).2) M9 E8 hw;have bT:=zkZ (vD K) (Zr K n) y0 n m v;rw [bT] at fa;obtain ⟨z,hz⟩:∃ z,oV (Zr K n) y0 n m v=z:=⟨_,rfl⟩
  rw [hz] at ru fa;have hSl:SK.length≤2000:=by have h1:=congrArg List.length Tj;rw [zj,(zi7 L).length_eq,zj] at h1;omega
  refine zb ?_;refine zt.ai (yX rfl rfl rfl (by rw [iV];exact hv) hcv rfl rfl) rfl rfl ?_;refine zkl rfl rfl Jp za ⟨by decide,by decide⟩ ?_;rw [Tj,xb,show zJ∘(fun k:Nat=>(k:Int))=yx from rfl];refine zb ?_;refine FW.loop (fun j:Nat=>⟨[(0,.ax 4 [[.list 8 (l.map aq.fv),f1,r2,.list 1 C]] 0 0),(1,.int .i64 v),(2,.int .i64 y0),(7,.smap (A.map Yd)),(10,.own 100 0 0 out.length),(37,.list 1 (SK.map yx)),(38,.int .i64 SK.length),(39,.int .i64 j)],[(100,⟨0,.own,71,3,out.map dF.fv⟩)]⟩) (fun j=>j≤SK.length∧∀ i,i<j→fg (Zr K n) y0 m (nth SK i)=false) (fun j=>SK.length - j) 0 ⟨zp _,fun i hi=>absurd hi (ZH _)⟩ ?_ ?_
  ·exact (ar.cv [⟨100,some 100,0,⟨0,.own,71,3,out.map dF.fv⟩⟩] zh zf)
  rintro j ⟨hj,bl⟩;refine zb ?_;refine FW.cond rfl (fun h=>?_) (fun h=>?_)
  ·have cN:j<SK.length:=by simpa using h
   clear h;obtain ⟨k,hk⟩:∃ k,nth SK j=k:=⟨_,rfl⟩
   have NU:=(E8 k).1 (by rw [← hk];exact zu cN);have gU:k<n:=(hE _ NU).2;have oN:=hA.next qv NU;have dp:=VL A k;have pF:=VL A v;rw [qv,Zy] at pF;have F4:=(hA.cW _ (UX qv)).2;dsimp only at F4;refine zb ?_;rw [hk];skip;refine Wt (e:=3) YJ (UW ph) (WB (by unfold bU;omega)) dp rfl rfl rfl rfl rfl rfl rfl ?_;refine zb ?_;have next:fg (Zr K n) y0 m k=false→∀ i,i<j+1→fg (Zr K n) y0 m (nth SK i)=false:=fun h i hi=>by
    rcases Wg.1 hi with h'|rfl
    ·exact bl i h'
    ·rw [hk];exact h
   refine yR (fun h1=>?_) (fun h1=>?_)
   ·obtain ⟨dk,fR⟩:∃ dk,dW A k=some dk:=by cases ha:dW A k with|none=>rw [ha] at h1;cases h1|some dk=>exact ⟨dk,rfl⟩
    have Nx:=(hA.cW _ (UX fR)).2;dsimp only at Nx;rw [fR,Zy];refine zb ?_;refine KY (e:=3) YJ (UW ph) (WB (by unfold bU;omega)) pF rfl rfl rfl rfl rfl rfl ⟨_,_,rfl,rfl,rfl⟩ ?_;refine zb ?_;refine FW.cond rfl (fun h2=>?_) (fun h2=>?_)
    ·have qu:dk=m:=by simp at h2;omega
     have kx:=oN.1 (by rw [fR,qu]);have hkz:k=z:=by
      have h1:=M9;obtain ⟨_,ua,ub,he,hn2⟩:=DC.1 ru;have hkm:k∈SK:=by rw [← hk];exact zu cN
      obtain ⟨nY,ni⟩:=zoH (fun e he=>(hE e he).2) hw;rw [hz] at ni;have h2:=ni.2 k NU kx;rcases yg z k with h3|h3
      ·exfalso;have hzm:=YP ru;obtain ⟨i,hi,FH⟩:=zU hzm;have dc:i<j:=by
        rcases yg i j with h4|h4
        ·exact h4
        ·exfalso;rcases KH h4 with h5|h5
         ·have:=Zw.1 M9 j i cN hi h5;rw [FH,← ak cN,hk] at this;omega
         ·subst h5;rw [← ak hi,hk] at FH;omega
       have:=bl i dc;rw [ak hi,FH,ni.1] at this;cases this
      ·omega
     have fS:=VL L k;have Db:(dW L k).getD 0≤1000:=by
      cases ha:dW L k with
      | none => exact zp _
      | some q => exact MY _ (UX ha)
     have Bg:vD K v k=(dW L k).getD 0:=by unfold vD;rw [vK];rfl
     rw [← hkz,Bg] at fa;obtain ⟨lb,NW⟩:∃ lb,(dW L k).getD 0=lb:=⟨_,rfl⟩
     rw [NW] at fS Db fa;have nQ:out.length≤1000:=by rw [← fa] at sX;simp at sX;omega
     refine zb ?_;refine zt.ai (yX rfl rfl rfl (by rw [iV];exact hv) hcv rfl rfl) rfl rfl ?_;refine zb ?_;refine KY (e:=3) YJ (UW Jp) (WB (by unfold bU;omega)) fS rfl rfl rfl rfl rfl rfl rfl ?_;refine zb ?_;refine ⟨(k,m,out++[(v,k,lb)]),⟨gU,by rw [fR,qu],by rw [← fa];simp⟩,by show m<m+1;omega,?_⟩;dsimp only;rw [zF,show (out++[(v,k,lb)]).length=out.length+1 by simp,show (out.map dF.fv++[(([FV.int .i64 0,.int .i64 0,.int .i64 0].set 0 (.int .i64 v)).set 1 (.int .i64 k)).set 2 (.int .i64 lb)]).length=out.length+1 by simp];exact (ar.cv [⟨100,some 72,0+1,⟨0,.own,71,3,out.map dF.fv++[(v,k,lb)].map dF.fv⟩⟩] zh zf)
    ·refine zb ?_;refine ⟨j+1,⟨by omega,next ?_⟩,by omega,(ar.cv [⟨100,some 100,0,⟨0,.own,71,3,out.map dF.fv⟩⟩] zh zf)⟩;cases kx:fg (Zr K n) y0 m k with
     | false => rfl
     | true =>
      have h3:=oN.2 kx;rw [fR] at h3;injection h3 with h3
      simp at h2;omega
   ·refine zb ?_;refine ⟨j+1,⟨by omega,next ?_⟩,by omega,(ar.cv [⟨100,some 100,0,⟨0,.own,71,3,out.map dF.fv⟩⟩] zh zf)⟩;cases kx:fg (Zr K n) y0 m k with
    | false => rfl
    | true => rw [oN.2 kx] at h1; cases h1
  ·exfalso;have kr:j=SK.length:=by simp at h;omega
   subst kr;have h1:=WF ru;have h2:=YP ru;obtain ⟨i,hi,FH⟩:=zU h2;have:=bl i hi;rw [ak hi,FH,h1] at this;cases this
 ·have Dk:v=y0:=by simp at h;omega
  subst Dk;have kV:m=0:=by have:=hA.least qv (Dv.2 rfl);omega
  subst kV;have wo:out=R:=by rw [← fa];show out=out++XI (vD K) [v];simp [XI]
  subst wo;refine zb ?_;exact FW.ret ⟨.inl rfl,tF rfl rfl rfl zc zd rfl (dF.js _)⟩
end
def kE (l:List aq) (q:Nat):List (Nat×Nat):=
 (xP l (yB l l.length) q).toList.map (fun k:Nat=>(k,1))++((yB l l.length).filter fun k=>decide (YF l k=some q∧xP l (yB l l.length) q≠some k)).map fun k:Nat=>(k,2)
def KC (l:List aq) (q:Nat):Option (List (Nat×Nat)):=if q∈yB l l.length then some (kE l q) else none
def gL (l:List aq):List (Nat×Nat):=Zr (KC l) l.length
theorem zwB (l:List aq) (q:Nat):IV l (yB l l.length) (yB l l.length) q=YA (KC l q):=by
 unfold IV KC;split
 ·unfold YA e4 e3 kE;show FV.smap _=FV.smap (List.map Yd (_++_));rw [zF,xb,xb];rfl
 ·rfl
theorem zrw (l:List aq):En l (yB l l.length) (yB l l.length) l.length=.list 1 ((List.range l.length).map fun q=>[YA (KC l q)]):=by
 unfold En;congr 1;exact yZ fun q _=>by rw [zwB]
theorem Zm {j:Nat}:j∈yB l l.length↔j<l.length∧yC l j=true:=by
 unfold yB;rw [zY,zn]
theorem H9 {w:Nat} (h:YF l i=some w):w<l.length∧(nth l i).k=0∧(nth l i).res≠0∧gm (nth l i).key (nth l i).res (nth l w)=true∧yC l w=true:=by
 unfold YF at h;split at h
 ·cases h
 ·rename_i hc;simp only [not_or,Lf] at hc;obtain ⟨h1,h2,h3⟩:=VP h;exact ⟨h1,hc.1,hc.2,h2,h3⟩
theorem H6 {w:Nat} (h:(k,w)∈kE l q):k∈yB l l.length∧((w=1∧xP l (yB l l.length) q=some k)∨(w=2∧YF l k=some q∧xP l (yB l l.length) q≠some k)):=by
 unfold kE at h;rcases zC.1 h with h|h
 ·obtain ⟨a,ha,e⟩:=zi.1 h;injection e with e1 e2
  subst e1;subst e2;have ha:xP l (yB l l.length) q=some a:=by simpa using ha
  exact ⟨(Kh ha).1,.inl ⟨rfl,ha⟩⟩
 ·obtain ⟨a,ha,e⟩:=zi.1 h;injection e with e1 e2
  subst e1;subst e2;obtain ⟨h1,h2⟩:=zY.1 ha;exact ⟨h1,.inr ⟨rfl,by simpa using h2⟩⟩
theorem zrK (h:xP l (yB l l.length) q=some k):(k,1)∈kE l q:=by
 unfold kE;rw [h];simp
theorem zrJ (hk:k∈yB l l.length) (h:YF l k=some q) (h2:xP l (yB l l.length) q≠some k):(k,2)∈kE l q:=by
 unfold kE;exact zX _ (zi.2 ⟨k,zY.2 ⟨hk,by simpa using ⟨h,h2⟩⟩,rfl⟩)
theorem RH (l:List aq) (q:Nat):((kE l q).map (·.1)).Nodup:=by
 have h0:(yB l l.length).Nodup:=(zlv l l.length).imp fun h e=>by omega
 unfold kE;rw [zF,xb,xb];have e:∀ {w:Nat} {X:List Nat},X.map ((fun p:Nat×Nat=>p.1)∘fun k:Nat=>(k,w))=X:=fun {w X}=>by
  conv=>rhs;rw [← List.map_id X]
  rfl
 rw [e,e];refine xX.2 ⟨by cases xP l (yB l l.length) q <;> simp,h0.filter _,fun a ha b hb=>?_⟩;have h1:xP l (yB l l.length) q=some a:=by simpa using ha
 have h2:=(zY.1 hb).2;simp only [decide_eq_true_eq] at h2;rintro rfl;exact h2.2 h1
theorem G3 (l:List aq) (hl:l.length≤1000):Mw (KC l) l.length where
 len i L hi h:=by
  unfold KC at h;split at h
  ·injection h with h
   have h1:(kE l i).length≤l.length:=by
    have:=Ki (n:=l.length) (RH l i) fun ⟨k,w⟩ hp=>Xx (H6 hp).1;exact this
   rw [← h];omega
  ·cases h
 cW i L hi h:=by
  unfold KC at h;split at h
  ·injection h with h
   rintro ⟨k,w⟩ hp;rw [← h] at hp;exact Xx (H6 hp).1
  ·cases h
 nd i L hi h:=by
  unfold KC at h;split at h
  ·injection h with h;rw [← h];exact RH l i
  ·cases h
 oT i L hi h:=by
  unfold KC at h;split at h
  ·injection h with h
   rintro ⟨k,w⟩ hp;rw [← h] at hp;rcases (H6 hp).2 with ⟨h1,_⟩|⟨h1,_⟩ <;> (dsimp only;omega)
  ·cases h
theorem LN:(a,b)∈gL l↔a∈yB l l.length∧b∈yB l l.length∧(xP l (yB l l.length) a=some b∨YF l b=some a):=by
 unfold gL;rw [Kq];constructor
 ·rintro ⟨h1,L,h2,⟨k,w⟩,h3,rfl⟩;unfold KC at h2;split at h2
  ·rename_i ha;injection h2 with h2
   rw [← h2] at h3;obtain ⟨h4,h5⟩:=H6 h3;exact ⟨ha,h4,h5.imp (·.2) (·.2.1)⟩
  ·cases h2
 ·rintro ⟨ha,hb,h⟩;refine ⟨Xx ha,kE l a,by unfold KC;rw [if_pos ha],?_⟩;by_cases hn:xP l (yB l l.length) a=some b
  ·exact ⟨_,zrK hn,rfl⟩
  ·rcases h with h|h
   ·exact absurd h hn
   ·exact ⟨_,zrJ hb h hn,rfl⟩
theorem zvt (l:List aq):∀ e∈gL l,e.1<l.length∧e.2<l.length:=fun ⟨a,b⟩ he=>by
 obtain ⟨h1,h2,_⟩:=LN.1 he;exact ⟨Xx h1,Xx h2⟩
def IY (l:List aq) (a b:Nat):Nat:=vD (KC l) a b
def eP (l:List aq) (x y:Nat):List dF:=XI (IY l) (qE (gL l) y l.length x)
def tG (l:List aq) (i:Nat):Bool:=decide ((nth l i).k=0) && decide ((nth l i).res≠0) && (YF l i).isNone
def qM (l:List aq):Option Nat:=(yB l l.length).find? (tG l)
def qb (l:List aq) (c:List Int) (m:Nat):List dF:=(List.range m).map fun i=>((nth c i).toNat,(nth c ((i+1) % c.length)).toNat,IY l (nth c i).toNat (nth c ((i+1) % c.length)).toNat)
def tQ (l:List aq) (i w1 w2:Nat):Bool:=decide ((nth l w2).k=1) && decide ((nth l w2).key=(nth l i).key) && decide (w2≠w1) && !(eP l w1 w2).isEmpty && !(eP l w2 i).isEmpty
def VV (l:List aq) (i:Nat):Option (Nat×Nat×Nat):=(YF l i).bind fun w1=>((yB l l.length).find? (tQ l i w1)).map fun w2=>(w1,w2,i)
def qL (l:List aq):Option (Nat×Nat×Nat):=(yB l l.length).findSome? (VV l)
def tN (l:List aq) (i w:Nat):Bool:=decide ((nth l w).k=1) && decide ((nth l w).key=(nth l i).key) && !(eP l w i).isEmpty
def VU (l:List aq) (i:Nat):Option (Nat×Nat):=if (nth l i).k≠0∨(nth l i).res≠0 then none else ((yB l l.length).find? (tN l i)).map fun w=>(w,i)
def qI (l:List aq):Option (Nat×Nat):=(yB l l.length).findSome? (VU l)
theorem zn4 (hd:yE l) {a b:Int} (hi:i<l.length) (hw:gm a b (nth l i)=true) (aP:yC l i=true):nD l a b=some i:=by
 cases hf:nD l a b with
 | none => have := zn3 hf i hi aP; rw [hw] at this; cases this
 | some q=>
  obtain ⟨h1,h2,_⟩:=VP hf;rw [ZM] at hw h2;rcases Yw q i with h|h|h
  ·rcases hd i hi with h3|⟨_,_,h3⟩
   ·omega
   ·have:=h3 q h;rw [show gm (nth l i).key (nth l i).arg (nth l q)=true from ZM.2 ⟨h2.1,by rw [h2.2.1,hw.2.1],by rw [h2.2.2,hw.2.2]⟩] at this;cases this
  ·rw [h]
  ·rcases hd q h1 with h3|⟨_,_,h3⟩
   ·omega
   ·have:=h3 i h;rw [show gm (nth l q).key (nth l q).arg (nth l i)=true from ZM.2 ⟨hw.1,by rw [h2.2.1,hw.2.1],by rw [h2.2.2,hw.2.2]⟩] at this;cases this
section
open Go.RowKit
theorem Rd.mN {v:Value} (h:Rd w I v (.perm sz es)):∃ ba,ba.Perm es∧Rd w I v (.list sz ba):=by
 cases h with
 | perm v sz es ba hp hr => exact ⟨ba, hp, hr⟩
theorem xA.ofL {f:Nat} (h:xN P f args [] ex Q) (hn:∀ f∈args,f.hand=none) (hr:r.hand=none) (hq:∀ res o,Q res o→res.hand=none∧∀ (w:World) (I:Nat→Prop) v,Rd w I v res→Rd w I v r):xA P f args .sh r where
 go:=h.go
 hand:=hr
 calls w I vs hI hv:=by
  have hE:=FR.entry (N:=args.length) hI hv hn (zg _);have e1:vs.toArray++Array.replicate (args.length - vs.toArray.size) undef=vs.toArray:=by
   rw [show args.length - vs.toArray.size=0 by have:=hv.1;simp;omega];simp
  rw [e1] at hE;refine BU (h.calls w _ w _ vs hE) ?_;rintro e w' ⟨v,res,aM,aJ,rfl,hQ,hF⟩;obtain ⟨q1,q2⟩:=hq _ _ hQ;refine ⟨v,rfl,hF.bB,?_⟩;have h1:Rd w' (aF _ w' aJ ⟨[(0,res)],aM⟩) v res:=hF.bY (x:=.tmp 0) rfl q1;refine q2 _ _ _ (h1.mono fun b hb=>⟨?_,rfl⟩);rcases hb.2.1 with h|h
  ·exact .inl h
  ·exact .inr ⟨h,hb.1⟩
theorem xA.perm {f:Nat} {post:List FV} {m:ll} (h:∀ ba,ba.Perm es→xA P f (pre++.list sz ba::post) m r):xA P f (pre++.perm sz es::post) m r where
 go:=(h es (.refl _)).go
 hand:=(h es (.refl _)).hand
 calls w I vs hI hv:=by
  have hl:pre.length<vs.length:=by rw [hv.1];simp
  have h1:=hv.2 pre.length vs[pre.length] (.perm sz es) (by simp [hl]) zc;obtain ⟨ba,hp,hr⟩:=h1.mN;refine (h ba hp).calls w I vs hI ⟨by rw [hv.1];simp,fun j u g hu hg=>?_⟩;by_cases hj:j=pre.length
  ·subst hj;have e1:g=.list sz ba:=by simpa using hg.symm
   have e2:u=vs[pre.length]:=by simpa [hl] using hu.symm
   rw [e1,e2];exact hr
  ·refine hv.2 j u g hu ?_;rw [← hg,Lk,Lk];split
   ·rfl
   ·rename_i aA;obtain ⟨k,hk⟩:∃ k,j - pre.length=k+1:=⟨j - pre.length - 1,by omega⟩
    rw [hk];rfl
theorem xN.perm {f:Nat} {post:List FV} (h:∀ ba,ba.Perm es→xN P f (pre++.list sz ba::post) ob ex Q):xN P f (pre++.perm sz es::post) ob ex Q where
 go:=(h es (.refl _)).go
 post:=(h es (.refl _)).post
 calls w0 J w β vs hF:=by
  have e1:(xT (pre++.perm sz es::post) ob).get pre.length=.perm sz es:=by rw [XK];simp
  have hv:=VR.rd (by have:=hF.slot pre.length;rwa [e1] at this) rfl;obtain ⟨ba,hp,hr⟩:=hv.mN;refine (h ba hp).calls w0 J w β vs ?_;have ig:=hF.slots (N2:=(pre++.list sz ba::post).length) (a2:=⟨vs.toArray,[]⟩) (t2:=(xT (pre++.list sz ba::post) ob).t) (by have:=hF.size;simpa using this) hF.defers fun d=>?_
  ·exact ig
  ·have e3:(⟨(xT (pre++.list sz ba::post) ob).t,ob⟩:ah).get d=(pre++.list sz ba::post).getD d .undef:=XK _ ob d;rw [e3];by_cases hj:d=pre.length
   ·subst hj;rw [show (pre++FV.list sz ba::post).getD pre.length .undef=.list sz ba by simp];exact VR.plain hr rfl
   ·have e4:(pre++FV.list sz ba::post).getD d .undef=(xT (pre++.perm sz es::post) ob).get d:=by
     rw [XK,yz,yz,Lk,Lk];split
     ·rfl
     ·obtain ⟨k,hk⟩:∃ k,d - pre.length=k+1:=⟨d - pre.length - 1,by omega⟩
      rw [hk];rfl
    rw [e4];exact ⟨hF.slot d,fun id ae hm=>hF.bE d id ae hm⟩
theorem zoL {α:Type} {f:α→List FV} {l:List α} (h:es.Perm (l.map f)):∃ l' : List α,l'.Perm l∧es=l'.map f:=by
 induction l generalizing es with
 | nil => exact ⟨[], .refl _, by simpa using h.eq_nil⟩
 | cons a l ih=>
  have ha:f a∈es:=h.mem_iff.2 zc;obtain ⟨ua,ub,rfl⟩:=List.append_of_mem ha;have h2:(ua++ub).Perm (l.map f):=by
   have h3:(f a::(ua++ub)).Perm (f a::l.map f):=List.perm_middle.symm.trans h;exact h3.cons_inv
  obtain ⟨l',hp,e⟩:=ih h2;obtain ⟨p,q,rfl,e1,e2⟩:=List.map_eq_append_iff.1 e.symm;exact ⟨p++a::q,List.perm_middle.trans (hp.cons a),by simp [e1,e2]⟩
theorem xA.mO {f:Nat} {E:Nat} (h:xA P f args (.ow E sz) r):xA P f args .sh r where
 go:=h.go
 hand:=h.hand
 calls w I vs hI hv:=(h.calls w I vs hI hv).mono fun e w' ⟨v,e1,hb,hr⟩=>by
  obtain ⟨es,us,rfl,hw,ho,aj,gC⟩:=hr;refine ⟨v,e1,hb,?_⟩;have hm:aS w' (fun b=>I b∨(w.heap.size≤b∧b<w'.heap.size)) us es.flatten:=gC.mono fun b hb=>⟨.inr ⟨hb.1,hb.2.1⟩,rfl⟩
  rcases aj.2 with ⟨rfl,h0⟩|⟨b,cap,cur,rfl,cE,ec,hn,_,bk,fz⟩
  ·exact Rd.list none 0 0 sz es us h0 (zg _) hw ho (fun h=>absurd rfl h) hm.1 hm.2
  ·refine Rd.list (some ⟨b,0,none⟩) es.length cap sz es us rfl hn hw ho (fun _=>⟨b,0,rfl,.inr ⟨cE,(YL.1 ec).1⟩,fun j u hu=>?_⟩) hm.1 hm.2;rw [cell_of_row _ b _ cur _ (0,0) ec];rw [← fz,xG] at hu;split at hu
   ·simpa using hu
   ·cases hu
theorem zgT (r1 r2 f1:FV) (K:Nat→Option (List (Nat×Nat))) (n:Nat) (hn:n≤1000) (hK:Mw K n) :
  xA Tryz.prog 25 [.ax 4 [[r1,f1,r2,.list 1 ((List.range n).map fun q=>[YA (K q)])]] 0 0] .sh (.perm 2 ((Zr K n).map bZ)):=by
 refine xA.ofL (ziP r1 r2 f1 K n hn (fun i L hi hl=>⟨hK.len i L hi hl,fun p hp=>xx (hK.cW i L hi hl p hp) hn⟩)) (by simp [FV.hand]) rfl ?_;rintro res o ⟨P,hP,rfl⟩;exact ⟨rfl,fun w I v h=>.perm v 2 _ _ (hP.map bZ) h⟩
theorem RD (n:Nat) (E:List (Nat×Nat)):(List.range n).map (fun v=>[FV.list 1 ((zP E v).map zJ)])=(yG n E).map fe:=by
 unfold yG;rw [xb];rfl
def oZ:List Int→FV
 | [] => .nil
 | b :: l => .own 100 0 0 (b :: l).length
def lS (n:Nat) (E:List (Nat×Nat)) (i:Nat):List Int:=(List.range i).foldl (Cd n E) []
theorem Qi (n:Nat) (E:List (Nat×Nat)) (i:Nat):lS n E (i+1)=Cd n E (lS n E i) i:=by
 unfold lS;rw [yQ,ZU];rfl
theorem Q5 {n:Nat} {E:List (Nat×Nat)} (h:dV n E):∀ {i:Nat},i≤n→(lS n E i).length≤n
 | 0, _ => zp _
 | i+1, hi => by rw [Qi]; exact zmO h za (Q5 h za)
theorem UP (E:List (Nat×Nat)):(ZP E).length=E.length:=zj _
theorem xA.le {f:Nat} {r' : FV} (h:xA P f args .sh r) (hle:FV.le r r') (hh:r'.hand=none):xA P f args .sh r' where
 go:=h.go
 hand:=hh
 calls w I vs hI hv:=(h.calls w I vs hI hv).mono fun e w' ⟨v,e1,hb,hr⟩=>⟨v,e1,hb,Rd.le hle hr⟩
def SD:List (List FV)→FV
 | [] => .nil
 | e :: es => .list 1 (e :: es)
theorem zwb (es:List (List FV)):FV.le (SD es) (.list 1 es):=by
 cases es with
 | nil => exact .nil 1
 | cons e es => exact .refl _
theorem zsC (es:List (List FV)):(SD es).hand=none:=by cases es <;> rfl
theorem zmQ (n:Nat) (E:List (Nat×Nat)) (hn:n≤14) (hE:E.length≤1000) (aP:dV n E):xA Tryz.prog 42 [.int .i64 n,.list 2 (E.map bZ)] .sh (SD ((IA n E).map zJ)):=by
 refine ym 128 Tryz.func42 Tryz.ntmps42 (zsC _) ?_;change FW _ _ _ ⟨[(0,.int .i64 n),(1,.list 2 (E.map bZ))],[]⟩;refine zb ?_;refine Zg (VA n E za za aP) (by repeat (first|exact zH.nil|refine zH.cons zB ?_)) rfl rfl ?_;rw [RD];refine zb ?_;refine FW.loop (fun i:Nat=>⟨[(0,.int .i64 n),(1,.list 2 (E.map bZ)),(5,.list 1 ((yG n E).map fe)),(6,.own 100 0 0 i),(22,.list 2 (E.map bZ)),(23,.int .i64 E.length),(24,.int .i64 i)],[(100,⟨0,.own,93,2,((ZP E).take i).map bZ⟩)]⟩) (fun i=>i≤E.length) (fun i=>E.length - i) 0 (zp _)
  (ar.cv [⟨100,none,0,⟨0,.own,93,2,[]⟩⟩] zh zf) ?_
 intro i hi;refine zb ?_;refine FW.cond rfl (fun h=>?_) (fun h=>?_)
 ·have aA:i<E.length:=by simpa using h
  clear h;obtain ⟨⟨a,b⟩,he⟩:∃ e,nth E i=e:=⟨_,rfl⟩
  have U0:((ZP E).take i).length=i:=by rw [zW,UP];omega
  have pM:(ZP E).take (i+1)=(ZP E).take i++[(b,a)]:=by
   rw [xe (by rw [UP];exact aA)];congr 2;rw [ak aA] at he;simp [ZP,he]
  obtain ⟨Z,hZ⟩:∃ Z,(ZP E).take i=Z:=⟨_,rfl⟩
  rw [hZ] at U0 pM ⊢;refine zb ?_;rw [he];skip;refine ⟨i+1,by omega,by omega,?_⟩;rw [pM,zF];exact (ar.cv [⟨100,some 35,0+1,⟨0,.own,93,2,Z.map bZ++[(b,a)].map bZ⟩⟩] zh zf)
 ·obtain rfl:i=E.length:=by simp at h;omega
  clear h hi;rw [← UP,yy];refine zb ?_;refine zt.le ?_ (ar.share 38 rfl rfl zc);refine Zg (VA n (ZP E) za (by rw [UP];omega) (XD aP)) (by repeat (first|exact zH.nil|refine zH.cons zB ?_)) rfl rfl ?_;rw [RD];refine zb ?_;refine FW.loop (fun i:Nat=>⟨[(0,.int .i64 n),(5,.list 1 ((yG n E).map fe)),(9,.list 1 ((yG n (ZP E)).map fe)),(10,oZ (lS n E i)),(40,.int .i64 n),(41,.int .i64 i)],[(100,⟨0,.own,3,1,(lS n E i).map zJ⟩)]⟩) (fun i=>i≤n) (fun i=>n - i) 0 (zp _) ?_ ?_
  ·show ar _ ⟨[(0,.int .i64 n),(5,.list 1 ((yG n E).map fe)),(9,.list 1 ((yG n (ZP E)).map fe)),(10,.nil),(40,.int .i64 n),(41,.int .i64 0)],[(100,⟨0,.own,3,1,[]⟩)]⟩;exact (ar.cv [⟨100,none,0,⟨0,.own,3,1,[]⟩⟩] zh zf)
  intro i hi;refine zb ?_;refine FW.cond rfl (fun h=>?_) (fun h=>?_)
  ·have aA:i<n:=by simpa using h
   clear h;refine zb ?_;refine Yr (zhH n i (yG n (ZP E)) hn aA (xK n _) (Wu (XD aP)) (fun r hr=>by have:=ztk n (ZP E) r hr;rw [UP] at this;omega)) (by repeat (first|exact zH.nil|refine zH.cons zB ?_)) ((zj _).trans (Qf aP aA)) rfl rfl rfl ?_;rw [show jR (yG n (ZP E)) n i=yK n E i from rfl];have td:=Qf aP aA;have mD:=fun v (hv:v<n)=>zkO aP aA hv;have OG:nth (yG n E) i=zP E i:=WW E aA;have Di:=xK n E;refine zt.le ?_ ((ar.share 47 rfl rfl (by rw [zj];exact td.symm)).trans (ar.eC 11 rfl rfl));obtain ⟨d,hd⟩:∃ d,yK n E i=d:=⟨_,rfl⟩
   rw [hd] at td mD ⊢;refine zb ?_;rw [OG];obtain ⟨B,hB⟩:∃ B,lS n E i=B:=⟨_,rfl⟩
   rw [hB];refine FW.le ?_ (ar.eC 12 rfl rfl);refine FW.loop (fun j:Nat=>⟨[(0,.int .i64 n),(5,.list 1 ((yG n E).map fe)),(9,.list 1 ((yG n (ZP E)).map fe)),(10,oZ B),(40,.int .i64 n),(41,.int .i64 i),(11,.ax 1 [[.int .i64 i]] 0 0),(12,.ax 1 [[.list 1 (d.map zJ)]] 0 0),(13,.int .i64 (((zP E i).take j).foldl (xL d i) 0)),(51,.list 1 ((zP E i).map zJ)),(52,.int .i64 (zP E i).length),(53,.int .i64 j)],[(100,⟨0,.own,3,1,B.map zJ⟩)]⟩) (fun j=>j≤(zP E i).length) (fun j=>(zP E i).length - j) 0 (zp _) ?_ ?_
   ·rcases B with _|⟨b,l⟩
    ·show ar _ ⟨[(0,.int .i64 n),(5,.list 1 ((yG n E).map fe)),(9,.list 1 ((yG n (ZP E)).map fe)),(10,.nil),(40,.int .i64 n),(41,.int .i64 i),(11,.ax 1 [[.int .i64 i]] 0 0),(12,.ax 1 [[.list 1 (d.map zJ)]] 0 0),(13,.int .i64 0),(51,.list 1 ((zP E i).map zJ)),(52,.int .i64 (zP E i).length),(53,.int .i64 0)],[(100,⟨0,.own,3,1,[]⟩)]⟩;exact (ar.cv [⟨100,some 100,0,⟨0,.own,3,1,[]⟩⟩] zh zf)
    ·show ar _ ⟨[(0,.int .i64 n),(5,.list 1 ((yG n E).map fe)),(9,.list 1 ((yG n (ZP E)).map fe)),(10,.own 100 0 0 (b::l).length),(40,.int .i64 n),(41,.int .i64 i),(11,.ax 1 [[.int .i64 i]] 0 0),(12,.ax 1 [[.list 1 (d.map zJ)]] 0 0),(13,.int .i64 0),(51,.list 1 ((zP E i).map zJ)),(52,.int .i64 (zP E i).length),(53,.int .i64 0)],[(100,⟨0,.own,3,1,(b::l).map zJ⟩)]⟩;exact (ar.cv [⟨100,some 100,0,⟨0,.own,3,1,(b::l).map zJ⟩⟩] zh zf)
   have nc:=HL E i;intro j hj;refine zb ?_;refine FW.cond rfl (fun h=>?_) (fun h=>?_)
   ·have uH:j<(zP E i).length:=by simpa using h
    clear h;obtain ⟨v,hv⟩:∃ v:Nat,nth (zP E i) j=v:=⟨(nth (zP E i) j).toNat,by have:=(Zh aP (zu uH)).1;omega⟩
    have iu:v<n:=by have:=(Zh aP (zu uH)).2;omega
    have hrv:=mD v iu;have aO:((zP E i).take (j+1)).foldl (xL d i) 0=xL d i (((zP E i).take j).foldl (xL d i) 0) v:=by
     rw [xe uH,ZU,← ak uH,hv];rfl
    obtain ⟨L,hL⟩:∃ L,((zP E i).take j).foldl (xL d i) 0=L:=⟨_,rfl⟩
    rw [hL] at aO ⊢;generalize hBm:B.map zJ=Bm;have fq:nth d ((v:Int)).toNat=nth d v:=rfl;refine zb ?_;rw [hv];skip;refine yR (fun h1=>?_) (fun h1=>?_)
    ·refine zb ?_;refine yR (fun h2=>?_) (fun h2=>?_)
     ·refine zb ?_;refine yR (fun h3=>?_) (fun h3=>?_)
      ·refine zb ?_;rw [xL,if_pos ⟨⟨by simpa using h1,by simpa using h2⟩,.inl (by simpa using h3)⟩,fq] at aO;refine ⟨j+1,by omega,by omega,?_⟩;rw [aO];rcases B with _|⟨b,l⟩ <;> dsimp only [oZ]
       ·exact (ar.cv [⟨100,some 100,0,⟨0,.own,3,1,Bm⟩⟩] zh zf)
       ·exact (ar.cv [⟨100,some 100,0,⟨0,.own,3,1,Bm⟩⟩] zh zf)
      ·refine zb ?_;refine FW.cond rfl (fun h4=>?_) (fun h4=>?_)
       ·refine zb ?_;rw [xL,if_pos ⟨⟨by simpa using h1,by simpa using h2⟩,.inr (by simpa using h4)⟩,fq] at aO;refine ⟨j+1,by omega,by omega,?_⟩;rw [aO];rcases B with _|⟨b,l⟩ <;> dsimp only [oZ]
        ·exact (ar.cv [⟨100,some 100,0,⟨0,.own,3,1,Bm⟩⟩] zh zf)
        ·exact (ar.cv [⟨100,some 100,0,⟨0,.own,3,1,Bm⟩⟩] zh zf)
       ·refine zb ?_;rw [xL,if_neg (fun q=>by simp at h3 h4;rcases q.2 with q|q;exact h3 q;rw [fq] at q;omega)] at aO;refine ⟨j+1,by omega,by omega,?_⟩;rw [aO];rcases B with _|⟨b,l⟩ <;> dsimp only [oZ]
        ·exact (ar.cv [⟨100,some 100,0,⟨0,.own,3,1,Bm⟩⟩] zh zf)
        ·exact (ar.cv [⟨100,some 100,0,⟨0,.own,3,1,Bm⟩⟩] zh zf)
     ·refine zb ?_;rw [xL,if_neg (fun q=>by simp at h2;have q2:=q.1.2;rw [fq] at q2;omega)] at aO;refine ⟨j+1,by omega,by omega,?_⟩;rw [aO];rcases B with _|⟨b,l⟩ <;> dsimp only [oZ]
      ·exact (ar.cv [⟨100,some 100,0,⟨0,.own,3,1,Bm⟩⟩] zh zf)
      ·exact (ar.cv [⟨100,some 100,0,⟨0,.own,3,1,Bm⟩⟩] zh zf)
    ·refine zb ?_;rw [xL,if_neg (fun q=>by simp at h1;omega)] at aO;refine ⟨j+1,by omega,by omega,?_⟩;rw [aO];rcases B with _|⟨b,l⟩ <;> dsimp only [oZ]
     ·exact (ar.cv [⟨100,some 100,0,⟨0,.own,3,1,Bm⟩⟩] zh zf)
     ·exact (ar.cv [⟨100,some 100,0,⟨0,.own,3,1,Bm⟩⟩] zh zf)
   ·obtain rfl:j=(zP E i).length:=by simp at h;omega
    clear h hj;rw [yy];obtain ⟨L,hL⟩:∃ L,(zP E i).foldl (xL d i) 0=L:=⟨_,rfl⟩
    rw [hL];have Jo:Yi (yK n E i) i (zP E i)=L:=by rw [hd];exact hL
    have bk:=Qi n E i;rw [hB] at bk;unfold Cd at bk;dsimp only at bk;rw [Jo] at bk;have EL:B.length≤n:=hB▸Q5 aP za;refine FW.exit ?_;refine FW.seq ?_;refine FW.seq ?_;refine FW.join (fun _:Unit=>⟨[(0,.int .i64 n),(5,.list 1 ((yG n E).map fe)),(9,.list 1 ((yG n (ZP E)).map fe)),(10,oZ B),(40,.int .i64 n),(41,.int .i64 i),(11,.ax 1 [[.int .i64 i]] 0 0),(12,.ax 1 [[.list 1 (d.map zJ)]] 0 0),(13,.int .i64 L),(97,.bool (decide (L=0∨(B≠[]∧(B.length:Int)≤L))))],[(100,⟨0,.own,3,1,B.map zJ⟩)]⟩) (fun _=>True) ?_ (fun _ _=>?_)
    ·rcases B with _|⟨b,l⟩
     ·dsimp only [oZ];refine zb ?_;refine yR (fun h1=>?_) (fun h1=>?_)
      ·refine zb ?_;refine ⟨rfl,(),trivial,?_⟩;rw [show decide (L=0∨(([]:List Int)≠[]∧((([]:List Int).length:Nat):Int)≤L))=true by simpa using h1];exact (ar.cv [⟨100,some 100,0,⟨0,.own,3,1,[]⟩⟩] zh zf)
      ·refine zb ?_;refine ⟨rfl,(),trivial,?_⟩;rw [show decide (L=0∨(([]:List Int)≠[]∧((([]:List Int).length:Nat):Int)≤L))=false by simpa using h1];exact (ar.cv [⟨100,some 100,0,⟨0,.own,3,1,[]⟩⟩] zh zf)
     ·dsimp only [oZ];refine zb ?_;refine yR (fun h1=>?_) (fun h1=>?_)
      ·refine zb ?_;refine ⟨rfl,(),trivial,?_⟩;rw [show decide (L=0∨((b::l:List Int)≠[]∧(((b::l:List Int).length:Nat):Int)≤L))=true by simp at h1 ⊢;exact .inl h1];exact (ar.cv [⟨100,some 100,0,⟨0,.own,3,1,(b::l).map zJ⟩⟩] zh zf)
      ·refine zb ?_;refine ⟨rfl,(),trivial,?_⟩;rw [show decide (L=0∨((b::l:List Int)≠[]∧(((b::l:List Int).length:Nat):Int)≤L))=decide (L≥(((b::l).length:Nat):Int)) by simp at h1 ⊢;intro q;exact absurd q h1];exact (ar.cv [⟨100,some 100,0,⟨0,.own,3,1,(b::l).map zJ⟩⟩] zh zf)
    ·refine FW.cond rfl (fun h=>?_) (fun h=>?_)
     ·rw [if_pos (by simpa using h)] at bk;refine zb ?_;refine ⟨i+1,by omega,by omega,?_⟩;rw [bk];generalize hBm:B.map zJ=Bm;rcases B with _|⟨b,l⟩ <;> dsimp only [oZ]
      ·exact (ar.cv [⟨100,some 100,0,⟨0,.own,3,1,Bm⟩⟩] zh zf)
      ·exact (ar.cv [⟨100,some 100,0,⟨0,.own,3,1,Bm⟩⟩] zh zf)
     ·have bl:¬ (L=0∨(B≠[]∧(B.length:Int)≤L)):=by simpa using h
      rw [if_neg bl] at bk;obtain ⟨K,hK,EZ,OV⟩:=J9 aP aA (by rw [Jo];exact fun e=>bl (.inl e));rw [Jo] at hK;subst hK;rw [show ((K+1:Nat):Int).toNat - 1=K by omega] at bk;clear h bl hL Jo hB EL Di;rw [hd] at bk;refine FW.le (s':=⟨[(0,.int .i64 n),(5,.list 1 ((yG n E).map fe)),(9,.list 1 ((yG n (ZP E)).map fe)),(40,.int .i64 n),(41,.int .i64 i),(11,.ax 1 [[.int .i64 i]] 0 0),(12,.ax 1 [[.list 1 (d.map zJ)]] 0 0),(13,.int .i64 (K+1:Nat))],[]⟩) ?_ (ar.cv [] xu zf);refine zb ?_;refine FW.loop (fun x:List Int×Nat=>⟨[(0,.int .i64 n),(5,.list 1 ((yG n E).map fe)),(9,.list 1 ((yG n (ZP E)).map fe)),(40,.int .i64 n),(41,.int .i64 i),(11,.ax 1 [[.int .i64 i]] 0 0),(12,.ax 1 [[.list 1 (d.map zJ)]] 0 0),(13,.int .i64 (K+1:Nat)),(10,.own 100 0 0 x.1.length),(16,.int .i64 x.2)],[(100,⟨0,.own,3,1,x.1.map zJ⟩)]⟩) (fun x=>∃ k,x.1.length+k=K+1∧x.2<n∧Way E (yK n E i) i k x.2∧x.1++VJ E d i k x.2=(i:Int)::VJ E d i K i) (fun x=>K+1 - x.1.length) ([(i:Int)],i) ⟨K,by simp;omega,aA,OV,rfl⟩ ?_ ?_
      ·show ar _ ⟨[(0,.int .i64 n),(5,.list 1 ((yG n E).map fe)),(9,.list 1 ((yG n (ZP E)).map fe)),(40,.int .i64 n),(41,.int .i64 i),(11,.ax 1 [[.int .i64 i]] 0 0),(12,.ax 1 [[.list 1 (d.map zJ)]] 0 0),(13,.int .i64 (K+1:Nat)),(10,.own 100 0 0 1),(16,.int .i64 i)],[(100,⟨0,.own,3,1,[[.int .i64 i]]⟩)]⟩;exact (ar.cv [⟨100,some 99,0+1,⟨0,.own,3,1,[[.int .i64 i]]⟩⟩] zh zf)
      ·rintro ⟨P,v⟩ ⟨k,Jt,iu,hw,hP⟩;dsimp only at Jt iu hw hP ⊢;refine zb ?_;refine FW.cond rfl (fun h=>?_) (fun h=>?_)
       ·obtain ⟨k,rfl⟩:∃ k',k=k'+1:=⟨k - 1,by simp at h;omega⟩
        clear h;obtain ⟨j,hj,tj,oN,GG,rX⟩:=hw.step aP aA;rw [hd] at tj oN GG rX;have GP:VJ E d i (k+1) v=(Xm E d i (k+1:Nat) v:Int)::VJ E d i k (Xm E d i (k+1:Nat) v):=rfl;rw [GP] at hP;obtain ⟨u,hu⟩:∃ u,Xm E d i (k+1:Nat) v=u:=⟨_,rfl⟩
        rw [hu] at oN GG rX hP;have eF:nth (yG n E) v=zP E v:=WW E iu;have mH:=HL E v;have Di:=xK n E;have NZ:((K+1:Nat):Int) - (P.length:Int)=(k+1:Nat):=by omega
        (repeat (first|refine FW.seq ?_|refine FW.region ?_|refine FW.block ?_|refine FW.skip ?_|refine zt.nil ?_|refine zt.ai (zD rfl) rfl rfl ?_|refine zt.ai (Kw rfl rfl rfl zd) rfl rfl ?_|refine zt.ai (Yc rfl rfl rfl rfl rfl rfl zM) rfl rfl ?_|refine zt.ai (yX rfl rfl rfl zM Vh rfl rfl) rfl rfl ?_|refine zt.cL (Lv rfl rfl rfl rfl rfl) rfl rfl ?_|refine zt.dN (zk6 rfl rfl rfl rfl rfl rfl rfl rfl) rfl ?_|refine zt.ai (Iv rfl rfl za) rfl rfl ?_))
        rw [NZ,eF];refine zt.le ?_ (ar.eC 17 rfl rfl);refine zb ?_;refine yP (V7 (zP E v) _ _ (ou d i (k+1:Nat)) za (fun x hx=>?_)) (by repeat (first|exact zH.nil|refine zH.cons zB ?_)) rfl rfl ?_
        ·have oR:=Zh aP hx;obtain ⟨x,rfl⟩:∃ x' : Nat,x=x':=⟨x.toNat,by omega⟩
         exact zmP d i (k+1:Nat) x za
        rw [tj];have dT : j<(nth (yG n E) v).length:=by rw [eF];exact hj
        refine zb ?_;rw [eF];skip;rw [oN];skip;refine ⟨(P++[(u:Int)],u),⟨k,by simp;omega,GG,by rw [hd];exact rX,by rw [yV];exact hP⟩,by simp;omega,?_⟩;dsimp only;rw [zN,zF];exact (ar.cv [⟨100,some 125,0+1,⟨0,.own,3,1,P.map zJ++[(u:Int)].map zJ⟩⟩] zh zf)
       ·obtain rfl:k=0:=by simp at h;omega
        rw [show VJ E d i 0 v=[] from rfl,zT] at hP;refine zb ?_;refine ⟨i+1,by omega,by omega,?_⟩;rw [bk,← hP];subst hP;dsimp only [oZ];exact (ar.cv [⟨100,some 100,0,⟨0,.own,3,1,((i:Int)::VJ E d i K i).map zJ⟩⟩] zh zf)
  ·obtain rfl:i=n:=by simp at h;omega
   rw [show lS i E i=IA i E from rfl];generalize IA i E=B;cases B with
   | nil =>
    dsimp only [oZ];refine FW.le (s':=⟨[(10,.nil)],[]⟩) ?_ (ar.cv [] xu zf);refine zb ?_;exact FW.ret ⟨.inl rfl,.sh (.cons (.tmp 4 rfl rfl) .nil) rfl rfl⟩
   | cons b l =>
    dsimp only [oZ];refine FW.le (s':=⟨[(10,.list 1 ((b::l).map zJ))],[]⟩) ?_ ((ar.share 10 rfl rfl zc).trans (ar.cv [] xu zf));refine zb ?_;exact FW.ret ⟨.inl rfl,.sh (.cons (.tmp 4 rfl rfl) .nil) rfl rfl⟩
theorem zpp (n:Nat) (E:List (Nat×Nat)) (hn:n≤14) (hE:E.length≤1000) (aP:dV n E):xA Tryz.prog 42 [.int .i64 n,.list 2 (E.map bZ)] .sh (.list 1 ((IA n E).map zJ)):=
 (zmQ n E hn hE aP).le (zwb _) rfl
def Ea (a q:Nat):zE:=⟨a,.aj,107,1,[[.ptr 5000 q 0 0]]⟩
theorem zst {v v' n' : Nat} {res:FV} {o:Nat→zE} {l l' : List Int} (hr:res.cl [5002,5000,5001]=true) (h2:o 5002=Ea a q) (h0:o 5000=Zs q v' n') (h1:o 5001=Xc v' l'):VK [(5002,Ea a q),(5000,Zs q v n),(5001,Xc v l)] [] res o where
 bL k hk hl:=by
  simp at hk;rcases hk with rfl|rfl|rfl
  ·rw [h2];exact ⟨rfl,rfl,rfl⟩
  ·rw [h0];exact ⟨rfl,rfl,rfl⟩
  ·rw [h1];exact ⟨rfl,rfl,rfl⟩
 new k hk:=by cases hk
 cl k hk:=by
  simp at hk;rcases hk with rfl|rfl|rfl
  ·rw [h2];rfl
  ·rw [h0];rfl
  ·rw [h1];rfl
 res:=hr
theorem zhl (a q v:Nat) (l:List Int) (x:Int) (hl:l.length≤100000):xN Tryz.prog 46 [.int .i64 x,.ptr 5002 a 0 0] [(5002,Ea a q),(5000,Zs q v l.length),(5001,Xc v l)] [] (fun res o=>res=.bd []∧o 5002=Ea a q∧o 5000=Zs q (v+1) (l.length+1)∧o 5001=Xc (v+1) (mT l x)):=by
 refine xN.bH (c:=(fP Tryz.prog xp yF 8)) ⟨Tryz.func46,rfl,Tryz.ntmps46,by kernel_rfl⟩ xt ?_ ?_
 ·rintro res o ⟨rfl,h2,h0,h1⟩;exact zst rfl h2 h0 h1
 change FW _ _ _ ⟨[(0,.int .i64 x),(1,.ptr 5002 a 0 0)],[(5002,Ea a q),(5000,Zs q v l.length),(5001,Xc v l)]⟩;unfold Ea;refine zb ?_;refine Yq (zne q v l x hl) [(5000,5000),(5001,5001)] rfl (zQ.cons rfl rfl rfl (zQ.cons rfl rfl rfl zQ.nil)) rfl rfl rfl rfl rfl rfl ?_;rintro _ aM ⟨rfl,h1,h2⟩;refine ZQ.one [(5000,Zs q (v+1) (l.length+1)),(5001,Xc (v+1) (mT l x))] (.bd []) rfl (by show [(5000,zE.ren _ (look {} aM 5000)),(5001,zE.ren _ (look {} aM 5001))]=_;rw [h1,h2];rfl) ?_;clear h1 h2 aM;refine zb ?_;exact ⟨.inr rfl,_,.plain .nil rfl rfl,rfl,rfl,rfl,rfl⟩
def UI (n:Nat) (E:List (Nat×Nat)) (i:Nat):List Int:=((yG n E).take i).foldl (fun m r=>r.foldl kG m) (List.replicate n 0)
theorem znl (n:Nat) (E:List (Nat×Nat)) (h:i<n):UI n E (i+1)=(zP E i).foldl kG (UI n E i):=by
 have hl:=xK n E;unfold UI;rw [xe za,ZU,← ak za,WW E h];rfl
theorem zqb (n:Nat) (E:List (Nat×Nat)):UI n E n=tP n E:=by
 unfold UI tP;rw [zS (by rw [xK];exact zg _)]
theorem znk {E:List (Nat×Nat)} (h:dV n E) (i:Nat):(UI n E i).length=n∧∀ w:Nat,w<n→0≤nth (UI n E i) w∧nth (UI n E i) w≤n:=by
 obtain ⟨k1,k2⟩:=Qq (n:=n) (rows:=(yG n E).take i) (m:=List.replicate n 0) (fun r hr=>by
  obtain ⟨u,_,rfl⟩:=zi.1 (xn hr);exact ⟨VB E u,fun w hw=>Zh h hw⟩) zc
 refine ⟨k1,fun w hw=>?_⟩;have h1:(((yG n E).take i).countP fun r=>decide ((w:Int)∈r))≤((yG n E).take i).length:=XS;rw [zW,xK] at h1;unfold UI;rw [k2 w hw,ak (by simpa using hw)];simp;omega
end
end Go.Proofs.YtphidhljdcledaaGreat
