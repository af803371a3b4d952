/-
  causal.Session, at plain values.
-/
import Derived.Test.YtmnmakhpjgjdaaaZFmTopoL
namespace Go.Proofs.Ytmnmakhpjgjdaaa
set_option linter.unusedVariables false
set_option maxHeartbeats 16000000
open Go.RowKit
def XG (l:List OpV) (key v u:Int):Bool:=if v=0 then decide (u≠0) else match cIx l key v,cIx l key u with
 | some a, some b => decide ((nth l a).p=(nth l b).p) && decide (a<b)
 | _, _ => false
theorem zja (l:List OpV) (key v u:Int) (hl:l.length≤1000) (hin:∀ o∈l,Ve o) (h1:I64 key) (h2:I64 v) (h3:I64 u):zX Try.prog 40 [zfL l,.int .i64 key,.int .i64 v,.int .i64 u] .fr (.bool (XG l key v u)):=by
 have hlv:=zk2 l key v;have hlu:=zk2 l key u;have hkk:=zax (l:=l) (i:=l.length) (Nat.le_refl _) hin;have hv:=fun a=>ZE (l:=l) (a:=key) (b:=v) (w:=a);have hu:=fun a=>ZE (l:=l) (a:=key) (b:=u) (w:=a);unfold XG;unfold zfL zjv;generalize cIx l key v=A at hlv hv ⊢;generalize cIx l key u=B at hlu hu ⊢;generalize yG l l.length=CR at hlv hlu hkk ⊢;obtain ⟨f1,hf1⟩:∃ f1,f1=FV.list 1 ((zO l l.length).map yp):=⟨_,rfl⟩
 obtain ⟨f3,hf3⟩:∃ f3,f3=FV.list 1 ((List.range l.length).map fun q=>[xk (KC l q)]):=⟨_,rfl⟩
 rw [← hf1,← hf3];clear hf1 hf3;refine zX.of_body (c:=(xx Try.prog zE zt 67)) ⟨Try.func40,rfl,Try.ntmps40,by kernel_rfl⟩ zH zw rfl ?_;change FW _ _ _ ⟨[(0,.eptr 4 [[.list 8 (l.map OpV.fv),f1,.smap CR,f3]] 0 0),(1,.int .i64 key),(2,.int .i64 v),(3,.int .i64 u)],[]⟩;refine zb ?_;refine FW.cond rfl (fun h=>?_) (fun h=>?_)
 ·rw [if_pos (by simpa using h)];refine zb ?_;exact FW.ret ⟨.inl rfl,zF rfl rfl rfl rfl⟩
 rw [if_neg (by simpa using h)];clear h;refine zb ?_;refine XN (e:=3) Vu hkk (UV h1 h2) hlv rfl rfl rfl rfl rfl rfl rfl ?_;refine zb ?_;refine XN (e:=3) Vu hkk (UV h1 h3) hlu rfl rfl rfl rfl rfl rfl rfl ?_;cases A with
 | none =>
  refine zQ ?_;refine ⟨by kernel_rfl,?_⟩;skip;exact FW.ret ⟨.inl rfl,zF rfl rfl rfl rfl⟩
 | some a =>
 cases B with
 | none =>
  refine zQ ?_;refine ⟨by kernel_rfl,?_⟩;skip;exact FW.ret ⟨.inl rfl,zF rfl rfl rfl rfl⟩
 | some b =>
 have ha:=(hv a rfl).1;have hb:=(hu b rfl).1;dsimp only;rw [Option.getD_some,Option.getD_some];refine zQ ?_;refine yz (fun h4=>?_) (fun h4=>?_)
 ·have h4:(nth l a).p=(nth l b).p:=by simpa using h4
  refine zp ?_;refine ⟨by kernel_rfl,?_⟩;skip;refine FW.ret ⟨.inl rfl,zF rfl rfl ?_ rfl⟩;rw [decide_eq_true h4,Bool.true_and];simp;rfl
 ·have h4:¬ (nth l a).p=(nth l b).p:=by simpa using h4
  refine zp ?_;refine ⟨by kernel_rfl,?_⟩;skip;refine FW.ret ⟨.inl rfl,zF rfl rfl ?_ rfl⟩;rw [decide_eq_false h4,Bool.false_and];rfl
def xM (l:List OpV) (i r k:Nat):Bool:=decide (k<i) && decide ((nth l k).p=(nth l i).p) && decide ((nth l k).key=(nth l i).key) && (decide ((nth l k).k=1) == decide (r=0)) && XG l (nth l i).key (nth l i).res (if (nth l k).k=1 then (nth l k).arg else (nth l k).res)
def ZA (l:List OpV) (i:Nat):Option (Nat×Nat×Nat):=if (nth l i).k≠0 then none else match (zO l l.length).find? (xM l i 0) with
 | some k => some (0, k, i)
 | none => ((zO l l.length).find? (xM l i 1)).map fun k => (1, k, i)
def zjO (l:List OpV):Option (Nat×Nat×Nat):=(zO l l.length).findSome? (ZA l)
def VI (l:List OpV):List FV:=match zjO l with
 | some (r, k, i) => YS 6 (9+r) (nth l i).key [k, i] []
 | none => YS 6 0 0 [] []
def zj7 (l:List OpV):FV:=if Zj l≠0 then .tup [.agg [.int .i64 0,.int .i64 0,.int .i64 0,.nil,.nil],.int .i64 (Zj l)] else .tup [.agg (VI l),.int .i64 0]
theorem zdq (l:List OpV) (hl:l.length≤1000) (hin:∀ o∈l,Ve o):zX Try.prog 19 [.list 8 (l.map OpV.fv)] .sh (zj7 l):=by
 have hdm:=Ux l za hin;obtain ⟨R,hR⟩:∃ R,zj7 l=R:=⟨_,rfl⟩
 have hRh:R.hand=none:=by rw [← hR];unfold zj7;split <;> rfl
 rw [hR];have hR1:Zj l≠0→R=.tup [.agg [.int .i64 0,.int .i64 0,.int .i64 0,.nil,.nil],.int .i64 (Zj l)]:=fun h=>by rw [← hR];unfold zj7;rw [if_pos h]
 have hR2:Zj l=0→R=.tup [.agg (VI l),.int .i64 0]:=fun h=>by rw [← hR];unfold zj7;rw [if_neg (by simpa using h)]
 have hdom:Zj l=0→Yi l:=fun h=>by
  unfold Zj at h;split at h
  ·rename_i h1;exact absurd h h1
  ·split at h
   ·assumption
   ·cases h
 clear hR;obtain ⟨e,he⟩:∃ e,Zj l=e:=⟨_,rfl⟩
 rw [he] at hdm hR1 hR2 hdom;have hb:=fun hd=>zck l za hin hd;rw [zkv] at hb;change Yi l→zX _ _ _ _ (zfL l) at hb;have hol:=fun key v u h1 h2 h3=>zja l key v u hl hin h1 h2 h3;obtain ⟨I,hI⟩:∃ I,I=zO l l.length:=⟨_,rfl⟩
 have hIl:I.length≤l.length:=by rw [hI];exact YB l l.length
 have hIm:∀ j,j<I.length→nth I j<l.length:=fun j hj=>by have:=zC hj;rw [hI] at this ⊢;exact xt this
 have hyes:e=0→∀ j r m,j<I.length→(∀ i,i<j→ZA l (nth I i)=none)→(nth l (nth I j)).k=0→(r=0∨(r=1∧∀ i,i<I.length→xM l (nth I j) 0 (nth I i)=false))→m<I.length→(∀ i,i<m→xM l (nth I j) r (nth I i)=false)→xM l (nth I j) r (nth I m)=true→R=.tup [.agg (YS 6 (9+r) (nth l (nth I j)).key [nth I m,nth I j] []),.int .i64 0]:=fun h0 j r m h1 h2 h3 h4 h5 h6 h7=>by
  have h8:ZA l (nth I j)=some (r,nth I m,nth I j):=by
   unfold ZA;rw [if_neg (by simpa using h3),← hI];rcases h4 with rfl|⟨rfl,h4⟩
   ·rw [xi h6 h5 h7]
   ·rw [xO h4,xi h6 h5 h7];rfl
  rw [hR2 h0];unfold VI zjO;rw [← hI,xr h2 h1 h8]
 have hno:e=0→(∀ i,i<I.length→ZA l (nth I i)=none)→R=.tup [.agg (YS 6 0 0 [] []),.int .i64 0]:=fun h0 h=>by
  rw [hR2 h0];unfold VI zjO;rw [← hI,Za h]
 have hat0:∀ i,(nth l i).k≠0→ZA l i=none:=fun i h=>by unfold ZA;rw [if_pos h]
 have hat1:∀ i,(∀ m,m<I.length→xM l i 0 (nth I m)=false)→(∀ m,m<I.length→xM l i 1 (nth I m)=false)→ZA l i=none:=fun i h2 h3=>by
  unfold ZA;split
  ·rfl
  ·rw [← hI,xO h2,xO h3];rfl
 unfold zfL at hb hol;rw [← hI] at hb hol;obtain ⟨r2,hr2⟩:∃ r2,r2=FV.smap (yG l l.length):=⟨_,rfl⟩
 obtain ⟨C,hC⟩:∃ C,C=List.map (fun q=>[xk (KC l q)]) (List.range l.length):=⟨_,rfl⟩
 unfold zjv at hb hol;rw [← hr2,← hC] at hb hol;clear hr2 hC;refine zX.of_body (c:=(xx Try.prog zE zt 109)) ⟨Try.func19,rfl,Try.ntmps19,by kernel_rfl⟩ zH zw hRh ?_;change FW _ _ _ ⟨[(0,.list 8 (l.map OpV.fv))],[]⟩;refine zb ?_;refine zS hdm (by repeat (first|exact zu.nil|refine zu.cons zm ?_)) rfl rfl ?_;refine zb ?_;refine FW.cond rfl (fun h=>?_) (fun h=>?_)
 ·rw [hR1 (by simpa using h)];refine zb ?_;exact FW.ret ⟨.inl rfl,.sh (.cons (zL rfl rfl rfl rfl rfl rfl zg) (.cons (.tmp 3 rfl rfl) .nil)) rfl rfl⟩
 have he0:e=0:=by simpa using h
 subst he0;have hR2:=hR2 rfl;have hb:=hb (hdom rfl);have hyes:=hyes rfl;have hno:=hno rfl;clear h hR1 hdom;refine zb ?_;refine yl hb (by repeat (first|exact zu.nil|refine zu.cons zm ?_)) rfl rfl ?_;refine zb ?_;refine FW.loop (fun j:Nat=>⟨[(0,.list 8 (l.map OpV.fv)),(2,.ptr 102 0 0 0),(5,.eptr 4 [[.list 8 (l.map OpV.fv),.list 1 (I.map yp),r2,.list 1 C]] 0 0),(26,.list 1 (I.map yp)),(27,.int .i64 I.length),(28,.int .i64 j)],[(102,⟨0,.own,36,5,[[.int .i64 0,.int .i64 0,.int .i64 0,.nil,.nil]]⟩)]⟩) (fun j=>j≤I.length∧∀ i,i<j→ZA l (nth I i)=none) (fun j=>I.length - j) 0 ⟨Nat.zero_le _,fun i hi=>absurd hi (Nat.not_lt_zero _)⟩ ?_ ?_
 ·exact (FLe.cv [⟨102,some 2,0+1,⟨0,.own,36,5,[[.int .i64 0,.int .i64 0,.int .i64 0,.nil,.nil]]⟩⟩] zf zd)
 rintro j ⟨hj,hpre⟩;refine zb ?_;refine FW.cond rfl (fun h=>?_) (fun h=>?_)
 ·have hjl:j<I.length:=by simpa using h
  clear h;have hyes:=fun r m=>hyes j r m hjl hpre;have hnext:ZA l (nth I j)=none→∀ i,i<j+1→ZA l (nth I i)=none:=fun h i hi=>by
   rcases Nat.lt_succ_iff_lt_or_eq.1 hi with h'|rfl
   ·exact hpre i h'
   ·exact h
  have hii:=hIm j hjl;have hoin:=hin _ (zC hii);obtain ⟨i,hi⟩:∃ i,nth I j=i:=⟨_,rfl⟩
  rw [hi] at hii hyes hnext hoin;have hat0:=hat0 i;have hat1:=hat1 i;have hsB:∀ r k,xM l i r k=(decide (k<i) && decide ((nth l k).p=(nth l i).p) && decide ((nth l k).key=(nth l i).key) && (decide ((nth l k).k=1) == decide (r=0)) && XG l (nth l i).key (nth l i).res (if (nth l k).k=1 then (nth l k).arg else (nth l k).res)):=fun r k=>rfl;obtain ⟨o,hoe⟩:∃ o,nth l i=o:=⟨_,rfl⟩
  rw [hoe] at hyes hat0 hoin;rw [hoe] at hsB;refine zb ?_;rw [hi];skip;rw [hoe];skip;refine FW.cond rfl (fun h1=>?_) (fun h1=>?_)
  ·refine zb ?_;refine ⟨j+1,⟨by omega,hnext (hat0 (by simpa using h1))⟩,by omega,?_⟩;exact (FLe.cv [⟨102,some 102,0,⟨0,.own,36,5,[[.int .i64 0,.int .i64 0,.int .i64 0,.nil,.nil]]⟩⟩] zf zd)
  have hik:o.k=0:=by simpa using h1
  have hyes:=fun r m=>hyes r m hik;refine ZQ ?_;refine yK (es:=([9,10]:List Int).map zD) rfl rfl rfl (by refine yT.int rfl rfl ?_;refine yT.int rfl rfl ?_;exact yT.nil) rfl rfl rfl rfl rfl ?_;refine zb ?_;refine FW.loop (fun r:Nat=>⟨[(0,.list 8 (l.map OpV.fv)),(2,.ptr 102 0 0 0),(5,.eptr 4 [[.list 8 (l.map OpV.fv),.list 1 (I.map yp),r2,.list 1 C]] 0 0),(26,.list 1 (I.map yp)),(27,.int .i64 I.length),(28,.int .i64 j),(7,.int .i64 i),(8,.ptr 108 0 0 0),(39,.list 1 (([9,10]:List Int).map zD)),(40,.int .i64 2),(41,.int .i64 r)],[(102,⟨0,.own,36,5,[[.int .i64 0,.int .i64 0,.int .i64 0,.nil,.nil]]⟩),(108,⟨0,.own,43,8,[o.fv]⟩)]⟩) (fun r=>r≤2∧(1≤r→∀ m,m<I.length→xM l i 0 (nth I m)=false)∧(2≤r→∀ m,m<I.length→xM l i 1 (nth I m)=false)) (fun r=>2 - r) 0 ⟨Nat.zero_le _,by omega,by omega⟩ ?_ ?_
  ·exact (FLe.cv [⟨102,some 102,0,⟨0,.own,36,5,[[.int .i64 0,.int .i64 0,.int .i64 0,.nil,.nil]]⟩⟩,⟨108,some 8,0+1,⟨0,.own,43,8,[o.fv]⟩⟩] zf zd)
  rintro r ⟨hr,hr1,hr2⟩;refine zb ?_;refine FW.cond rfl (fun h=>?_) (fun h=>?_)
  ·have hrl:r<2:=by simp at h;omega
   clear h;obtain ⟨cl,hcl⟩:∃ cl:Int,nth [9,10] r=cl:=⟨_,rfl⟩
   have hcl2:cl=9+(r:Int):=by
    have:r=0∨r=1:=by omega
    rcases this with rfl|rfl <;> (rw [← hcl];rfl)
   have hll:([9,10]:List Int).length=2:=rfl;refine zb ?_;rw [hcl];skip;refine FW.loop (fun m:Nat=>⟨[(0,.list 8 (l.map OpV.fv)),(2,.ptr 102 0 0 0),(5,.eptr 4 [[.list 8 (l.map OpV.fv),.list 1 (I.map yp),r2,.list 1 C]] 0 0),(26,.list 1 (I.map yp)),(27,.int .i64 I.length),(28,.int .i64 j),(7,.int .i64 i),(8,.ptr 108 0 0 0),(39,.list 1 (([9,10]:List Int).map zD)),(40,.int .i64 2),(41,.int .i64 r),(10,.int .i64 cl),(48,.list 1 (I.map yp)),(49,.int .i64 I.length),(50,.int .i64 m)],[(102,⟨0,.own,36,5,[[.int .i64 0,.int .i64 0,.int .i64 0,.nil,.nil]]⟩),(108,⟨0,.own,43,8,[o.fv]⟩)]⟩) (fun m=>m≤I.length∧∀ q,q<m→xM l i r (nth I q)=false) (fun m=>I.length - m) 0 ⟨Nat.zero_le _,fun i hi=>absurd hi (Nat.not_lt_zero _)⟩ ?_ ?_
   ·exact (FLe.cv [⟨102,some 102,0,⟨0,.own,36,5,[[.int .i64 0,.int .i64 0,.int .i64 0,.nil,.nil]]⟩⟩,⟨108,some 108,0,⟨0,.own,43,8,[o.fv]⟩⟩] zf zd)
   rintro m ⟨hm,hpre3⟩;refine zb ?_;refine FW.cond rfl (fun h=>?_) (fun h=>?_)
   ·have hml:m<I.length:=by simpa using h
    clear h;have hyes:=hyes r m (by
     have:r=0∨r=1:=by omega
     rcases this with rfl|rfl
     ·exact .inl rfl
     ·exact .inr ⟨rfl,hr1 za⟩) hml hpre3
    rw [← hcl2] at hyes;have hnext3:xM l i r (nth I m)=false→∀ q,q<m+1→xM l i r (nth I q)=false:=fun h q hq=>by
     rcases Nat.lt_succ_iff_lt_or_eq.1 hq with h'|rfl
     ·exact hpre3 q h'
     ·exact h
    have hkn:=hIm m hml;have hpin:=hin _ (zC hkn);obtain ⟨k,hk⟩:∃ k,nth I m=k:=⟨_,rfl⟩
    rw [hk] at hkn hyes hnext3 hpin;have hsb:=hsB r k;obtain ⟨p,hpe⟩:∃ p,nth l k=p:=⟨_,rfl⟩
    rw [hpe] at hsb hpin;refine zb ?_;rw [hk];skip;rw [hpe];skip;refine zP (fun h2=>?_) (fun h2=>?_)
    ·refine zb ?_;refine ⟨m+1,⟨by omega,hnext3 ?_⟩,by omega,(FLe.cv [⟨102,some 102,0,⟨0,.own,36,5,[[.int .i64 0,.int .i64 0,.int .i64 0,.nil,.nil]]⟩⟩,⟨108,some 108,0,⟨0,.own,43,8,[o.fv]⟩⟩] zf zd)⟩;rw [hsb,decide_eq_false (show ¬ k<i by simp at h2;omega)];simp
    have hki:k<i:=by simp at h2;omega
    rw [decide_eq_true hki,Bool.true_and] at hsb;refine zb ?_;refine zP (fun h3=>?_) (fun h3=>?_)
    ·refine zb ?_;refine ⟨m+1,⟨by omega,hnext3 ?_⟩,by omega,(FLe.cv [⟨102,some 102,0,⟨0,.own,36,5,[[.int .i64 0,.int .i64 0,.int .i64 0,.nil,.nil]]⟩⟩,⟨108,some 108,0,⟨0,.own,43,8,[o.fv]⟩⟩] zf zd)⟩;rw [hsb,decide_eq_false (show ¬ p.p=o.p by simpa using h3)];simp
    rw [decide_eq_true (show p.p=o.p by simpa using h3),Bool.true_and] at hsb;refine zb ?_;refine zP (fun h4=>?_) (fun h4=>?_)
    ·refine zb ?_;refine ⟨m+1,⟨by omega,hnext3 ?_⟩,by omega,(FLe.cv [⟨102,some 102,0,⟨0,.own,36,5,[[.int .i64 0,.int .i64 0,.int .i64 0,.nil,.nil]]⟩⟩,⟨108,some 108,0,⟨0,.own,43,8,[o.fv]⟩⟩] zf zd)⟩;rw [hsb,decide_eq_false (show ¬ p.key=o.key by simpa using h4)];simp
    rw [decide_eq_true (show p.key=o.key by simpa using h4),Bool.true_and] at hsb;refine zb ?_;have hc9:decide (cl=9)=decide (r=0):=by rw [hcl2];exact decide_eq_decide.2 za
    rw [hc9];refine FW.cond rfl (fun h5=>?_) (fun h5=>?_)
    ·refine zb ?_;refine ⟨m+1,⟨by omega,hnext3 ?_⟩,by omega,(FLe.cv [⟨102,some 102,0,⟨0,.own,36,5,[[.int .i64 0,.int .i64 0,.int .i64 0,.nil,.nil]]⟩⟩,⟨108,some 108,0,⟨0,.own,43,8,[o.fv]⟩⟩] zf zd)⟩;rw [hsb,show (decide (p.k=1) == decide (r=0))=false by simpa using h5,Bool.false_and]
    rw [show (decide (p.k=1) == decide (r=0))=true by simpa using h5,Bool.true_and] at hsb;refine zb ?_;refine FW.cond rfl (fun h7=>?_) (fun h7=>?_)
    ·have h7:p.k=1:=by simpa using h7
     rw [if_pos h7] at hsb;have hold:=hol o.key o.res p.arg hoin.2.2.1 hoin.2.2.2.2.1 hpin.2.2.2.1;generalize XG l o.key o.res p.arg=ob at hold hsb;refine zb ?_;refine zS hold (by repeat (first|exact zu.nil|refine zu.cons zm ?_)) rfl rfl ?_;refine zb ?_;refine FW.cond rfl (fun h6=>?_) (fun h6=>?_)
     ·rw [hyes (by rw [hsb,h6])];refine ZQ ?_;refine yK (es:=[yp k,yp i]) rfl rfl rfl (by refine yT.int rfl rfl ?_;refine yT.int rfl rfl ?_;exact yT.nil) rfl rfl rfl rfl rfl ?_;refine zb ?_;exact FW.ret ⟨.inl rfl,.sh (.cons (zL rfl rfl rfl rfl rfl rfl zg) (.cons (.tmp 3 rfl rfl) .nil)) rfl rfl⟩
     ·refine zb ?_;refine ⟨m+1,⟨by omega,hnext3 ?_⟩,by omega,(FLe.cv [⟨102,some 102,0,⟨0,.own,36,5,[[.int .i64 0,.int .i64 0,.int .i64 0,.nil,.nil]]⟩⟩,⟨108,some 108,0,⟨0,.own,43,8,[o.fv]⟩⟩] zf zd)⟩;rw [hsb,h6]
    ·have h7:¬ p.k=1:=by simpa using h7
     rw [if_neg h7] at hsb;have hold:=hol o.key o.res p.res hoin.2.2.1 hoin.2.2.2.2.1 hpin.2.2.2.2.1;generalize XG l o.key o.res p.res=ob at hold hsb;refine zb ?_;refine zS hold (by repeat (first|exact zu.nil|refine zu.cons zm ?_)) rfl rfl ?_;refine zb ?_;refine FW.cond rfl (fun h6=>?_) (fun h6=>?_)
     ·rw [hyes (by rw [hsb,h6])];refine ZQ ?_;refine yK (es:=[yp k,yp i]) rfl rfl rfl (by refine yT.int rfl rfl ?_;refine yT.int rfl rfl ?_;exact yT.nil) rfl rfl rfl rfl rfl ?_;refine zb ?_;exact FW.ret ⟨.inl rfl,.sh (.cons (zL rfl rfl rfl rfl rfl rfl zg) (.cons (.tmp 3 rfl rfl) .nil)) rfl rfl⟩
     ·refine zb ?_;refine ⟨m+1,⟨by omega,hnext3 ?_⟩,by omega,(FLe.cv [⟨102,some 102,0,⟨0,.own,36,5,[[.int .i64 0,.int .i64 0,.int .i64 0,.nil,.nil]]⟩⟩,⟨108,some 108,0,⟨0,.own,43,8,[o.fv]⟩⟩] zf zd)⟩;rw [hsb,h6]
   ·have hme:m=I.length:=by simp at h;omega
    subst hme;refine zb ?_;refine ⟨r+1,⟨by omega,fun _=>?_,fun h=>?_⟩,by omega,?_⟩
    ·have:r=0∨r=1:=by omega
     rcases this with rfl|rfl
     ·exact hpre3
     ·exact hr1 za
    ·have:r=1:=by omega
     subst this;exact hpre3
    ·exact (FLe.cv [⟨102,some 102,0,⟨0,.own,36,5,[[.int .i64 0,.int .i64 0,.int .i64 0,.nil,.nil]]⟩⟩,⟨108,some 108,0,⟨0,.own,43,8,[o.fv]⟩⟩] zf zd)
  ·have hre:r=2:=by simp at h;omega
   subst hre;refine zb ?_;refine ⟨j+1,⟨by omega,hnext (hat1 (hr1 za) (hr2 za))⟩,by omega,?_⟩;exact (FLe.cv [⟨102,some 102,0,⟨0,.own,36,5,[[.int .i64 0,.int .i64 0,.int .i64 0,.nil,.nil]]⟩⟩] zf zd)
 ·have hje:j=I.length:=by simp at h;omega
  subst hje;rw [hno hpre];refine zb ?_;exact FW.ret ⟨.inl rfl,.sh (.cons (zL rfl rfl rfl rfl rfl rfl zg) (.cons (.tmp 3 rfl rfl) .nil)) rfl rfl⟩
end Go.Proofs.Ytmnmakhpjgjdaaa
