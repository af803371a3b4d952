/-
  Some texts as one: FmCauE, FmCsH, FmCs1, ConsPlain, CauGen, CauImp, CauRem, FmCs2.
-/
import Derived.Test.YtmnmakhpjgjdaaaZFmTopoL
import Derived.Test.YtmnmakhpjgjdaaaZD
import Derived.Test.YtmnmakhpjgjdaaaZF
import Derived.Test.YtmnmakhpjgjdaaaZR
import Derived.Test.YtmnmakhpjgjdaaaZFmW
import Derived.Test.YtmnmakhpjgjdaaaZOrderPlain
namespace Go.Proofs.Ytmnmakhpjgjdaaa
set_option linter.unusedVariables false
set_option maxHeartbeats 16000000
open Go.RowKit
def zbO (l:List OpV) (key v u:Int):Bool:=if v=0 then decide (u≠0) else match cIx l key v,cIx l key u with
 | some a, some b => decide ((nth l a).p=(nth l b).p) && decide (a<b)
 | _, _ => false
theorem zg2 (l:List OpV) (key v u:Int) (hl:l.length≤1000) (hin:∀ o∈l,za2 o) (h1:I64 key) (h2:I64 v) (h3:I64 u):zU Try.prog 40 [zef l,.int .i64 key,.int .i64 v,.int .i64 u] .fr (.bool (zbO l key v u)):=by
 have hlv:=ziH l key v
 have hlu:=ziH l key u
 have hkk:=UB (l:=l) (i:=l.length) (Nat.le_refl _) hin
 have hv:=fun a=>Yr (l:=l) (a:=key) (b:=v) (w:=a)
 have hu:=fun a=>Yr (l:=l) (a:=key) (b:=u) (w:=a)
 unfold zbO
 unfold zef zhl
 generalize cIx l key v=A at hlv hv ⊢
 generalize cIx l key u=B at hlu hu ⊢
 generalize yE l l.length=CR at hlv hlu hkk ⊢
 obtain ⟨f1,hf1⟩:∃ f1,f1=FV.list 1 ((zI l l.length).map ym):=⟨_,rfl⟩
 obtain ⟨f3,hf3⟩:∃ f3,f3=FV.list 1 ((List.range l.length).map fun q=>[xb (KC l q)]):=⟨_,rfl⟩
 rw [← hf1,← hf3]
 clear hf1 hf3
 refine zU.of_body (c:=(xT Try.prog zE zt 67)) ⟨Try.func40,rfl,Try.ntmps40,by kernel_rfl⟩ zL zw rfl ?_
 change FW _ _ _ ⟨[(0,.eptr 4 [[.list 8 (l.map OpV.fv),f1,.smap CR,f3]] 0 0),(1,.int .i64 key),(2,.int .i64 v),(3,.int .i64 u)],[]⟩
 refine zb ?_
 refine FW.cond rfl (fun h=>?_) (fun h=>?_)
 ·rw [if_pos (by simpa using h)]
  refine zb ?_
  exact FW.ret ⟨.inl rfl,zK rfl rfl rfl rfl⟩
 rw [if_neg (by simpa using h)]
 clear h
 refine zb ?_
 refine Xc (e:=3) WG hkk (Uf h1 h2) hlv rfl rfl rfl rfl rfl rfl rfl ?_
 refine zb ?_
 refine Xc (e:=3) WG hkk (Uf h1 h3) hlu rfl rfl rfl rfl rfl rfl rfl ?_
 cases A with
 | none =>
  refine zY ?_
  refine ⟨by kernel_rfl,?_⟩
  skip
  exact FW.ret ⟨.inl rfl,zK rfl rfl rfl rfl⟩
 | some a =>
 cases B with
 | none =>
  refine zY ?_
  refine ⟨by kernel_rfl,?_⟩
  skip
  exact FW.ret ⟨.inl rfl,zK rfl rfl rfl rfl⟩
 | some b =>
 have ha:=(hv a rfl).1
 have hb:=(hu b rfl).1
 dsimp only
 rw [Option.getD_some,Option.getD_some]
 refine zY ?_
 refine xv (fun h4=>?_) (fun h4=>?_)
 ·have h4:(nth l a).p=(nth l b).p:=by simpa using h4
  refine zD ?_
  refine ⟨by kernel_rfl,?_⟩
  skip
  refine FW.ret ⟨.inl rfl,zK rfl rfl ?_ rfl⟩
  rw [decide_eq_true h4,Bool.true_and]
  simp;rfl
 ·have h4:¬ (nth l a).p=(nth l b).p:=by simpa using h4
  refine zD ?_
  refine ⟨by kernel_rfl,?_⟩
  skip
  refine FW.ret ⟨.inl rfl,zK rfl rfl ?_ rfl⟩
  rw [decide_eq_false h4,Bool.false_and];rfl
def VA (l:List OpV) (i r k:Nat):Bool:=decide (k<i) && decide ((nth l k).p=(nth l i).p) && decide ((nth l k).key=(nth l i).key) && (decide ((nth l k).k=1) == decide (r=0)) && zbO l (nth l i).key (nth l i).res (if (nth l k).k=1 then (nth l k).arg else (nth l k).res)
def YH (l:List OpV) (i:Nat):Option (Nat×Nat×Nat):=if (nth l i).k≠0 then none else match (zI l l.length).find? (VA l i 0) with
 | some k => some (0, k, i)
 | none => ((zI l l.length).find? (VA l i 1)).map fun k => (1, k, i)
def zjP (l:List OpV):Option (Nat×Nat×Nat):=(zI l l.length).findSome? (YH l)
def zb5 (l:List OpV):List FV:=match zjP l with
 | some (r, k, i) => VV 6 (9+r) (nth l i).key [k, i] []
 | none => VV 6 0 0 [] []
def zlU (l:List OpV):FV:=if Xr l≠0 then .tup [.agg [.int .i64 0,.int .i64 0,.int .i64 0,.nil,.nil],.int .i64 (Xr l)] else .tup [.agg (zb5 l),.int .i64 0]
theorem zcl (l:List OpV) (hl:l.length≤1000) (hin:∀ o∈l,za2 o):zU Try.prog 19 [.list 8 (l.map OpV.fv)] .sh (zlU l):=by
 have hdm:=VH l za hin
 obtain ⟨R,hR⟩:∃ R,zlU l=R:=⟨_,rfl⟩
 have hRh:R.hand=none:=by rw [← hR];unfold zlU;split <;> rfl
 rw [hR]
 have hR1:Xr l≠0→R=.tup [.agg [.int .i64 0,.int .i64 0,.int .i64 0,.nil,.nil],.int .i64 (Xr l)]:=fun h=>by rw [← hR];unfold zlU;rw [if_pos h]
 have hR2:Xr l=0→R=.tup [.agg (zb5 l),.int .i64 0]:=fun h=>by rw [← hR];unfold zlU;rw [if_neg (by simpa using h)]
 have hdom:Xr l=0→YK l:=fun h=>by
  unfold Xr at h
  split at h
  ·rename_i h1;exact absurd h h1
  ·split at h
   ·assumption
   ·cases h
 clear hR
 obtain ⟨e,he⟩:∃ e,Xr l=e:=⟨_,rfl⟩
 rw [he] at hdm hR1 hR2 hdom
 have hb:=fun hd=>zbo l za hin hd
 rw [zid] at hb
 change YK l→zU _ _ _ _ (zef l) at hb
 have hol:=fun key v u h1 h2 h3=>zg2 l key v u hl hin h1 h2 h3
 obtain ⟨I,hI⟩:∃ I,I=zI l l.length:=⟨_,rfl⟩
 have hIl:I.length≤l.length:=by rw [hI];exact ZZ l l.length
 have hIm:∀ j,j<I.length→nth I j<l.length:=fun j hj=>by have:=zu hj;rw [hI] at this ⊢;exact yR this
 have hyes:e=0→∀ j r m,j<I.length→(∀ i,i<j→YH l (nth I i)=none)→(nth l (nth I j)).k=0→(r=0∨(r=1∧∀ i,i<I.length→VA l (nth I j) 0 (nth I i)=false))→m<I.length→(∀ i,i<m→VA l (nth I j) r (nth I i)=false)→VA l (nth I j) r (nth I m)=true→R=.tup [.agg (VV 6 (9+r) (nth l (nth I j)).key [nth I m,nth I j] []),.int .i64 0]:=fun h0 j r m h1 h2 h3 h4 h5 h6 h7=>by
  have h8:YH l (nth I j)=some (r,nth I m,nth I j):=by
   unfold YH
   rw [if_neg (by simpa using h3),← hI]
   rcases h4 with rfl|⟨rfl,h4⟩
   ·rw [YS h6 h5 h7]
   ·rw [Vm h4,YS h6 h5 h7];rfl
  rw [hR2 h0];unfold zb5 zjP;rw [← hI,Yv h2 h1 h8]
 have hno:e=0→(∀ i,i<I.length→YH l (nth I i)=none)→R=.tup [.agg (VV 6 0 0 [] []),.int .i64 0]:=fun h0 h=>by
  rw [hR2 h0];unfold zb5 zjP;rw [← hI,XW h]
 have hat0:∀ i,(nth l i).k≠0→YH l i=none:=fun i h=>by unfold YH;rw [if_pos h]
 have hat1:∀ i,(∀ m,m<I.length→VA l i 0 (nth I m)=false)→(∀ m,m<I.length→VA l i 1 (nth I m)=false)→YH l i=none:=fun i h2 h3=>by
  unfold YH;split
  ·rfl
  ·rw [← hI,Vm h2,Vm h3];rfl
 unfold zef at hb hol
 rw [← hI] at hb hol
 obtain ⟨r2,hr2⟩:∃ r2,r2=FV.smap (yE l l.length):=⟨_,rfl⟩
 obtain ⟨C,hC⟩:∃ C,C=List.map (fun q=>[xb (KC l q)]) (List.range l.length):=⟨_,rfl⟩
 unfold zhl at hb hol
 rw [← hr2,← hC] at hb hol
 clear hr2 hC
 refine zU.of_body (c:=(xT Try.prog zE zt 109)) ⟨Try.func19,rfl,Try.ntmps19,by kernel_rfl⟩ zL zw hRh ?_
 change FW _ _ _ ⟨[(0,.list 8 (l.map OpV.fv))],[]⟩
 refine zb ?_
 refine yu hdm (by repeat (first|exact zA.nil|refine zA.cons zy ?_)) rfl rfl ?_
 refine zb ?_
 refine FW.cond rfl (fun h=>?_) (fun h=>?_)
 ·rw [hR1 (by simpa using h)]
  refine zb ?_
  exact FW.ret ⟨.inl rfl,.sh (.cons (ye rfl rfl rfl rfl rfl rfl zc) (.cons (.tmp 3 rfl rfl) .nil)) rfl rfl⟩
 have he0:e=0:=by simpa using h
 subst he0
 have hR2:=hR2 rfl
 have hb:=hb (hdom rfl)
 have hyes:=hyes rfl
 have hno:=hno rfl
 clear h hR1 hdom
 refine zb ?_
 refine yL hb (by repeat (first|exact zA.nil|refine zA.cons zy ?_)) rfl rfl ?_
 refine zb ?_
 refine FW.loop (fun j:Nat=>⟨[(0,.list 8 (l.map OpV.fv)),(2,.ptr 102 0 0 0),(5,.eptr 4 [[.list 8 (l.map OpV.fv),.list 1 (I.map ym),r2,.list 1 C]] 0 0),(26,.list 1 (I.map ym)),(27,.int .i64 I.length),(28,.int .i64 j)],[(102,⟨0,.own,36,5,[[.int .i64 0,.int .i64 0,.int .i64 0,.nil,.nil]]⟩)]⟩) (fun j=>j≤I.length∧∀ i,i<j→YH l (nth I i)=none) (fun j=>I.length - j) 0 ⟨Nat.zero_le _,fun i hi=>absurd hi (Nat.not_lt_zero _)⟩ ?_ ?_
 ·exact (FLe.cv [⟨102,some 2,0+1,⟨0,.own,36,5,[[.int .i64 0,.int .i64 0,.int .i64 0,.nil,.nil]]⟩⟩] (by repeat (first|exact .nil|refine .old rfl zc rfl ?_)) (by repeat (first|exact .nil|refine .cons (.plain rfl rfl rfl) ?_|refine .cons (.ptr rfl (.head _) rfl) ?_)))
 rintro j ⟨hj,hpre⟩
 refine zb ?_
 refine FW.cond rfl (fun h=>?_) (fun h=>?_)
 ·have hjl:j<I.length:=by simpa using h
  clear h
  have hyes:=fun r m=>hyes j r m hjl hpre
  have hnext:YH l (nth I j)=none→∀ i,i<j+1→YH l (nth I i)=none:=fun h i hi=>by
   rcases Nat.lt_succ_iff_lt_or_eq.1 hi with h'|rfl
   ·exact hpre i h'
   ·exact h
  have hii:=hIm j hjl
  have hoin:=hin _ (zu hii)
  obtain ⟨i,hi⟩:∃ i,nth I j=i:=⟨_,rfl⟩
  rw [hi] at hii hyes hnext hoin
  have hat0:=hat0 i
  have hat1:=hat1 i
  have hsB:∀ r k,VA l i r k=(decide (k<i) && decide ((nth l k).p=(nth l i).p) && decide ((nth l k).key=(nth l i).key) && (decide ((nth l k).k=1) == decide (r=0)) && zbO l (nth l i).key (nth l i).res (if (nth l k).k=1 then (nth l k).arg else (nth l k).res)):=fun r k=>rfl
  obtain ⟨o,hoe⟩:∃ o,nth l i=o:=⟨_,rfl⟩
  rw [hoe] at hyes hat0 hoin
  rw [hoe] at hsB
  refine zb ?_
  rw [hi]
  skip
  rw [hoe]
  skip
  refine FW.cond rfl (fun h1=>?_) (fun h1=>?_)
  ·refine zb ?_
   refine ⟨j+1,⟨by omega,hnext (hat0 (by simpa using h1))⟩,by omega,?_⟩
   exact (FLe.cv [⟨102,some 102,0,⟨0,.own,36,5,[[.int .i64 0,.int .i64 0,.int .i64 0,.nil,.nil]]⟩⟩] (by repeat (first|exact .nil|refine .old rfl zc rfl ?_)) (by repeat (first|exact .nil|refine .cons (.plain rfl rfl rfl) ?_|refine .cons (.ptr rfl (.head _) rfl) ?_)))
  have hik:o.k=0:=by simpa using h1
  have hyes:=fun r m=>hyes r m hik
  (repeat (first|refine FW.seq ?_|refine FW.region ?_|refine FW.skip ?_))
  refine Yh (es:=([9,10]:List Int).map zp) rfl rfl rfl (by refine xK.int rfl rfl ?_;refine xK.int rfl rfl ?_;exact xK.nil) rfl rfl rfl rfl rfl ?_
  refine zb ?_
  refine FW.loop (fun r:Nat=>⟨[(0,.list 8 (l.map OpV.fv)),(2,.ptr 102 0 0 0),(5,.eptr 4 [[.list 8 (l.map OpV.fv),.list 1 (I.map ym),r2,.list 1 C]] 0 0),(26,.list 1 (I.map ym)),(27,.int .i64 I.length),(28,.int .i64 j),(7,.int .i64 i),(8,.ptr 108 0 0 0),(39,.list 1 (([9,10]:List Int).map zp)),(40,.int .i64 2),(41,.int .i64 r)],[(102,⟨0,.own,36,5,[[.int .i64 0,.int .i64 0,.int .i64 0,.nil,.nil]]⟩),(108,⟨0,.own,43,8,[o.fv]⟩)]⟩) (fun r=>r≤2∧(1≤r→∀ m,m<I.length→VA l i 0 (nth I m)=false)∧(2≤r→∀ m,m<I.length→VA l i 1 (nth I m)=false)) (fun r=>2 - r) 0 ⟨Nat.zero_le _,by omega,by omega⟩ ?_ ?_
  ·exact (FLe.cv [⟨102,some 102,0,⟨0,.own,36,5,[[.int .i64 0,.int .i64 0,.int .i64 0,.nil,.nil]]⟩⟩,⟨108,some 8,0+1,⟨0,.own,43,8,[o.fv]⟩⟩] (by repeat (first|exact .nil|refine .old rfl zc rfl ?_)) (by repeat (first|exact .nil|refine .cons (.plain rfl rfl rfl) ?_|refine .cons (.ptr rfl (.head _) rfl) ?_|refine .cons (.ptr rfl (.tail _ (.head _)) rfl) ?_)))
  rintro r ⟨hr,hr1,hr2⟩
  refine zb ?_
  refine FW.cond rfl (fun h=>?_) (fun h=>?_)
  ·have hrl:r<2:=by simp at h;omega
   clear h
   obtain ⟨cl,hcl⟩:∃ cl:Int,nth [9,10] r=cl:=⟨_,rfl⟩
   have hcl2:cl=9+(r:Int):=by
    have:r=0∨r=1:=by omega
    rcases this with rfl|rfl <;> (rw [← hcl];rfl)
   have hll:([9,10]:List Int).length=2:=rfl
   refine zb ?_
   rw [hcl]
   skip
   refine FW.loop (fun m:Nat=>⟨[(0,.list 8 (l.map OpV.fv)),(2,.ptr 102 0 0 0),(5,.eptr 4 [[.list 8 (l.map OpV.fv),.list 1 (I.map ym),r2,.list 1 C]] 0 0),(26,.list 1 (I.map ym)),(27,.int .i64 I.length),(28,.int .i64 j),(7,.int .i64 i),(8,.ptr 108 0 0 0),(39,.list 1 (([9,10]:List Int).map zp)),(40,.int .i64 2),(41,.int .i64 r),(10,.int .i64 cl),(48,.list 1 (I.map ym)),(49,.int .i64 I.length),(50,.int .i64 m)],[(102,⟨0,.own,36,5,[[.int .i64 0,.int .i64 0,.int .i64 0,.nil,.nil]]⟩),(108,⟨0,.own,43,8,[o.fv]⟩)]⟩) (fun m=>m≤I.length∧∀ q,q<m→VA l i r (nth I q)=false) (fun m=>I.length - m) 0 ⟨Nat.zero_le _,fun i hi=>absurd hi (Nat.not_lt_zero _)⟩ ?_ ?_
   ·exact (FLe.cv [⟨102,some 102,0,⟨0,.own,36,5,[[.int .i64 0,.int .i64 0,.int .i64 0,.nil,.nil]]⟩⟩,⟨108,some 108,0,⟨0,.own,43,8,[o.fv]⟩⟩] (by repeat (first|exact .nil|refine .old rfl zc rfl ?_)) (by repeat (first|exact .nil|refine .cons (.plain rfl rfl rfl) ?_|refine .cons (.ptr rfl (.head _) rfl) ?_|refine .cons (.ptr rfl (.tail _ (.head _)) rfl) ?_)))
   rintro m ⟨hm,hpre3⟩
   refine zb ?_
   refine FW.cond rfl (fun h=>?_) (fun h=>?_)
   ·have hml:m<I.length:=by simpa using h
    clear h
    have hyes:=hyes r m (by
     have:r=0∨r=1:=by omega
     rcases this with rfl|rfl
     ·exact .inl rfl
     ·exact .inr ⟨rfl,hr1 za⟩) hml hpre3
    rw [← hcl2] at hyes
    have hnext3:VA l i r (nth I m)=false→∀ q,q<m+1→VA l i r (nth I q)=false:=fun h q hq=>by
     rcases Nat.lt_succ_iff_lt_or_eq.1 hq with h'|rfl
     ·exact hpre3 q h'
     ·exact h
    have hkn:=hIm m hml
    have hpin:=hin _ (zu hkn)
    obtain ⟨k,hk⟩:∃ k,nth I m=k:=⟨_,rfl⟩
    rw [hk] at hkn hyes hnext3 hpin
    have hsb:=hsB r k
    obtain ⟨p,hpe⟩:∃ p,nth l k=p:=⟨_,rfl⟩
    rw [hpe] at hsb hpin
    refine zb ?_
    rw [hk]
    skip
    rw [hpe]
    skip
    refine zN (fun h2=>?_) (fun h2=>?_)
    ·refine zb ?_
     refine ⟨m+1,⟨by omega,hnext3 ?_⟩,by omega,(FLe.cv [⟨102,some 102,0,⟨0,.own,36,5,[[.int .i64 0,.int .i64 0,.int .i64 0,.nil,.nil]]⟩⟩,⟨108,some 108,0,⟨0,.own,43,8,[o.fv]⟩⟩] (by repeat (first|exact .nil|refine .old rfl zc rfl ?_)) (by repeat (first|exact .nil|refine .cons (.plain rfl rfl rfl) ?_|refine .cons (.ptr rfl (.head _) rfl) ?_|refine .cons (.ptr rfl (.tail _ (.head _)) rfl) ?_)))⟩
     rw [hsb,decide_eq_false (show ¬ k<i by simp at h2;omega)];simp
    have hki:k<i:=by simp at h2;omega
    rw [decide_eq_true hki,Bool.true_and] at hsb
    refine zb ?_
    refine zN (fun h3=>?_) (fun h3=>?_)
    ·refine zb ?_
     refine ⟨m+1,⟨by omega,hnext3 ?_⟩,by omega,(FLe.cv [⟨102,some 102,0,⟨0,.own,36,5,[[.int .i64 0,.int .i64 0,.int .i64 0,.nil,.nil]]⟩⟩,⟨108,some 108,0,⟨0,.own,43,8,[o.fv]⟩⟩] (by repeat (first|exact .nil|refine .old rfl zc rfl ?_)) (by repeat (first|exact .nil|refine .cons (.plain rfl rfl rfl) ?_|refine .cons (.ptr rfl (.head _) rfl) ?_|refine .cons (.ptr rfl (.tail _ (.head _)) rfl) ?_)))⟩
     rw [hsb,decide_eq_false (show ¬ p.p=o.p by simpa using h3)];simp
    rw [decide_eq_true (show p.p=o.p by simpa using h3),Bool.true_and] at hsb
    refine zb ?_
    refine zN (fun h4=>?_) (fun h4=>?_)
    ·refine zb ?_
     refine ⟨m+1,⟨by omega,hnext3 ?_⟩,by omega,(FLe.cv [⟨102,some 102,0,⟨0,.own,36,5,[[.int .i64 0,.int .i64 0,.int .i64 0,.nil,.nil]]⟩⟩,⟨108,some 108,0,⟨0,.own,43,8,[o.fv]⟩⟩] (by repeat (first|exact .nil|refine .old rfl zc rfl ?_)) (by repeat (first|exact .nil|refine .cons (.plain rfl rfl rfl) ?_|refine .cons (.ptr rfl (.head _) rfl) ?_|refine .cons (.ptr rfl (.tail _ (.head _)) rfl) ?_)))⟩
     rw [hsb,decide_eq_false (show ¬ p.key=o.key by simpa using h4)];simp
    rw [decide_eq_true (show p.key=o.key by simpa using h4),Bool.true_and] at hsb
    refine zb ?_
    have hc9:decide (cl=9)=decide (r=0):=by rw [hcl2];exact decide_eq_decide.2 za
    rw [hc9]
    refine FW.cond rfl (fun h5=>?_) (fun h5=>?_)
    ·refine zb ?_
     refine ⟨m+1,⟨by omega,hnext3 ?_⟩,by omega,(FLe.cv [⟨102,some 102,0,⟨0,.own,36,5,[[.int .i64 0,.int .i64 0,.int .i64 0,.nil,.nil]]⟩⟩,⟨108,some 108,0,⟨0,.own,43,8,[o.fv]⟩⟩] (by repeat (first|exact .nil|refine .old rfl zc rfl ?_)) (by repeat (first|exact .nil|refine .cons (.plain rfl rfl rfl) ?_|refine .cons (.ptr rfl (.head _) rfl) ?_|refine .cons (.ptr rfl (.tail _ (.head _)) rfl) ?_)))⟩
     rw [hsb,show (decide (p.k=1) == decide (r=0))=false by simpa using h5,Bool.false_and]
    rw [show (decide (p.k=1) == decide (r=0))=true by simpa using h5,Bool.true_and] at hsb
    refine zb ?_
    refine FW.cond rfl (fun h7=>?_) (fun h7=>?_)
    ·have h7:p.k=1:=by simpa using h7
     rw [if_pos h7] at hsb
     have hold:=hol o.key o.res p.arg hoin.2.2.1 hoin.2.2.2.2.1 hpin.2.2.2.1
     generalize zbO l o.key o.res p.arg=ob at hold hsb
     refine zb ?_
     refine yu hold (by repeat (first|exact zA.nil|refine zA.cons zy ?_)) rfl rfl ?_
     refine zb ?_
     refine FW.cond rfl (fun h6=>?_) (fun h6=>?_)
     ·rw [hyes (by rw [hsb,h6])]
      (repeat (first|refine FW.seq ?_|refine FW.region ?_|refine zB rfl rfl rfl ?_|refine Xb rfl rfl rfl rfl rfl rfl zc rfl rfl ?_|refine xU rfl rfl rfl rfl rfl yY rfl rfl rfl rfl rfl ?_))
      refine Yh (es:=[ym k,ym i]) rfl rfl rfl (by refine xK.int rfl rfl ?_;refine xK.int rfl rfl ?_;exact xK.nil) rfl rfl rfl rfl rfl ?_
      refine zb ?_
      exact FW.ret ⟨.inl rfl,.sh (.cons (ye rfl rfl rfl rfl rfl rfl zc) (.cons (.tmp 3 rfl rfl) .nil)) rfl rfl⟩
     ·refine zb ?_
      refine ⟨m+1,⟨by omega,hnext3 ?_⟩,by omega,(FLe.cv [⟨102,some 102,0,⟨0,.own,36,5,[[.int .i64 0,.int .i64 0,.int .i64 0,.nil,.nil]]⟩⟩,⟨108,some 108,0,⟨0,.own,43,8,[o.fv]⟩⟩] (by repeat (first|exact .nil|refine .old rfl zc rfl ?_)) (by repeat (first|exact .nil|refine .cons (.plain rfl rfl rfl) ?_|refine .cons (.ptr rfl (.head _) rfl) ?_|refine .cons (.ptr rfl (.tail _ (.head _)) rfl) ?_)))⟩
      rw [hsb,h6]
    ·have h7:¬ p.k=1:=by simpa using h7
     rw [if_neg h7] at hsb
     have hold:=hol o.key o.res p.res hoin.2.2.1 hoin.2.2.2.2.1 hpin.2.2.2.2.1
     generalize zbO l o.key o.res p.res=ob at hold hsb
     refine zb ?_
     refine yu hold (by repeat (first|exact zA.nil|refine zA.cons zy ?_)) rfl rfl ?_
     refine zb ?_
     refine FW.cond rfl (fun h6=>?_) (fun h6=>?_)
     ·rw [hyes (by rw [hsb,h6])]
      (repeat (first|refine FW.seq ?_|refine FW.region ?_|refine zB rfl rfl rfl ?_|refine Xb rfl rfl rfl rfl rfl rfl zc rfl rfl ?_|refine xU rfl rfl rfl rfl rfl yY rfl rfl rfl rfl rfl ?_))
      refine Yh (es:=[ym k,ym i]) rfl rfl rfl (by refine xK.int rfl rfl ?_;refine xK.int rfl rfl ?_;exact xK.nil) rfl rfl rfl rfl rfl ?_
      refine zb ?_
      exact FW.ret ⟨.inl rfl,.sh (.cons (ye rfl rfl rfl rfl rfl rfl zc) (.cons (.tmp 3 rfl rfl) .nil)) rfl rfl⟩
     ·refine zb ?_
      refine ⟨m+1,⟨by omega,hnext3 ?_⟩,by omega,(FLe.cv [⟨102,some 102,0,⟨0,.own,36,5,[[.int .i64 0,.int .i64 0,.int .i64 0,.nil,.nil]]⟩⟩,⟨108,some 108,0,⟨0,.own,43,8,[o.fv]⟩⟩] (by repeat (first|exact .nil|refine .old rfl zc rfl ?_)) (by repeat (first|exact .nil|refine .cons (.plain rfl rfl rfl) ?_|refine .cons (.ptr rfl (.head _) rfl) ?_|refine .cons (.ptr rfl (.tail _ (.head _)) rfl) ?_)))⟩
      rw [hsb,h6]
   ·have hme:m=I.length:=by simp at h;omega
    subst hme
    refine zb ?_
    refine ⟨r+1,⟨by omega,fun _=>?_,fun h=>?_⟩,by omega,?_⟩
    ·have:r=0∨r=1:=by omega
     rcases this with rfl|rfl
     ·exact hpre3
     ·exact hr1 za
    ·have:r=1:=by omega
     subst this;exact hpre3
    ·exact (FLe.cv [⟨102,some 102,0,⟨0,.own,36,5,[[.int .i64 0,.int .i64 0,.int .i64 0,.nil,.nil]]⟩⟩,⟨108,some 108,0,⟨0,.own,43,8,[o.fv]⟩⟩] (by repeat (first|exact .nil|refine .old rfl zc rfl ?_)) (by repeat (first|exact .nil|refine .cons (.plain rfl rfl rfl) ?_|refine .cons (.ptr rfl (.head _) rfl) ?_|refine .cons (.ptr rfl (.tail _ (.head _)) rfl) ?_)))
  ·have hre:r=2:=by simp at h;omega
   subst hre
   refine zb ?_
   refine ⟨j+1,⟨by omega,hnext (hat1 (hr1 za) (hr2 za))⟩,by omega,?_⟩
   exact (FLe.cv [⟨102,some 102,0,⟨0,.own,36,5,[[.int .i64 0,.int .i64 0,.int .i64 0,.nil,.nil]]⟩⟩] (by repeat (first|exact .nil|refine .old rfl zc rfl ?_)) (by repeat (first|exact .nil|refine .cons (.plain rfl rfl rfl) ?_|refine .cons (.ptr rfl (.head _) rfl) ?_)))
 ·have hje:j=I.length:=by simp at h;omega
  subst hje
  rw [hno hpre]
  refine zb ?_
  exact FW.ret ⟨.inl rfl,.sh (.cons (ye rfl rfl rfl rfl rfl rfl zc) (.cons (.tmp 3 rfl rfl) .nil)) rfl rfl⟩
theorem zfi (l:List Int) (most:Int) (hl:∀ x∈l,I64 x) (hlen:l.length≤9223372036854775807) (hm:I64 most):zU Try.prog 10 [.list 1 (l.map zp),.int .i64 most] (.ow 43 8) (.list 8 ((yn l most).map OpV.fv)) where
 go:=by kernel_rfl
 hand:=rfl
 calls w I vs hI hv:=by
  obtain ⟨_,_,rfl,e1,e2⟩:=hv.inv2
  obtain ⟨A,c,rfl,_,hs⟩:=zeC.of e1 hI
  rw [e2.int_inv]
  refine (zcQ A c l most w hs hl hlen hm).mono ?_
  rintro e w' ⟨A1,c1,rfl,ho,hb⟩
  exact ⟨_,rfl,hb,opT.res ho⟩
/-! ### what the registers are -/
theorem Wb (l:List Int) {most:Int} (h0:0≤most) (h1:most≤20):xz (yn l most)=0∧(∀ o∈yn l most,za2 o)∧(∀ o∈yn l most,zln o)∧((yn l most).length:Int)≤most:=by
 have hg:=XU l most
 have hl:=Vk l most
 have hi:=zeW l (most:=most) h0
 have inv:=WS (Yw l) hg hl _ (Nat.le_refl _)
 exact ⟨(zfN hg hl inv.ok inv.sm).1,(zfN hg hl inv.ok inv.sm).2,inv.sm,by have:=inv.ok.len;unfold yn;omega⟩
structure zfr where
 check:Int
 cls:Int
 arg:Int
 ord:List Int
 ed:List EdC
 deriving DecidableEq,Inhabited
def zfr.fv (v:zfr):List FV:=[.int .i64 v.check,.int .i64 v.cls,.int .i64 v.arg,.list 1 (v.ord.map zp),.list 3 (v.ed.map EdC.fv)]
def za4 (L:List Nat):List Int:=L.map fun i:Nat=>(i:Int)
def zmM (l:List OpV):zfr:=match zbk l with
 | some i => ⟨5, 2, (nth l i).key, za4 [i], []⟩
 | none=>if YI l≠[] then ⟨5,6,0,[],YJ l (YI l) (YI l).length⟩ else match zbh l with
  | some (w1, w2, i) => ⟨5, 7, (nth l w2).key, za4 [w1, w2, i], ZN l w1 w2 ++ ZN l w2 i⟩
  | none => match zbg l with
   | some (w, i) => ⟨5, 8, (nth l w).key, za4 [w, i], ZN l w i⟩
   | none => ⟨5, 0, 0, YM l, []⟩
def zmg (l:List OpV):zfr:=if Xr l≠0 then ⟨0,0,0,[],[]⟩ else zmM l
def zm1 (l:List OpV):zfr:=match zjP l with
 | some (r, k, i) => ⟨6, 9+r, (nth l i).key, za4 [k, i], []⟩
 | none => ⟨6, 0, 0, [], []⟩
def zmN (l:List OpV):zfr:=if Xr l≠0 then ⟨0,0,0,[],[]⟩ else zm1 l
theorem ziL (sz:Nat) (es:List (List FV)):FV.le (zlF sz es) (.list sz es):=by
 cases es with
 | nil => exact .nil sz
 | cons e es => exact .refl _
theorem zkB (L:List Nat):L.map ym=(za4 L).map zp:=by unfold za4;rw [List.map_map];rfl
theorem zmK {c k a:Int} {f g:FV} {o:List Int} {e:List EdC} (h1:FV.le f (.list 1 (o.map zp))) (h2:FV.le g (.list 3 (e.map EdC.fv))):FV.le (.agg [.int .i64 c,.int .i64 k,.int .i64 a,f,g]) (.agg (zfr.fv ⟨c,k,a,o,e⟩)):=
 .agg (.cons (.refl _) (.cons (.refl _) (.cons (.refl _) (.cons h1 (.cons h2 .nil)))))
theorem zaW (c k a:Int) (o:List Nat) (e:List EdC):FV.le (.agg (VV c k a o e)) (.agg (zfr.fv ⟨c,k,a,za4 o,e⟩)):=by
 unfold VV
 refine zmK ?_ (ziL 3 _)
 rw [zkB];exact ziL 1 _
theorem zh6 (l:List OpV):FV.le (.agg (Wm l)) (.agg (zmM l).fv):=by
 unfold Wm zmM
 cases zbk l with
 | some i => exact zaW 5 2 _ [i] []
 | none=>
  dsimp only
  by_cases h:YI l≠[]
  ·rw [if_pos h,if_pos h];exact zmK (.nil 1) (.refl _)
  ·rw [if_neg h,if_neg h]
   cases zbh l with
   | some x =>
    obtain ⟨w1,w2,i⟩:=x
    exact zaW 5 7 _ [w1,w2,i] _
   | none=>
    dsimp only
    cases zbg l with
    | some x =>
     obtain ⟨w,i⟩:=x
     exact zaW 5 8 _ [w,i] _
    | none => exact zmK (.refl _) (.nil 3)
theorem zjO (l:List OpV):FV.le (.agg (zb5 l)) (.agg (zm1 l).fv):=by
 unfold zb5 zm1
 cases zjP l with
 | some x =>
  obtain ⟨r,k,i⟩:=x
  exact zaW 6 (9+r) _ [k,i] []
 | none => exact zaW 6 0 0 [] []
theorem zlt (l:List OpV):FV.le (zls l) (.tup [.agg (zmg l).fv,.int .i64 (Xr l)]):=by
 unfold zls zmg
 by_cases h:Xr l≠0
 ·rw [if_pos h,if_pos h]
  exact .tup (.cons (zmK (.nil 1) (.nil 3)) (.cons (.refl _) .nil))
 ·rw [if_neg h,if_neg h,show Xr l=0 by simpa using h]
  exact .tup (.cons (zh6 l) (.cons (.refl _) .nil))
theorem zlV (l:List OpV):FV.le (zlU l) (.tup [.agg (zmN l).fv,.int .i64 (Xr l)]):=by
 unfold zlU zmN
 by_cases h:Xr l≠0
 ·rw [if_pos h,if_pos h]
  exact .tup (.cons (zmK (.nil 1) (.nil 3)) (.cons (.refl _) .nil))
 ·rw [if_neg h,if_neg h,show Xr l=0 by simpa using h]
  exact .tup (.cons (zjO l) (.cons (.refl _) .nil))
theorem zaq (l:List OpV) (hl:l.length≤14) (hin:∀ o∈l,za2 o):zU Try.prog 18 [.list 8 (l.map OpV.fv)] .sh (.tup [.agg (zmg l).fv,.int .i64 (Xr l)]):=zU.le (zeI l hl hin) (zlt l) rfl
theorem zcM (l:List OpV) (hl:l.length≤1000) (hin:∀ o∈l,za2 o):zU Try.prog 19 [.list 8 (l.map OpV.fv)] .sh (.tup [.agg (zmN l).fv,.int .i64 (Xr l)]):=zU.le (zcl l hl hin) (zlV l) rfl
theorem zkm (x:EdC):zj7 Try.prog 46 x.fv x.fv true:=by
 refine ⟨by kernel_rfl,fun w=>?_⟩
 obtain ⟨a1,a2,a3⟩:=x
 show (Op.equalIn 10000 46 (.agg #[.int .i64 (a1:Int),.int .i64 (a2:Int),.int .i64 (a3:Int)]) (.agg #[.int .i64 (a1:Int),.int .i64 (a2:Int),.int .i64 (a3:Int)])).run Try.prog w=_
 have hS:Try.prog.underlying 46=some (.struct (Try.prog.fieldsOf 46)):=by kernel_rfl
 have hp:Try.prog.stoodInHeld 46=false:=by kernel_rfl
 rw [show (10000:Nat)=9999+1 from rfl,run_equalIn_agg w 9999 46 _ _ hS hp]
 simp only [Program.fieldsOf,Try.underlying46]
 simp [go_sem]
theorem zaQ (V:zfr) (h1:V.ord.length≤1000) (h2:V.ed.length≤1000):zU Try.prog 22 [.agg V.fv,.agg V.fv] .fr (.bool true):=by
 have hs1:=zcV V.ord V.ord za za
 rw [decide_eq_true rfl] at hs1
 obtain ⟨ck,cls,arg,O,E⟩:=V
 dsimp only at h1 h2 hs1
 obtain ⟨n,hn⟩:∃ n,E.length=n:=⟨_,rfl⟩
 obtain ⟨X,hX⟩:∃ X,O.map zp=X:=⟨_,rfl⟩
 show zU _ _ [.agg [.int .i64 ck,.int .i64 cls,.int .i64 arg,.list 1 (O.map zp),.list 3 (E.map EdC.fv)],.agg [.int .i64 ck,.int .i64 cls,.int .i64 arg,.list 1 (O.map zp),.list 3 (E.map EdC.fv)]] _ _
 rw [hX] at hs1 ⊢
 refine zU.of_body (c:=(xT Try.prog zE zt 67)) ⟨Try.func22,rfl,Try.ntmps22,by kernel_rfl⟩ zL zw rfl ?_
 change FW _ _ _ ⟨[(0,.agg [.int .i64 ck,.int .i64 cls,.int .i64 arg,.list 1 X,.list 3 (E.map EdC.fv)]),(1,.agg [.int .i64 ck,.int .i64 cls,.int .i64 arg,.list 1 X,.list 3 (E.map EdC.fv)])],[]⟩
 refine zb ?_
 refine zN (fun h=>absurd rfl (of_decide_eq_true h)) (fun h=>?_)
 refine zb ?_
 refine zN (fun h=>absurd rfl (of_decide_eq_true h)) (fun h=>?_)
 refine zb ?_
 refine zN (fun h=>absurd rfl (of_decide_eq_true h)) (fun h=>?_)
 refine zb ?_
 refine yu hs1 (by repeat (first|exact zA.nil|refine zA.cons zy ?_)) rfl ⟨_,_,rfl,rfl,rfl⟩ ?_
 refine zb ?_
 refine FW.cond rfl (fun h=>absurd rfl (of_decide_eq_true h)) (fun h=>?_)
 clear h
 refine zb ?_
 refine FW.loop (fun j:Nat=>⟨[(2,.ptr 102 0 0 0),(3,.ptr 103 0 0 0),(5,.int .i64 j)],[(102,⟨0,.own,36,5,[[.int .i64 ck,.int .i64 cls,.int .i64 arg,.list 1 X,.list 3 (E.map EdC.fv)]]⟩),(103,⟨0,.own,36,5,[[.int .i64 ck,.int .i64 cls,.int .i64 arg,.list 1 X,.list 3 (E.map EdC.fv)]]⟩)]⟩) (fun j=>j≤n) (fun j=>n - j) 0 (Nat.zero_le _) (FLe.cv [⟨102,some 2,0+1,⟨0,.own,36,5,[[.int .i64 ck,.int .i64 cls,.int .i64 arg,.list 1 X,.list 3 (E.map EdC.fv)]]⟩⟩,⟨103,some 3,0+1,⟨0,.own,36,5,[[.int .i64 ck,.int .i64 cls,.int .i64 arg,.list 1 X,.list 3 (E.map EdC.fv)]]⟩⟩] (by repeat (first|exact .nil|refine .old rfl zc rfl ?_)) (by repeat (first|exact .nil|refine .cons (.plain rfl rfl rfl) ?_|refine .cons (.ptr rfl (.head _) rfl) ?_|refine .cons (.ptr rfl (.tail _ (.head _)) rfl) ?_))) ?_
 intro j hj
 refine zb ?_
 refine FW.cond rfl (fun h=>?_) (fun h=>?_)
 ·have hlt:j<E.length:=by simpa using h
  refine zY ?_
  refine zmx rfl rfl rfl rfl (zkm (nth E j)) rfl rfl ?_
  refine zD ?_
  refine ⟨by kernel_rfl,?_⟩
  refine zb ?_
  exact ⟨j+1,by omega,by omega,(FLe.cv [⟨102,some 102,0,⟨0,.own,36,5,[[.int .i64 ck,.int .i64 cls,.int .i64 arg,.list 1 X,.list 3 (E.map EdC.fv)]]⟩⟩,⟨103,some 103,0,⟨0,.own,36,5,[[.int .i64 ck,.int .i64 cls,.int .i64 arg,.list 1 X,.list 3 (E.map EdC.fv)]]⟩⟩] (by repeat (first|exact .nil|refine .old rfl zc rfl ?_)) (by repeat (first|exact .nil|refine .cons (.plain rfl rfl rfl) ?_|refine .cons (.ptr rfl (.head _) rfl) ?_|refine .cons (.ptr rfl (.tail _ (.head _)) rfl) ?_)))⟩
 ·refine zb ?_
  exact FW.ret ⟨.inl rfl,zK rfl rfl rfl rfl⟩
/-! ### histories by pairs -/
theorem zkI (l:List Int) {most:Int} (h0:0≤most) (h1:most≤20):WFH (yn l most):=by
 have hf:=Wb l h0 h1
 have hw:=zkh hf.1
 have hg:=XU l most
 have hl:=Vk l most
 have inv:=WS (Yw l) hg hl _ (Nat.le_refl _)
 exact (zly hg hl inv.ok hf.1 hw.1 hw.2).1
/-! ### the domain -/
structure zlm (s:xX):Prop where
 kd:∀ j,j<s.out.length→(nth s.out j).k=0∨((nth s.out j).k=1∧1≤(nth s.out j).arg∧(nth s.out j).arg≤s.ws.length)
 up:∀ i j,i<j→j<s.out.length→(nth s.out i).k=1→(nth s.out j).k=1→(nth s.out i).arg<(nth s.out j).arg
theorem zlm.add {s:xX} (h:zlm s) {o:OpV} {ws:List Int} {opn lat:List Int} (hw:s.ws.length≤ws.length) (hk:o.k=0∨(o.k=1∧o.arg=(s.ws.length:Int)+1∧s.ws.length+1≤ws.length)):zlm ⟨s.out++[o],ws,opn,lat⟩:=by
 have old:∀ i,i<s.out.length→nth (s.out++[o]) i=nth s.out i:=fun i hi=>yq hi
 have new:nth (s.out++[o]) s.out.length=o:=yJ
 refine ⟨fun j hj=>?_,fun i j hij hj h1 h2=>?_⟩
 ·dsimp only at hj ⊢
  rw [List.length_append,List.length_singleton] at hj
  by_cases e:j<s.out.length
  ·rw [old j e];have:=h.kd j e;omega
  ·obtain rfl:j=s.out.length:=by omega
   rw [new];omega
 ·dsimp only at hj h1 h2 ⊢
  rw [List.length_append,List.length_singleton] at hj
  rw [old i za] at h1 ⊢
  have hi:=h.kd i za
  by_cases e:j<s.out.length
  ·rw [old j e] at h2 ⊢;exact h.up i j hij e h1 h2
  ·obtain rfl:j=s.out.length:=by omega
   rw [new] at h2 ⊢;omega
theorem zlm.put {s:xX} (h:zlm s) {j:Nat} {o:OpV} (h1:o.k=(nth s.out j).k) (h2:o.arg=(nth s.out j).arg):zlm { s with out:=s.out.set j o }:=by
 have key:∀ i,i<s.out.length→(nth (s.out.set j o) i).k=(nth s.out i).k∧(nth (s.out.set j o) i).arg=(nth s.out i).arg:=fun i hi=>by
  by_cases e:j=i
  ·subst e;rw [zF hi];exact ⟨h1,h2⟩
  ·rw [zJ e];exact ⟨rfl,rfl⟩
 refine ⟨fun i hi=>?_,fun a b hab hb h3 h4=>?_⟩
 ·dsimp only at hi ⊢
  rw [List.length_set] at hi
  rw [(key i hi).1,(key i hi).2];exact h.kd i hi
 ·dsimp only at hb h3 h4 ⊢
  rw [List.length_set] at hb
  rw [(key a za).1] at h3
  rw [(key b hb).1] at h4
  rw [(key a za).2,(key b hb).2]
  exact h.up a b hab hb h3 h4
theorem zed (ev:List EvV) (fresh:Bool):∀ k,zlm (xQ ev fresh k)
 | 0 => ⟨fun j hj => absurd hj (Nat.not_lt_zero _), fun i j _ hj => absurd hj (Nat.not_lt_zero _)⟩
 | k+1=>by
  have ih:=zed ev fresh k
  have hs:xQ ev fresh (k+1)=Xa ev fresh k (xQ ev fresh k):=rfl
  rw [hs]
  generalize xQ ev fresh k=s at ih
  unfold Xa
  split
  ·unfold zay
   split
   ·exact ih.add zd (.inr ⟨rfl,rfl,by simp⟩)
   ·exact ih.add (Nat.le_refl _) (.inl rfl)
  ·unfold zf7
   exact ih.put rfl rfl
theorem zf9 (l:List Int) (most:Int):YK (yn l most):=fun i hi=>by
 have h:=zed (xa l most) (Yw l) (xa l most).length
 change i<(xQ (xa l most) (Yw l) (xa l most).length).out.length at hi
 unfold okW
 show _∨_
 unfold yn
 generalize xQ (xa l most) (Yw l) (xa l most).length=s at *
 rcases h.kd i hi with h1|h1
 ·exact .inl h1
 ·refine .inr ⟨h1.1,by omega,fun j hj=>?_⟩
  cases hb:wOf (nth s.out i).key (nth s.out i).arg (nth s.out j) with
  | false => rfl
  | true =>
   obtain ⟨w1,_,w3⟩:=ZJ.1 hb
   have:=h.up j i hj hi w1 h1.1
   omega
theorem zjm (l:List Int) {most:Int} (h0:0≤most) (h1:most≤20):Xr (yn l most)=0:=by
 unfold Xr
 rw [(Wb l h0 h1).1,if_neg zc,if_pos (zf9 l most)]
/-! ### the consistent ones -/
theorem zgB {X:List Nat} (hX:X.Pairwise (· < ·)) {p:Nat→Bool} {b:Nat} (hb:b∈X) (hp:p b=true):∃ c,X.find? p=some c∧c≤b:=by
 cases h:X.find? p with
 | none => have := List.find?_eq_none.1 h b hb; exact absurd hp this
 | some c=>
  refine ⟨c,rfl,?_⟩
  obtain ⟨_,ua,ub,e,hn⟩:=List.find?_eq_some_iff_append.1 h
  rw [e] at hb hX
  rcases List.mem_append.1 hb with h1|h1
  ·have:=hn b h1;rw [hp] at this;cases this
  ·rcases List.mem_cons.1 h1 with rfl|h1
   ·exact Nat.le_refl _
   ·exact Nat.le_of_lt ((List.pairwise_cons.1 (List.pairwise_append.1 hX).2.1).1 b h1)
theorem zey {l:List OpV} {b:Nat} (hb:b∈zI l l.length):∀ (m a:Nat),b - a≤m→a∈zI l l.length→a<b→(nth l a).p=(nth l b).p→∃ k,wkB (edC l) b (k+1) a=true
 | 0, a, hm, _, hab, _ => by omega
 | m+1,a,hm,ha,hab,hp=>by
  obtain ⟨c,hc,hcb⟩:=zgB (zad l l.length) (p:=fun k=>decide (a<k) && decide ((nth l k).p=(nth l a).p)) hb (by simp [hab,hp])
  have hc:yd l (zI l l.length) a=some c:=hc
  obtain ⟨h1,h2,h3⟩:=Xx hc
  have he:(a,c)∈edC l:=Vi.2 ⟨ha,h1,.inl hc⟩
  by_cases hcb2:c=b
  ·subst hcb2
   exact ⟨0,xV.2 ⟨c,he,ZT.2 rfl⟩⟩
  ·obtain ⟨k,hk⟩:=zey hb m c za h1 za (h3.trans hp)
   exact ⟨k+1,xV.2 ⟨c,he,hk⟩⟩
def skp (k i:Nat):Nat:=if i<k then i else i+1
structure Rm (l l' : List OpV) (k:Nat):Prop where
 hk:k<l.length
 len:l.length=l'.length+1
 at_:∀ i,i<l'.length→nth l' i=nth l (skp k i)
 rd:(nth l k).k=0
theorem zdA {l:List OpV} {b a:Nat} (h:xu l b=some a) (hb:xf l b=true):(nth l b).k=0∧(nth l b).res≠0∧(nth l b).done=true∧(nth l a).k=1∧(nth l a).key=(nth l b).key∧(nth l a).arg=(nth l b).res∧zla (nth l a).key (nth l a).arg (nth l b)=true∧a<l.length:=by
 obtain ⟨h1,h2,h3,h4,_⟩:=zfM h
 obtain ⟨d1,d2,d3⟩:=ZJ.1 h4
 have hd:=Vo h2 hb
 exact ⟨h2,h3,hd,d1,d2,d3,zf2.2 ⟨h2,hd,d2.symm,d3.symm⟩,h1⟩
section
variable {l l' : List OpV} {k:Nat} (R:Rm l l' k) (W:WFH l) (D:YK l)
include R
end
def zlD:List OpV:=[⟨0,1,3,1,0,0,1,true⟩,⟨0,0,3,0,0,2,3,true⟩]
theorem zmU:zmg zlD=⟨5,8,3,[0,1],[(0,1,1)]⟩:=by decide +kernel
theorem zmT:zmN zlD=⟨6,9,3,[0,1],[]⟩:=by decide +kernel
theorem zmk:Xr zlD=0:=by decide +kernel
theorem ziI:∀ o∈zlD,za2 o:=fun o ho=>by simp only [zlD,List.mem_cons,List.not_mem_nil,or_false] at ho;rcases ho with rfl|rfl <;> (unfold za2 I64;decide)
theorem Zd:zU Try.prog 15 [] .fr (.bool true):=by
 have hA:=zaq zlD zc ziI
 have hB:=zcM zlD zc ziI
 rw [zmU,zmk] at hA
 rw [zmT,zmk] at hB
 change zU _ _ [.list 8 [OpV.fv ⟨0,1,3,1,0,0,1,true⟩,OpV.fv ⟨0,0,3,0,0,2,3,true⟩]] _ (.tup [.agg [.int .i64 5,.int .i64 8,.int .i64 3,.list 1 ([0,1].map zp),.list 3 [[.int .i64 0,.int .i64 1,.int .i64 1]]],.int .i64 0]) at hA
 change zU _ _ [.list 8 [OpV.fv ⟨0,1,3,1,0,0,1,true⟩,OpV.fv ⟨0,0,3,0,0,2,3,true⟩]] _ (.tup [.agg [.int .i64 6,.int .i64 9,.int .i64 3,.list 1 ([0,1].map zp),.list 3 []],.int .i64 0]) at hB
 have s1:=zaQ ⟨5,8,3,[0,1],[(0,1,1)]⟩ zc zc
 have s2:=zaQ ⟨6,9,3,[0,1],[]⟩ zc zc
 change zU _ _ [.agg [.int .i64 5,.int .i64 8,.int .i64 3,.list 1 ([0,1].map zp),.list 3 [[.int .i64 0,.int .i64 1,.int .i64 1]]],.agg [.int .i64 5,.int .i64 8,.int .i64 3,.list 1 ([0,1].map zp),.list 3 [[.int .i64 0,.int .i64 1,.int .i64 1]]]] _ _ at s1
 change zU _ _ [.agg [.int .i64 6,.int .i64 9,.int .i64 3,.list 1 ([0,1].map zp),.list 3 []],.agg [.int .i64 6,.int .i64 9,.int .i64 3,.list 1 ([0,1].map zp),.list 3 []]] _ _ at s2
 refine zU.of_body (c:=(xT Try.prog zE zt 45)) ⟨Try.func15,rfl,Try.ntmps15,by kernel_rfl⟩ zL zw rfl ?_
 change FW _ _ _ ⟨[],[]⟩
 refine zb ?_
 refine WT (es:=[OpV.fv ⟨0,1,3,1,0,0,1,true⟩,OpV.fv ⟨0,0,3,0,0,2,3,true⟩]) rfl rfl rfl (by refine xK.agg rfl rfl rfl ?_;refine xK.agg rfl rfl rfl ?_;exact xK.nil) rfl rfl rfl rfl rfl rfl ?_
 refine zn.le ?_ (FLe.share 10 rfl rfl (by rfl))
 refine zb ?_
 refine yL hA (by repeat (first|exact zA.nil|refine zA.cons zy ?_)) rfl rfl ?_
 refine zb ?_
 refine yL hB (by repeat (first|exact zA.nil|refine zA.cons zy ?_)) rfl rfl ?_
 refine zb ?_
 refine WT (es:=[0,1].map zp) rfl rfl rfl (by refine xK.int rfl rfl ?_;refine xK.int rfl rfl ?_;exact xK.nil) rfl rfl rfl rfl rfl rfl ?_
 refine zn.le ?_ (FLe.share 21 rfl rfl rfl)
 refine zek rfl rfl rfl rfl ?_
 refine ZL.one rfl rfl rfl rfl rfl ?_
 refine ZL.one rfl rfl rfl rfl rfl ?_
 refine ZL.one rfl rfl rfl rfl rfl ?_
 refine ZL.nil ?_
 refine WT (es:=[[.int .i64 0,.int .i64 1,.int .i64 1]]) rfl rfl rfl (by refine xK.agg rfl rfl rfl ?_;exact xK.nil) rfl rfl rfl rfl rfl rfl ?_
 refine zn.le ?_ (FLe.share 23 rfl rfl rfl)
 refine zb ?_
 refine WT (es:=[0,1].map zp) rfl rfl rfl (by refine xK.int rfl rfl ?_;refine xK.int rfl rfl ?_;exact xK.nil) rfl rfl rfl rfl rfl rfl ?_
 refine zn.le ?_ (FLe.share 26 rfl rfl rfl)
 refine zb ?_
 refine yu s1 (by repeat (first|exact zA.nil|refine zA.cons zy ?_)) rfl ⟨_,_,rfl,rfl,rfl⟩ ?_
 refine zb ?_
 refine yu s2 (by repeat (first|exact zA.nil|refine zA.cons (by first|exact zc2.plain rfl rfl|exact zc2.sub rfl rfl (by repeat (first|exact FV.le.refl _|exact FV.le.nil _|refine FV.le.agg ?_|refine FV.le.tup ?_|exact LeL.nil|refine LeL.cons ?_ ?_|exact FV.le.undef _))) ?_)) rfl ⟨_,_,rfl,rfl,rfl⟩ ?_
 refine zb ?_
 exact FW.ret ⟨.inl rfl,zK rfl rfl rfl rfl⟩
end Go.Proofs.Ytmnmakhpjgjdaaa
