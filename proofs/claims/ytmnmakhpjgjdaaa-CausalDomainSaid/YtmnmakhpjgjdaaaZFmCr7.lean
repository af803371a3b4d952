/-
  Some texts as one: FmCr7, FmCr8, FmCs4, LawCausalDomain.
-/
import Derived.Test.YtmnmakhpjgjdaaaZFmCr2
import Derived.Test.YtmnmakhpjgjdaaaZFmCsH
namespace Go.Proofs.Ytmnmakhpjgjdaaa
set_option linter.unusedVariables false
set_option maxHeartbeats 16000000
open Go.RowKit
def US (l:List OpV) (q:Nat):Option (Nat×Nat×Nat):=if zK l q=true then ZA l q else none
theorem zda (l:List OpV):zjO l=(List.range l.length).findSome? (US l):=xh _ _ _
theorem zna {l:List OpV} {i r k:Nat} (h:xM l i r k=true):k<i:=by
 unfold xM at h;simp only [Bool.and_eq_true,decide_eq_true_eq] at h;exact h.1.1.1.1
theorem zbk (l:List OpV) (hl:l.length≤1000):zX Try.prog 28 [.list 8 (l.map OpV.fv)] .sh (zj7 l):=by
 have hdm:=VB l za;have hinc:=fun i hi=>xK l i za hi;have hol:=fun key v u=>zd0 l key v u za;obtain ⟨R,hR⟩:∃ R,zj7 l=R:=⟨_,rfl⟩
 have hRh:R.hand=none:=by rw [← hR];unfold zj7;split <;> rfl
 rw [hR];have hR1:Zj l≠0→R=.tup [.agg [.int .i64 0,.int .i64 0,.int .i64 0,.nil,.nil],.int .i64 (Zj l)]:=fun h=>by rw [← hR];unfold zj7;rw [if_pos h]
 have hR2:Zj l=0→R=.tup [.agg (VI l),.int .i64 0]:=fun h=>by rw [← hR];unfold zj7;rw [if_neg (by simpa using h)]
 clear hR;obtain ⟨e,he⟩:∃ e,Zj l=e:=⟨_,rfl⟩
 rw [he] at hdm hR1 hR2;have hyes:e=0→∀ i r k,i<l.length→(∀ q,q<i→US l q=none)→zK l i=true→(nth l i).k=0→(r=0∨(r=1∧∀ m,m<l.length→(zK l m && xM l i 0 m)=false))→k<l.length→(∀ m,m<k→(zK l m && xM l i r m)=false)→(zK l k && xM l i r k)=true→R=.tup [.agg (YS 6 (9+r) (nth l i).key [k,i] []),.int .i64 0]:=fun h0 i r k h1 h2 h3 h4 h5 h6 h7 h8=>by
  have h9:US l i=some (r,k,i):=by
   unfold US ZA;rw [if_pos h3,if_neg (by simpa using h4),Zo,Zo];have hfr:=xi (p:=fun w=>zK l w && xM l i r w) (l:=List.range l.length) (j:=k) (fun q hq=>by rw [zU za];exact h7 q hq) (by simpa using h6) (by rw [zU h6];exact h8);rw [zU h6] at hfr;rcases h5 with rfl|⟨rfl,h5⟩
   ·rw [hfr]
   ·rw [xO fun q hq=>by rw [zU (by simpa using hq)];exact h5 q (by simpa using hq),hfr];rfl
  rw [hR2 h0];unfold VI;rw [zda,xr (j:=i) (fun q hq=>by rw [zU za];exact h2 q hq) (by simpa using h1) (by rw [zU h1];exact h9)]
 have hno:e=0→(∀ i,i<l.length→US l i=none)→R=.tup [.agg (YS 6 0 0 [] []),.int .i64 0]:=fun h0 h=>by
  rw [hR2 h0];unfold VI;rw [zda,Za fun i hi=>by rw [zU (by simpa using hi)];exact h i (by simpa using hi)]
 have hat0:∀ i,(nth l i).k≠0∨zK l i=false→US l i=none:=fun i h=>by
  unfold US ZA;rcases h with h|h
  ·rw [if_pos h];split <;> rfl
  ·rw [h];rfl
 have hat1:∀ i,(∀ m,m<l.length→(zK l m && xM l i 0 m)=false)→(∀ m,m<l.length→(zK l m && xM l i 1 m)=false)→US l i=none:=fun i h2 h3=>by
  unfold US ZA;split
  ·split
   ·rfl
   ·rw [Zo,Zo,xO fun q hq=>by rw [zU (by simpa using hq)];exact h2 q (by simpa using hq),xO fun q hq=>by rw [zU (by simpa using hq)];exact h3 q (by simpa using hq)];rfl
  ·rfl
 have hall:∀ i r,(∀ m,m<i→(zK l m && xM l i r m)=false)→∀ m,m<l.length→(zK l m && xM l i r m)=false:=fun i r h m _=>by
  rcases Nat.lt_or_ge m i with h1|h1
  ·exact h m h1
  ·cases hs:xM l i r m with
   | false => rw [Bool.and_false]
   | true => have := zna hs; omega
 refine zX.of_body (c:=(xx Try.prog zE zt 134)) ⟨Try.func28,rfl,Try.ntmps28,by kernel_rfl⟩ zH zw hRh ?_;change FW _ _ _ ⟨[(0,.list 8 (l.map OpV.fv))],[]⟩;refine zb ?_;refine zS hdm (by repeat (first|exact zu.nil|refine zu.cons zm ?_)) rfl rfl ?_;refine zb ?_;refine FW.cond rfl (fun h=>?_) (fun h=>?_)
 ·rw [hR1 (by simpa using h)];refine zb ?_;exact FW.ret ⟨.inl rfl,.sh (.cons (zL rfl rfl rfl rfl rfl rfl zg) (.cons (.tmp 3 rfl rfl) .nil)) rfl rfl⟩
 have he0:e=0:=by simpa using h
 subst he0;have hyes:=hyes rfl;have hno:=hno rfl;clear h hR1 hR2;refine zb ?_;refine FW.loop (fun i:Nat=>⟨[(0,.list 8 (l.map OpV.fv)),(2,.ptr 102 0 0 0),(5,.ptr 105 0 0 0),(6,.int .i64 i)],[(102,⟨0,.own,36,5,[[.int .i64 0,.int .i64 0,.int .i64 0,.nil,.nil]]⟩),(105,⟨0,.own,36,5,[[.int .i64 6,.int .i64 0,.int .i64 0,.nil,.nil]]⟩)]⟩) (fun i=>i≤l.length∧∀ q,q<i→US l q=none) (fun i=>l.length - i) 0 ⟨Nat.zero_le _,fun i hi=>absurd hi (Nat.not_lt_zero _)⟩ ?_ ?_
 ·exact (FLe.cv [⟨102,some 2,0+1,⟨0,.own,36,5,[[.int .i64 0,.int .i64 0,.int .i64 0,.nil,.nil]]⟩⟩,⟨105,some 5,0+1,⟨0,.own,36,5,[[.int .i64 6,.int .i64 0,.int .i64 0,.nil,.nil]]⟩⟩] zf zd)
 rintro i ⟨hi,hpre⟩;refine zb ?_;refine FW.cond rfl (fun h=>?_) (fun h=>?_)
 ·have hil:i<l.length:=by simpa using h
  clear h;have hyes:=fun r k=>hyes i r k hil hpre;have hnext:US l i=none→∀ q,q<i+1→US l q=none:=fun h q hq=>by
   rcases Nat.lt_succ_iff_lt_or_eq.1 hq with h'|rfl
   ·exact hpre q h'
   ·exact h
  have hat0:=hat0 i;have hat1:=hat1 i;have hall:=hall i;have hnd:(nth l i).k=0→(nth l i).done=false→zK l i=false:=fun h1 h2=>by unfold zK;rw [h2,h1];rfl
  have hndt:(nth l i).done=true→zK l i=true:=fun h2=>by unfold zK;rw [h2];rfl
  have hsB:∀ r k,xM l i r k=(decide (k<i) && decide ((nth l k).p=(nth l i).p) && decide ((nth l k).key=(nth l i).key) && (decide ((nth l k).k=1) == decide (r=0)) && XG l (nth l i).key (nth l i).res (if (nth l k).k=1 then (nth l k).arg else (nth l k).res)):=fun r k=>rfl;obtain ⟨o,hoe⟩:∃ o,nth l i=o:=⟨_,rfl⟩
  rw [hoe] at hyes hat0 hnd hndt;rw [hoe] at hsB;refine zb ?_;rw [hoe];skip;refine zP (fun h1=>?_) (fun h1=>?_)
  ·refine zb ?_;refine ⟨i+1,⟨by omega,hnext ?_⟩,by omega,(FLe.cv [⟨102,some 102,0,⟨0,.own,36,5,[[.int .i64 0,.int .i64 0,.int .i64 0,.nil,.nil]]⟩⟩,⟨105,some 105,0,⟨0,.own,36,5,[[.int .i64 6,.int .i64 0,.int .i64 0,.nil,.nil]]⟩⟩] zf zd)⟩;exact hat0 (.inl (by simpa using h1))
  have hk0:o.k=0:=by simpa using h1
  refine zb ?_;rw [hoe];skip;cases hdn:o.done with
  | false =>
   refine zb ?_;refine ⟨i+1,⟨by omega,hnext ?_⟩,by omega,(FLe.cv [⟨102,some 102,0,⟨0,.own,36,5,[[.int .i64 0,.int .i64 0,.int .i64 0,.nil,.nil]]⟩⟩,⟨105,some 105,0,⟨0,.own,36,5,[[.int .i64 6,.int .i64 0,.int .i64 0,.nil,.nil]]⟩⟩] zf zd)⟩;exact hat0 (.inr (hnd hk0 hdn))
  | true =>
  have hyes:=fun r k=>hyes r k (hndt hdn) hk0;refine zb ?_;refine FW.loop (fun r:Nat=>⟨[(0,.list 8 (l.map OpV.fv)),(2,.ptr 102 0 0 0),(5,.ptr 105 0 0 0),(6,.int .i64 i),(7,.int .i64 r)],[(102,⟨0,.own,36,5,[[.int .i64 0,.int .i64 0,.int .i64 0,.nil,.nil]]⟩),(105,⟨0,.own,36,5,[[.int .i64 6,.int .i64 0,.int .i64 0,.nil,.nil]]⟩)]⟩) (fun r=>r≤2∧(1≤r→∀ m,m<l.length→(zK l m && xM l i 0 m)=false)∧(2≤r→∀ m,m<l.length→(zK l m && xM l i 1 m)=false)) (fun r=>2 - r) 0 ⟨Nat.zero_le _,by omega,by omega⟩ ?_ ?_
  ·exact (FLe.cv [⟨102,some 102,0,⟨0,.own,36,5,[[.int .i64 0,.int .i64 0,.int .i64 0,.nil,.nil]]⟩⟩,⟨105,some 105,0,⟨0,.own,36,5,[[.int .i64 6,.int .i64 0,.int .i64 0,.nil,.nil]]⟩⟩] zf zd)
  rintro r ⟨hr,hr1,hr2⟩;refine zb ?_;refine FW.cond rfl (fun h=>?_) (fun h=>?_)
  ·have hrl:r<2:=by simp at h;omega
   clear h;obtain ⟨cl,hcl⟩:∃ cl:Int,nth [9,10] r=cl:=⟨_,rfl⟩
   have hcl2:cl=9+(r:Int):=by
    have:r=0∨r=1:=by omega
    rcases this with rfl|rfl <;> (rw [← hcl];rfl)
   have hll:([9,10]:List Int).length=2:=rfl;refine zb ?_;refine FW.loop (fun k:Nat=>⟨[(0,.list 8 (l.map OpV.fv)),(2,.ptr 102 0 0 0),(5,.ptr 105 0 0 0),(6,.int .i64 i),(7,.int .i64 r),(8,.int .i64 k)],[(102,⟨0,.own,36,5,[[.int .i64 0,.int .i64 0,.int .i64 0,.nil,.nil]]⟩),(105,⟨0,.own,36,5,[[.int .i64 6,.int .i64 0,.int .i64 0,.nil,.nil]]⟩)]⟩) (fun k=>k≤i∧∀ q,q<k→(zK l q && xM l i r q)=false) (fun k=>i - k) 0 ⟨Nat.zero_le _,fun i hi=>absurd hi (Nat.not_lt_zero _)⟩ ?_ ?_
   ·exact (FLe.cv [⟨102,some 102,0,⟨0,.own,36,5,[[.int .i64 0,.int .i64 0,.int .i64 0,.nil,.nil]]⟩⟩,⟨105,some 105,0,⟨0,.own,36,5,[[.int .i64 6,.int .i64 0,.int .i64 0,.nil,.nil]]⟩⟩] zf zd)
   rintro k ⟨hk,hpre3⟩;refine zb ?_;refine FW.cond rfl (fun h=>?_) (fun h=>?_)
   ·have hki:k<i:=by simpa using h
    clear h;have hyes:=hyes r k (by
     have:r=0∨r=1:=by omega
     rcases this with rfl|rfl
     ·exact .inl rfl
     ·exact .inr ⟨rfl,hr1 za⟩) za hpre3
    rw [← hcl2] at hyes;have hnext3:(zK l k && xM l i r k)=false→∀ q,q<k+1→(zK l q && xM l i r q)=false:=fun h q hq=>by
     rcases Nat.lt_succ_iff_lt_or_eq.1 hq with h'|rfl
     ·exact hpre3 q h'
     ·exact h
    have hkn:k<l.length:=by omega
    have hinck:=hinc k hkn;have hsb:=hsB r k;obtain ⟨p,hpe⟩:∃ p,nth l k=p:=⟨_,rfl⟩
    rw [hpe] at hsb;generalize zK l k=ik at hinck hyes hnext3;rw [decide_eq_true hki,Bool.true_and] at hsb;refine zb ?_;refine zS hinck (by repeat (first|exact zu.nil|refine zu.cons zm ?_)) rfl rfl ?_;cases ik with
    | false =>
     refine zQ ?_;refine ⟨by kernel_rfl,?_⟩;refine zb ?_;refine ⟨k+1,⟨by omega,hnext3 ?_⟩,by omega,(FLe.cv [⟨102,some 102,0,⟨0,.own,36,5,[[.int .i64 0,.int .i64 0,.int .i64 0,.nil,.nil]]⟩⟩,⟨105,some 105,0,⟨0,.own,36,5,[[.int .i64 6,.int .i64 0,.int .i64 0,.nil,.nil]]⟩⟩] zf zd)⟩;rfl
    | true =>
    rw [Bool.true_and] at hyes hnext3;refine zQ ?_;rw [hpe,hoe];refine yz (fun h3=>?_) (fun h3=>?_)
    ·refine zp ?_;refine ⟨by kernel_rfl,?_⟩;refine zb ?_;refine ⟨k+1,⟨by omega,hnext3 ?_⟩,by omega,(FLe.cv [⟨102,some 102,0,⟨0,.own,36,5,[[.int .i64 0,.int .i64 0,.int .i64 0,.nil,.nil]]⟩⟩,⟨105,some 105,0,⟨0,.own,36,5,[[.int .i64 6,.int .i64 0,.int .i64 0,.nil,.nil]]⟩⟩] zf zd)⟩;rw [hsb,decide_eq_false (show ¬ p.p=o.p by simpa using h3)];simp
    rw [decide_eq_true (show p.p=o.p by simpa using h3),Bool.true_and] at hsb;refine zp ?_;rw [hpe,hoe];refine yz (fun h4=>?_) (fun h4=>?_)
    ·refine zp ?_;refine ⟨by kernel_rfl,?_⟩;refine zb ?_;refine ⟨k+1,⟨by omega,hnext3 ?_⟩,by omega,(FLe.cv [⟨102,some 102,0,⟨0,.own,36,5,[[.int .i64 0,.int .i64 0,.int .i64 0,.nil,.nil]]⟩⟩,⟨105,some 105,0,⟨0,.own,36,5,[[.int .i64 6,.int .i64 0,.int .i64 0,.nil,.nil]]⟩⟩] zf zd)⟩;rw [hsb,decide_eq_false (show ¬ p.key=o.key by simpa using h4)];simp
    rw [decide_eq_true (show p.key=o.key by simpa using h4),Bool.true_and] at hsb;refine zp ?_;rw [hpe];skip;refine ⟨by kernel_rfl,?_⟩;have hc9:decide ((r:Int)=0)=decide (r=0):=decide_eq_decide.2 za;rw [hc9];refine FW.cond rfl (fun h5=>?_) (fun h5=>?_)
    ·refine zb ?_;refine ⟨k+1,⟨by omega,hnext3 ?_⟩,by omega,(FLe.cv [⟨102,some 102,0,⟨0,.own,36,5,[[.int .i64 0,.int .i64 0,.int .i64 0,.nil,.nil]]⟩⟩,⟨105,some 105,0,⟨0,.own,36,5,[[.int .i64 6,.int .i64 0,.int .i64 0,.nil,.nil]]⟩⟩] zf zd)⟩;rw [hsb,show (decide (p.k=1) == decide (r=0))=false by simpa using h5,Bool.false_and]
    rw [show (decide (p.k=1) == decide (r=0))=true by simpa using h5,Bool.true_and] at hsb;have hkr:decide (p.k=1)=decide (r=0):=by simpa using h5
    refine zb ?_;rw [hpe];skip;refine FW.cond rfl (fun h7=>?_) (fun h7=>?_)
    ·have h7:p.k=1:=by
      have:r=0:=by simp at h7;omega
      rw [decide_eq_true this] at hkr;simpa using hkr
     rw [if_pos h7] at hsb;have hold:=hol o.key o.res p.arg;generalize XG l o.key o.res p.arg=ob at hold hsb;refine zb ?_;rw [hpe];refine zQ ?_;rw [hoe];skip;refine Uk hold (by repeat (first|exact zu.nil|refine zu.cons zm ?_)) rfl rfl ?_;refine zp ?_;refine ⟨by kernel_rfl,?_⟩;refine zb ?_;refine FW.cond rfl (fun h6=>?_) (fun h6=>?_)
     ·rw [hyes (by rw [hsb,h6])];refine ZQ ?_;refine yK (es:=([9,10]:List Int).map zD) rfl rfl rfl (by refine yT.int rfl rfl ?_;refine yT.int rfl rfl ?_;exact yT.nil) rfl rfl rfl rfl rfl ?_;refine ZQ ?_;rw [hcl];skip;rw [hoe];skip;refine yK (es:=[yp k,yp i]) rfl rfl rfl (by refine yT.int rfl rfl ?_;refine yT.int rfl rfl ?_;exact yT.nil) rfl rfl rfl rfl rfl ?_;refine zb ?_;exact FW.ret ⟨.inl rfl,.sh (.cons (zL rfl rfl rfl rfl rfl rfl zg) (.cons (.tmp 3 rfl rfl) .nil)) rfl rfl⟩
     ·refine zb ?_;refine ⟨k+1,⟨by omega,hnext3 ?_⟩,by omega,(FLe.cv [⟨102,some 102,0,⟨0,.own,36,5,[[.int .i64 0,.int .i64 0,.int .i64 0,.nil,.nil]]⟩⟩,⟨105,some 105,0,⟨0,.own,36,5,[[.int .i64 6,.int .i64 0,.int .i64 0,.nil,.nil]]⟩⟩] zf zd)⟩;rw [hsb,h6]
    ·have h7:¬ p.k=1:=fun q=>by
      have h8:¬ r=0:=fun e=>by rw [e] at h7;simp at h7
      rw [decide_eq_false h8,decide_eq_true q] at hkr;cases hkr
     rw [if_neg h7] at hsb;have hold:=hol o.key o.res p.res;generalize XG l o.key o.res p.res=ob at hold hsb;refine zQ ?_;rw [hoe];skip;refine Uk hold (by repeat (first|exact zu.nil|refine zu.cons zm ?_)) rfl rfl ?_;refine zp ?_;refine ⟨by kernel_rfl,?_⟩;refine zb ?_;refine FW.cond rfl (fun h6=>?_) (fun h6=>?_)
     ·rw [hyes (by rw [hsb,h6])];refine ZQ ?_;refine yK (es:=([9,10]:List Int).map zD) rfl rfl rfl (by refine yT.int rfl rfl ?_;refine yT.int rfl rfl ?_;exact yT.nil) rfl rfl rfl rfl rfl ?_;refine ZQ ?_;rw [hcl];skip;rw [hoe];skip;refine yK (es:=[yp k,yp i]) rfl rfl rfl (by refine yT.int rfl rfl ?_;refine yT.int rfl rfl ?_;exact yT.nil) rfl rfl rfl rfl rfl ?_;refine zb ?_;exact FW.ret ⟨.inl rfl,.sh (.cons (zL rfl rfl rfl rfl rfl rfl zg) (.cons (.tmp 3 rfl rfl) .nil)) rfl rfl⟩
     ·refine zb ?_;refine ⟨k+1,⟨by omega,hnext3 ?_⟩,by omega,(FLe.cv [⟨102,some 102,0,⟨0,.own,36,5,[[.int .i64 0,.int .i64 0,.int .i64 0,.nil,.nil]]⟩⟩,⟨105,some 105,0,⟨0,.own,36,5,[[.int .i64 6,.int .i64 0,.int .i64 0,.nil,.nil]]⟩⟩] zf zd)⟩;rw [hsb,h6]
   ·have hme:k=i:=by simp at h;omega
    subst hme;refine zb ?_;refine ⟨r+1,⟨by omega,fun _=>?_,fun h=>?_⟩,by omega,?_⟩
    ·have:r=0∨r=1:=by omega
     rcases this with rfl|rfl
     ·exact hall 0 hpre3
     ·exact hr1 za
    ·have:r=1:=by omega
     subst this;exact hall 1 hpre3
    ·exact (FLe.cv [⟨102,some 102,0,⟨0,.own,36,5,[[.int .i64 0,.int .i64 0,.int .i64 0,.nil,.nil]]⟩⟩,⟨105,some 105,0,⟨0,.own,36,5,[[.int .i64 6,.int .i64 0,.int .i64 0,.nil,.nil]]⟩⟩] zf zd)
  ·have hre:r=2:=by simp at h;omega
   subst hre;refine zb ?_;refine ⟨i+1,⟨by omega,hnext ?_⟩,by omega,(FLe.cv [⟨102,some 102,0,⟨0,.own,36,5,[[.int .i64 0,.int .i64 0,.int .i64 0,.nil,.nil]]⟩⟩,⟨105,some 105,0,⟨0,.own,36,5,[[.int .i64 6,.int .i64 0,.int .i64 0,.nil,.nil]]⟩⟩] zf zd)⟩;exact hat1 (hr1 za) (hr2 za)
 ·have hje:i=l.length:=by simp at h;omega
  subst hje;rw [hno hpre];refine zb ?_;exact FW.ret ⟨.inl rfl,.sh (.cons (zL rfl rfl rfl rfl rfl rfl zg) (.cons (.tmp 3 rfl rfl) .nil)) rfl rfl⟩
theorem zjU {l:List OpV} {i:Nat} (h:WY l=some i):zch l=i∧i<l.length:=by
 refine ⟨by unfold zch;rw [h],xt (List.mem_of_find?_eq_some h)⟩
theorem zjd {l:List OpV} {i w1 w2 i' : Nat} (h:xX l i=some (w1,w2,i')):i'=i∧(nth l w2).key=(nth l i).key:=by
 unfold xX at h;obtain ⟨w,_,h⟩:=Option.bind_eq_some_iff.1 h;obtain ⟨q,hq,e⟩:=Option.map_eq_some_iff.1 h;injection e with e1 e2
 injection e2 with e2 e3
 have hb:=List.find?_some hq;unfold WF at hb;simp only [Bool.and_eq_true,decide_eq_true_eq] at hb;rw [← e2];exact ⟨e3.symm,hb.1.1.1.2⟩
theorem zmO {l:List OpV} {w1 w2 i:Nat} (h:Ug l=some (w1,w2,i)):(nth l w2).key=(nth l i).key:=by
 unfold Ug at h;obtain ⟨_,a,_,_,h,_⟩:=List.findSome?_eq_some_iff.1 h;obtain ⟨e,h⟩:=zjd h;rw [e];exact h
theorem zmK {l:List OpV} {w i:Nat} (h:Ua l=some (w,i)):(nth l w).key=(nth l i).key:=by
 unfold Ua at h;obtain ⟨_,a,_,_,h,_⟩:=List.findSome?_eq_some_iff.1 h;unfold Zp at h;split at h
 ·cases h
 ·obtain ⟨q,hq,e⟩:=Option.map_eq_some_iff.1 h;injection e with e1 e2
  have hb:=List.find?_some hq;unfold WA at hb;simp only [Bool.and_eq_true,decide_eq_true_eq] at hb;rw [← e1,← e2];exact hb.1.2
theorem ziU (l:List OpV) (T:List Int):xu (fun x=>!zK l x.toNat) T=T.filter fun x=>zK l x.toNat:=by unfold xu;simp
theorem zdY (l:List OpV) (hl:l.length≤14):zX Try.prog 27 [.list 8 (l.map OpV.fv)] .sh (zj3 l):=by
 have hdm:=VB l za;have hth:=zfF l za;have hed:=zX.sh_of_ow (zeK l za);have hov:=zfD l za;have hit:=zfC l za;have hinc:=fun i hi=>xK l i za hi;obtain ⟨R,hR⟩:∃ R,zj3 l=R:=⟨_,rfl⟩
 have hRh:R.hand=none:=by rw [← hR];unfold zj3;split <;> rfl
 rw [hR];have hR1:Zj l≠0→R=.tup [.agg [.int .i64 0,.int .i64 0,.int .i64 0,.nil,.nil],.int .i64 (Zj l)]:=fun h=>by rw [← hR];unfold zj3;rw [if_pos h]
 have hR2:Zj l=0→R=.tup [.agg (ZT l),.int .i64 0]:=fun h=>by rw [← hR];unfold zj3;rw [if_neg (by simpa using h)]
 have hdom:Zj l=0→Yi l:=fun h=>by
  unfold Zj at h;split at h
  ·rename_i h1;exact absurd h h1
  ·split at h
   ·assumption
   ·cases h
 clear hR;obtain ⟨e,he⟩:∃ e,Zj l=e:=⟨_,rfl⟩
 rw [he] at hdm hR1 hR2 hdom;refine zX.of_body (c:=(xx Try.prog zE zt 127)) ⟨Try.func27,rfl,Try.ntmps27,by kernel_rfl⟩ zH zw hRh ?_;change FW _ _ _ ⟨[(0,.list 8 (l.map OpV.fv))],[]⟩;refine zb ?_;refine zS hdm (by repeat (first|exact zu.nil|refine zu.cons zm ?_)) rfl rfl ?_;refine zb ?_;refine FW.cond rfl (fun h=>?_) (fun h=>?_)
 ·rw [hR1 (by simpa using h)];refine zb ?_;exact FW.ret ⟨.inl rfl,.sh (.cons (zL rfl rfl rfl rfl rfl rfl zg) (.cons (.tmp 3 rfl rfl) .nil)) rfl rfl⟩
 have he0:e=0:=by simpa using h
 subst he0;have hR2:=hR2 rfl;have hd:=hdom rfl;have hov:=hov hd;have hit:=hit hd;clear h hR1 hdom;refine zb ?_;refine zS hth (by repeat (first|exact zu.nil|refine zu.cons zm ?_)) rfl rfl ?_;refine zb ?_;cases ht:WY l with
 | some i =>
  obtain ⟨hti,hil⟩:=zjU ht;rw [hti,hR2];unfold ZT;rw [ht];dsimp only;unfold YS;refine FW.condT (congrArg FV.bool (decide_eq_true za)) ?_;obtain ⟨o,ho⟩:∃ o,nth l i=o:=⟨_,rfl⟩
  refine ZQ ?_;rw [ho];skip;refine yK (es:=[yp i]) rfl rfl rfl (by refine yT.int rfl rfl ?_;exact yT.nil) rfl rfl rfl rfl rfl ?_;refine zb ?_;exact FW.ret ⟨.inl rfl,.sh (.cons (zL rfl rfl rfl rfl rfl rfl zg) (.cons (.tmp 3 rfl rfl) .nil)) rfl rfl⟩
 | none =>
 have hti:zch l = -1:=by unfold zch;rw [ht]
 rw [hti];refine FW.condF rfl ?_;have hov:=hov ht;have hEl:=ZM l l.length;have hE2:=Nat.mul_le_mul hl hl;have hprm:=zhX hd;have hlabE:=zfi hd;have hEdl:(zaI l).length≤196:=Nat.le_trans hEl hE2;have hpr:=zX.sh_of_ow (zfz (zaI l) za);have hlb:=fun a b=>zcD (zaI l) a b za;have hcy:=zgZ l.length (prC (zaI l)) za (by unfold prC;rw [List.length_map];omega);have hto:=zjn l.length (prC (zaI l)) za (by unfold prC;rw [List.length_map];omega);rw [XI hprm,show xE (edC l) l.length=Wz l from rfl] at hcy;rw [zbE hprm] at hto;obtain ⟨E,hE⟩:∃ E,zaI l=E:=⟨_,rfl⟩
 rw [hE] at hed hov hit hpr hlb hcy hto hlabE;obtain ⟨PP,hPP⟩:∃ PP,prC E=PP:=⟨_,rfl⟩
 rw [hPP] at hpr hcy hto;refine zb ?_;refine yl hed (by repeat (first|exact zu.nil|refine zu.cons zm ?_)) rfl rfl ?_;refine zb ?_;refine yl hpr (by repeat (first|exact zu.nil|refine zu.cons zm ?_)) rfl rfl ?_;refine yl hcy (by repeat (first|exact zu.nil|refine zu.cons zm ?_)) rfl rfl ?_;have hcl:=zdw l;have hce:Wz l≠[]→∀ i,i<(Wz l).length→∃ a b:Nat,nth (Wz l) i=a∧nth (Wz l) ((i+1) % (Wz l).length)=b∧(a,b)∈edC l:=zeH (Yr l);by_cases hc:Wz l=[]
 ·rw [hc];refine zb ?_;refine yl hov (by repeat (first|exact zu.nil|refine zu.cons zm ?_)) rfl rfl ?_;unfold zcT;cases ho:Ug l with
  | some w=>
   obtain ⟨w1,w2,i⟩:=w;rw [hR2];unfold ZT;rw [ht,ho];dsimp only;rw [if_neg (by simpa using hc),zmO ho];unfold YS;generalize Zr l w1 w2++Zr l w2 i=X;rcases zdR 3 (X.map EdC.fv) with hX|hX <;> rw [hX]
   ·refine zb ?_;exact FW.ret ⟨.inl rfl,.sh (.cons (zL rfl rfl rfl rfl rfl rfl zg) (.cons (.tmp 3 rfl rfl) .nil)) rfl rfl⟩
   ·refine zb ?_;exact FW.ret ⟨.inl rfl,.sh (.cons (zL rfl rfl rfl rfl rfl rfl zg) (.cons (.tmp 3 rfl rfl) .nil)) rfl rfl⟩
  | none =>
  refine zb ?_;refine yl hit (by repeat (first|exact zu.nil|refine zu.cons zm ?_)) rfl rfl ?_;unfold zcS;cases hi:Ua l with
  | some w=>
   obtain ⟨w,i⟩:=w;rw [hR2];unfold ZT;rw [ht,ho,hi];dsimp only;rw [if_neg (by simpa using hc),zmK hi];unfold YS;generalize Zr l w i=X;rcases zdR 3 (X.map EdC.fv) with hX|hX <;> rw [hX]
   ·refine zb ?_;exact FW.ret ⟨.inl rfl,.sh (.cons (zL rfl rfl rfl rfl rfl rfl zg) (.cons (.tmp 3 rfl rfl) .nil)) rfl rfl⟩
   ·refine zb ?_;exact FW.ret ⟨.inl rfl,.sh (.cons (zL rfl rfl rfl rfl rfl rfl zg) (.cons (.tmp 3 rfl rfl) .nil)) rfl rfl⟩
  | none =>
  obtain ⟨ht1,hO⟩:=ZZ (Yr l) hc;rw [ht1] at hto;unfold zpr at hto;dsimp only at hto;rw [hR2];unfold ZT;rw [ht,ho,hi];dsimp only;rw [if_neg (by simpa using hc)];unfold zoO;rw [ziU];generalize yM l.length (edC l)=TT at hto hO;have htl:=hO.len;refine zb ?_;refine yl hpr (by repeat (first|exact zu.nil|refine zu.cons zm ?_)) rfl rfl ?_;refine yl hto (by repeat (first|exact zu.nil|refine zu.cons zm ?_)) rfl rfl ?_;refine zb ?_;refine FW.le ?_ (FLe.toH (i:=5) rfl);refine FW.loop (fun q:Nat=>⟨[(0,.list 8 (l.map OpV.fv)),(2,.ptr 102 0 0 0),(5,.ptr 103 0 0 0),(12,.list 1 (TT.map zD)),(14,.int .i64 q)],[(102,⟨0,.own,36,5,[[.int .i64 0,.int .i64 0,.int .i64 0,.nil,.nil]]⟩),(103,⟨0,.hrow,36,5,[[.int .i64 5,.int .i64 0,.int .i64 0,.own 105 0 0 ((TT.take q).filter fun x=>zK l x.toNat).length,.nil]]⟩),(105,⟨0,.own,3,1,((TT.take q).filter fun x=>zK l x.toNat).map zD⟩)]⟩) (fun q=>q≤TT.length) (fun q=>TT.length - q) 0 (Nat.zero_le _) ?_ ?_
  ·show FLe _ ⟨[(0,.list 8 (l.map OpV.fv)),(2,.ptr 102 0 0 0),(5,.ptr 103 0 0 0),(12,.list 1 (TT.map zD)),(14,.int .i64 0)],[(102,⟨0,.own,36,5,[[.int .i64 0,.int .i64 0,.int .i64 0,.nil,.nil]]⟩),(103,⟨0,.hrow,36,5,[[.int .i64 5,.int .i64 0,.int .i64 0,.own 105 0 0 0,.nil]]⟩),(105,⟨0,.own,3,1,[]⟩)]⟩;exact (FLe.cv [⟨102,some 2,0+1,⟨0,.own,36,5,[[.int .i64 0,.int .i64 0,.int .i64 0,.nil,.nil]]⟩⟩,⟨103,some 5,0+1,⟨0,.hrow,36,5,[[.int .i64 5,.int .i64 0,.int .i64 0,.own 105 0 0 0,.nil]]⟩⟩,⟨105,none,0,⟨0,.own,3,1,[]⟩⟩] zf zd)
  intro q hq;have hfs:∀ h:q<TT.length,(TT.take (q+1)).filter (fun x=>zK l x.toNat)=(TT.take q).filter (fun x=>zK l x.toNat)++if zK l (nth TT q).toNat=true then [nth TT q] else []:=fun h=>by
   rw [List.take_succ_eq_append_getElem h,List.filter_append,nth_eq h];congr 1;by_cases hb:zK l (TT[q]).toNat=true
   ·rw [if_pos hb,List.filter_cons_of_pos (by exact hb)];rfl
   ·rw [if_neg hb,List.filter_cons_of_neg (by exact hb)];rfl
  have hfl:((TT.take q).filter fun x=>zK l x.toNat).length≤q:=Nat.le_trans (List.length_filter_le _ _) (by rw [List.length_take];omega);have hfe:q=TT.length→TT.filter (fun x=>zK l x.toNat)=(TT.take q).filter fun x=>zK l x.toNat:=fun e=>by rw [e,List.take_length]
  generalize (TT.take q).filter (fun x=>zK l x.toNat)=FF at hfs hfl hfe ⊢;refine zb ?_;refine FW.cond rfl (fun h=>?_) (fun h=>?_)
  ·have hlt:q<TT.length:=by simpa using h
   clear h hfe;have hfs:=hfs hlt;have hrg:=hO.rng _ (zC hlt);obtain ⟨u,hu⟩:∃ u:Nat,nth TT q=u:=⟨(nth TT q).toNat,by omega⟩
   rw [hu] at hrg;rw [hu,Int.toNat_natCast] at hfs;have hincu:=hinc u za;generalize zK l u=iu at hincu hfs;refine zb ?_;rw [hu];skip;refine zS hincu (by repeat (first|exact zu.nil|refine zu.cons zm ?_)) rfl rfl ?_;refine zb ?_;refine FW.cond rfl (fun hb=>?_) (fun hb=>?_)
   ·rw [if_pos hb] at hfs;refine zQ ?_;refine VE rfl rfl rfl rfl rfl rfl rfl ?_;refine zp ?_;rw [hu];skip;refine Ul (d:=0) rfl rfl ⟨_,_,_,rfl⟩ (zR rfl zg) (fun i v n e=>by injection e with e1 e2 e3 e4;subst e1;subst e2;exact zR rfl zg) rfl rfl rfl rfl (by show 3<5;decide) rfl rfl ?_;refine zN.nil ⟨by kernel_rfl,?_⟩;refine zb ?_;refine ⟨q+1,by omega,by omega,?_⟩;rw [hfs,show (FF++[(u:Int)]).length=FF.length+1 by simp,List.map_append];exact (FLe.cv [⟨102,some 102,0,⟨0,.own,36,5,[[.int .i64 0,.int .i64 0,.int .i64 0,.nil,.nil]]⟩⟩,⟨103,some 103,0,⟨0,.hrow,36,5,[[.int .i64 5,.int .i64 0,.int .i64 0,.own 105 0 0 (FF.length+1),.nil]]⟩⟩,⟨105,some 123,0+1,⟨0,.own,3,1,FF.map zD++[(u:Int)].map zD⟩⟩] zf zd)
   ·rw [if_neg (by rw [hb];decide),List.append_nil] at hfs;refine zb ?_;refine ⟨q+1,by omega,by omega,?_⟩;rw [hfs];exact (FLe.cv [⟨102,some 102,0,⟨0,.own,36,5,[[.int .i64 0,.int .i64 0,.int .i64 0,.nil,.nil]]⟩⟩,⟨103,some 103,0,⟨0,.hrow,36,5,[[.int .i64 5,.int .i64 0,.int .i64 0,.own 105 0 0 FF.length,.nil]]⟩⟩,⟨105,some 105,0,⟨0,.own,3,1,FF.map zD⟩⟩] zf zd)
  ·have hqe:q=TT.length:=by simp at h;omega
   rw [hfe hqe];refine FW.le ?_ (FLe.deep1C (q:=5) (r:=[.int .i64 5,.int .i64 0,.int .i64 0,.own 105 0 0 FF.length,.nil]) (r2:=[.int .i64 5,.int .i64 0,.int .i64 0,.list 1 (FF.map zD),.nil]) (es:=FF.map zD) 103 105 3 zg rfl rfl (by rw [List.length_map];rfl) rfl rfl rfl);refine zb ?_;exact FW.ret ⟨.inl rfl,.sh (.cons (zL rfl rfl rfl rfl rfl rfl zg) (.cons (.tmp 3 rfl rfl) .nil)) rfl rfl⟩
 ·have hcpos:=List.length_pos_iff.2 hc;rw [hR2];unfold ZT;rw [ht];dsimp only;rw [if_pos hc];clear hov hit hto hR2 hdm hth;obtain ⟨c,hcc⟩:∃ c,Wz l=c:=⟨_,rfl⟩
  rw [hcc] at hcl hce hcpos hc ⊢;have hce:=hce hc;refine zb ?_;refine FW.condT (congrArg FV.bool (decide_eq_true za)) ?_;refine zb ?_;refine FW.le ?_ (FLe.toH (i:=5) rfl);refine FW.loop (fun i:Nat=>⟨[(0,.list 8 (l.map OpV.fv)),(2,.ptr 102 0 0 0),(5,.ptr 103 0 0 0),(7,.list 3 (E.map EdC.fv)),(8,.list 1 (c.map zD)),(9,.int .i64 i)],[(102,⟨0,.own,36,5,[[.int .i64 0,.int .i64 0,.int .i64 0,.nil,.nil]]⟩),(103,⟨0,.hrow,36,5,[[.int .i64 5,.int .i64 6,.int .i64 0,.nil,.own 105 0 0 (ZF l c i).length]]⟩),(105,⟨0,.own,46,3,(ZF l c i).map EdC.fv⟩)]⟩) (fun i=>i≤c.length) (fun i=>c.length - i) 0 (Nat.zero_le _) ?_ ?_
  ·exact (FLe.cv [⟨102,some 2,0+1,⟨0,.own,36,5,[[.int .i64 0,.int .i64 0,.int .i64 0,.nil,.nil]]⟩⟩,⟨103,some 5,0+1,⟨0,.hrow,36,5,[[.int .i64 5,.int .i64 6,.int .i64 0,.nil,.own 105 0 0 0]]⟩⟩,⟨105,none,0,⟨0,.own,46,3,[]⟩⟩] zf zd)
  intro q hq;have hcs:ZF l c (q+1)=ZF l c q++[((nth c q).toNat,(nth c ((q+1) % c.length)).toNat,ziW l (nth c q).toNat (nth c ((q+1) % c.length)).toNat)]:=by
   unfold ZF;rw [List.range_succ,List.map_append];rfl
  have hcq:(ZF l c q).length=q:=by simp [ZF]
  have hcA:q=c.length→ZF l c c.length=ZF l c q:=fun e=>by rw [e]
  have hce:=hce q;generalize ZF l c q=CC at hcs hcq hcA ⊢;refine zb ?_;refine FW.cond rfl (fun h=>?_) (fun h=>?_)
  ·have hlt:q<c.length:=by simpa using h
   clear h hcA;obtain ⟨x,y,hx,hy,hxy⟩:=hce hlt;obtain ⟨m,hm⟩:∃ m,(q+1) % c.length=m:=⟨_,rfl⟩
   have hml:m<c.length:=by rw [← hm];exact Nat.mod_lt _ za
   rw [hm] at hy hcs;rw [hx,hy,Int.toNat_natCast,Int.toNat_natCast] at hcs;have hlab:=hlb x y;rw [hlabE x y hxy] at hlab;generalize ziW l x y=z at hlab hcs;refine zQ ?_;refine VE rfl rfl rfl rfl rfl rfl rfl ?_;refine zp ?_;rw [show (q+1) % ((c.length:Int)).natAbs=m by rw [Int.natAbs_natCast];exact hm];refine zp ?_;rw [hx,hy];refine Uk hlab (by repeat (first|exact zu.nil|refine zu.cons zm ?_)) rfl rfl ?_;refine zp ?_;refine Ul (d:=0) rfl rfl ⟨_,_,_,rfl⟩ (zR rfl zg) (fun i v n e=>by injection e with e1 e2 e3 e4;subst e1;subst e2;exact zR rfl zg) rfl rfl rfl rfl (by show 4<5;decide) rfl rfl ?_;refine zN.nil ⟨by kernel_rfl,?_⟩;refine zb ?_;refine ⟨q+1,by omega,by omega,?_⟩;rw [hcs,show (CC++[(x,y,z)]).length=CC.length+1 by simp,List.map_append];exact (FLe.cv [⟨102,some 102,0,⟨0,.own,36,5,[[.int .i64 0,.int .i64 0,.int .i64 0,.nil,.nil]]⟩⟩,⟨103,some 103,0,⟨0,.hrow,36,5,[[.int .i64 5,.int .i64 6,.int .i64 0,.nil,.own 105 0 0 (CC.length+1)]]⟩⟩,⟨105,some 74,0+1,⟨0,.own,46,3,CC.map EdC.fv++[(x,y,z)].map EdC.fv⟩⟩] zf zd)
  ·have hqe:q=c.length:=by simp at h;omega
   rw [hcA hqe];refine FW.le ?_ (FLe.deep1C (q:=5) (r:=[.int .i64 5,.int .i64 6,.int .i64 0,.nil,.own 105 0 0 CC.length]) (r2:=[.int .i64 5,.int .i64 6,.int .i64 0,.nil,.list 3 (CC.map EdC.fv)]) (es:=CC.map EdC.fv) 103 105 4 zg rfl rfl (by rw [List.length_map];rfl) rfl rfl rfl);refine zb ?_;exact FW.ret ⟨.inl rfl,.sh (.cons (zL rfl rfl rfl rfl rfl rfl zg) (.cons (.tmp 3 rfl rfl) .nil)) rfl rfl⟩
theorem zgW (l:List OpV) (hl:l.length≤14):zX Try.prog 27 [.list 8 (l.map OpV.fv)] .sh (.tup [.agg (zmn l).fv,.int .i64 (Zj l)]):=zX.le (zdY l hl) (zkm l) rfl
theorem zdU (l:List OpV) (hl:l.length≤14):zX Try.prog 28 [.list 8 (l.map OpV.fv)] .sh (.tup [.agg (zm8 l).fv,.int .i64 (Zj l)]):=zX.le (zbk l za) (zlY l) rfl
theorem Up (l:List OpV) (hl:l.length≤14) (hin:∀ o∈l,Ve o):zX Try.prog 12 [.list 8 (l.map OpV.fv)] .fr (.bool true):=by
 have h1:=zbf l hl hin;have h2:=zgW l hl;have h3:=Vz l za hin;have h4:=zdU l hl;have hv:=zmo l hl;have hw:=zm9 l;generalize zmn l=V at *;generalize zm8 l=W at *;generalize Zj l=E at *;have s1:=Xj V hv.1 hv.2;have s2:=Xj W hw.1 hw.2;unfold zma.fv at *;refine zX.of_body (c:=(xx Try.prog zE zt 49)) ⟨Try.func12,rfl,Try.ntmps12,by kernel_rfl⟩ zH zw rfl ?_;change FW _ _ _ ⟨[(0,.list 8 (l.map OpV.fv))],[]⟩;refine zb ?_;refine yl h1 (by repeat (first|exact zu.nil|refine zu.cons zm ?_)) rfl rfl ?_;refine zb ?_;refine yl h2 (by repeat (first|exact zu.nil|refine zu.cons zm ?_)) rfl rfl ?_;refine zb ?_;refine yl h3 (by repeat (first|exact zu.nil|refine zu.cons zm ?_)) rfl rfl ?_;refine zb ?_;refine yl h4 (by repeat (first|exact zu.nil|refine zu.cons zm ?_)) rfl rfl ?_;refine zb ?_;refine zP (fun h=>?_) (fun h=>absurd rfl (of_decide_eq_false h));refine zb ?_;refine zP (fun h=>?_) (fun h=>absurd rfl (of_decide_eq_false h));refine zb ?_;refine zS s1 (by repeat (first|exact zu.nil|refine zu.cons zm ?_)) rfl ⟨_,_,rfl,rfl,rfl⟩ ?_;refine zb ?_;refine zS s2 (by repeat (first|exact zu.nil|refine zu.cons zm ?_)) rfl ⟨_,_,rfl,rfl,rfl⟩ ?_;refine zb ?_;exact FW.ret ⟨.inl rfl,zF rfl rfl rfl rfl⟩
theorem VT (l:List Int) (raw:List OpV) (hl:∀ x∈l,I64 x) (hlen:l.length≤9223372036854775807) (hr:∀ o∈raw,Ve o) (hrl:raw.length≤9223372036854775807):zX Try.prog 4 [.list 1 (l.map zD),.list 8 (raw.map OpV.fv)] .fr (.bool true):=by
 have hS:=zf6 l 8 hl hlen (by unfold I64;omega);obtain ⟨si,sn⟩:=zf5 l (most:=8) za za;have hQ:=zdX l 8 hl hlen (by unfold I64;omega);obtain ⟨qi,qn⟩:=zdW l (most:=8) za za;generalize UY l 8=S at *;generalize Xq l 8=Q at *;have s1:=Up S za si;have s2:=Up Q za qi;have s3:=Up (raw.take 6) (by rw [List.length_take];omega) fun o ho=>hr o (List.mem_of_mem_take ho);have hlv:=zfo;obtain ⟨n,hn⟩:∃ n,raw.length=n:=⟨_,rfl⟩
 refine zX.of_body (c:=(xx Try.prog zE zt 26)) ⟨Try.func4,rfl,Try.ntmps4,by kernel_rfl⟩ zH zw rfl ?_;change FW _ _ _ ⟨[(0,.list 1 (l.map zD)),(1,.list 8 (raw.map OpV.fv))],[]⟩;refine zb ?_;refine Wq hS (by repeat (first|exact zu.nil|refine zu.cons zm ?_)) (List.length_map _) rfl rfl rfl ?_;refine zn.le ?_ (FLe.share 6 rfl rfl (by rw [List.length_map]));refine zS s1 (by repeat (first|exact zu.nil|refine zu.cons zm ?_)) rfl rfl ?_;refine zb ?_;refine Wq hQ (by repeat (first|exact zu.nil|refine zu.cons zm ?_)) (List.length_map _) rfl rfl ⟨_,_,rfl,rfl,rfl⟩ ?_;refine zn.le ?_ (FLe.share 10 rfl rfl (by rw [List.length_map]));refine zS s2 (by repeat (first|exact zu.nil|refine zu.cons zm ?_)) rfl ⟨_,_,rfl,rfl,rfl⟩ ?_;refine zb ?_;have hcut:[]++List.take ((min ((raw.length:Nat):Int) 6).toNat - 0) (List.drop 0 (List.map OpV.fv raw))=(raw.take 6).map OpV.fv:=by
  rw [List.nil_append,List.drop_zero,← List.map_take,Nat.sub_zero];congr 1;by_cases h:raw.length≤6
  ·rw [show (min ((raw.length:Nat):Int) 6).toNat=raw.length by omega,List.take_length,List.take_of_length_le h]
  ·rw [show (min ((raw.length:Nat):Int) 6).toNat=6 by omega]
 rw [hcut];generalize raw.take 6=R at *;refine zn.le ?_ (FLe.share 20 rfl rfl rfl);refine zS s3 (by repeat (first|exact zu.nil|refine zu.cons zm ?_)) rfl ⟨_,_,rfl,rfl,rfl⟩ ?_;refine zb ?_;refine zS hlv (by repeat (first|exact zu.nil)) rfl ⟨_,_,rfl,rfl,rfl⟩ ?_;refine zb ?_;exact FW.ret ⟨.inl rfl,zF rfl rfl rfl rfl⟩
end Go.Proofs.Ytmnmakhpjgjdaaa
