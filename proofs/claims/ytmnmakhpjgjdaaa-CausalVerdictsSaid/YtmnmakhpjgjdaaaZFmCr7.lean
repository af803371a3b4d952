/-
  Some texts as one: FmCr7, FmCr8, FmCs4, LawCausalVerdicts.
-/
import Derived.Test.YtmnmakhpjgjdaaaZFmCr2
import Derived.Test.YtmnmakhpjgjdaaaZFmCsH
namespace Go.Proofs.Ytmnmakhpjgjdaaa
set_option linter.unusedVariables false
set_option maxHeartbeats 16000000
open Go.RowKit
def UW (l:List OpV) (q:Nat):Option (Nat×Nat×Nat):=if zJ l q=true then ZA l q else none
theorem zdf (l:List OpV):zjN l=(List.range l.length).findSome? (UW l):=xk _ _ _
theorem znc {l:List OpV} {i r k:Nat} (h:xO l i r k=true):k<i:=by
 unfold xO at h;simp only [Bool.and_eq_true,decide_eq_true_eq] at h;exact h.1.1.1.1
theorem zbn (l:List OpV) (hl:l.length≤1000):zV Try.prog 28 [.list 8 (l.map OpV.fv)] .sh (zj6 l):=by
 have hdm:=VD l za;have hinc:=fun i hi=>xM l i za hi;have hol:=fun key v u=>zd4 l key v u za;obtain ⟨R,hR⟩:∃ R,zj6 l=R:=⟨_,rfl⟩
 have hRh:R.hand=none:=by rw [← hR];unfold zj6;split <;> rfl
 rw [hR];have hR1:Zj l≠0→R=.tup [.agg [.int .i64 0,.int .i64 0,.int .i64 0,.nil,.nil],.int .i64 (Zj l)]:=fun h=>by rw [← hR];unfold zj6;rw [if_pos h]
 have hR2:Zj l=0→R=.tup [.agg (VL l),.int .i64 0]:=fun h=>by rw [← hR];unfold zj6;rw [if_neg (by simpa using h)]
 clear hR;obtain ⟨e,he⟩:∃ e,Zj l=e:=⟨_,rfl⟩
 rw [he] at hdm hR1 hR2;have hyes:e=0→∀ i r k,i<l.length→(∀ q,q<i→UW l q=none)→zJ l i=true→(nth l i).k=0→(r=0∨(r=1∧∀ m,m<l.length→(zJ l m && xO l i 0 m)=false))→k<l.length→(∀ m,m<k→(zJ l m && xO l i r m)=false)→(zJ l k && xO l i r k)=true→R=.tup [.agg (YV 6 (9+r) (nth l i).key [k,i] []),.int .i64 0]:=fun h0 i r k h1 h2 h3 h4 h5 h6 h7 h8=>by
  have h9:UW l i=some (r,k,i):=by
   unfold UW ZA;rw [if_pos h3,if_neg (by simpa using h4),Zo,Zo];have hfr:=xm (p:=fun w=>zJ l w && xO l i r w) (l:=List.range l.length) (j:=k) (fun q hq=>by rw [zT za];exact h7 q hq) (by simpa using h6) (by rw [zT h6];exact h8);rw [zT h6] at hfr;rcases h5 with rfl|⟨rfl,h5⟩
   ·rw [hfr]
   ·rw [xQ fun q hq=>by rw [zT (by simpa using hq)];exact h5 q (by simpa using hq),hfr];rfl
  rw [hR2 h0];unfold VL;rw [zdf,xv (j:=i) (fun q hq=>by rw [zT za];exact h2 q hq) (by simpa using h1) (by rw [zT h1];exact h9)]
 have hno:e=0→(∀ i,i<l.length→UW l i=none)→R=.tup [.agg (YV 6 0 0 [] []),.int .i64 0]:=fun h0 h=>by
  rw [hR2 h0];unfold VL;rw [zdf,Za fun i hi=>by rw [zT (by simpa using hi)];exact h i (by simpa using hi)]
 have hat0:∀ i,(nth l i).k≠0∨zJ l i=false→UW l i=none:=fun i h=>by
  unfold UW ZA;rcases h with h|h
  ·rw [if_pos h];split <;> rfl
  ·rw [h];rfl
 have hat1:∀ i,(∀ m,m<l.length→(zJ l m && xO l i 0 m)=false)→(∀ m,m<l.length→(zJ l m && xO l i 1 m)=false)→UW l i=none:=fun i h2 h3=>by
  unfold UW ZA;split
  ·split
   ·rfl
   ·rw [Zo,Zo,xQ fun q hq=>by rw [zT (by simpa using hq)];exact h2 q (by simpa using hq),xQ fun q hq=>by rw [zT (by simpa using hq)];exact h3 q (by simpa using hq)];rfl
  ·rfl
 have hall:∀ i r,(∀ m,m<i→(zJ l m && xO l i r m)=false)→∀ m,m<l.length→(zJ l m && xO l i r m)=false:=fun i r h m _=>by
  rcases Nat.lt_or_ge m i with h1|h1
  ·exact h m h1
  ·cases hs:xO l i r m with
   | false => rw [Bool.and_false]
   | true => have := znc hs; omega
 refine zV.of_body (c:=(xy Try.prog zD zu 134)) ⟨Try.func28,rfl,Try.ntmps28,by kernel_rfl⟩ zF zx hRh ?_;change FW _ _ _ ⟨[(0,.list 8 (l.map OpV.fv))],[]⟩;refine zb ?_;refine zO hdm (by repeat (first|exact zq.nil|refine zq.cons zm ?_)) rfl rfl ?_;refine zb ?_;refine FW.cond rfl (fun h=>?_) (fun h=>?_)
 ·rw [hR1 (by simpa using h)];refine zb ?_;exact FW.ret ⟨.inl rfl,.sh (.cons (zK rfl rfl rfl rfl rfl rfl zg) (.cons (.tmp 3 rfl rfl) .nil)) rfl rfl⟩
 have he0:e=0:=by simpa using h
 subst he0;have hyes:=hyes rfl;have hno:=hno rfl;clear h hR1 hR2;refine zb ?_;refine FW.loop (fun i:Nat=>⟨[(0,.list 8 (l.map OpV.fv)),(2,.ptr 102 0 0 0),(5,.ptr 105 0 0 0),(6,.int .i64 i)],[(102,⟨0,.own,36,5,[[.int .i64 0,.int .i64 0,.int .i64 0,.nil,.nil]]⟩),(105,⟨0,.own,36,5,[[.int .i64 6,.int .i64 0,.int .i64 0,.nil,.nil]]⟩)]⟩) (fun i=>i≤l.length∧∀ q,q<i→UW l q=none) (fun i=>l.length - i) 0 ⟨Nat.zero_le _,fun i hi=>absurd hi (Nat.not_lt_zero _)⟩ ?_ ?_
 ·exact (FLe.cv [⟨102,some 2,0+1,⟨0,.own,36,5,[[.int .i64 0,.int .i64 0,.int .i64 0,.nil,.nil]]⟩⟩,⟨105,some 5,0+1,⟨0,.own,36,5,[[.int .i64 6,.int .i64 0,.int .i64 0,.nil,.nil]]⟩⟩] zf zd)
 rintro i ⟨hi,hpre⟩;refine zb ?_;refine FW.cond rfl (fun h=>?_) (fun h=>?_)
 ·have hil:i<l.length:=by simpa using h
  clear h;have hyes:=fun r k=>hyes i r k hil hpre;have hnext:UW l i=none→∀ q,q<i+1→UW l q=none:=fun h q hq=>by
   rcases Nat.lt_succ_iff_lt_or_eq.1 hq with h'|rfl
   ·exact hpre q h'
   ·exact h
  have hat0:=hat0 i;have hat1:=hat1 i;have hall:=hall i;have hnd:(nth l i).k=0→(nth l i).done=false→zJ l i=false:=fun h1 h2=>by unfold zJ;rw [h2,h1];rfl
  have hndt:(nth l i).done=true→zJ l i=true:=fun h2=>by unfold zJ;rw [h2];rfl
  have hsB:∀ r k,xO l i r k=(decide (k<i) && decide ((nth l k).p=(nth l i).p) && decide ((nth l k).key=(nth l i).key) && (decide ((nth l k).k=1) == decide (r=0)) && XE l (nth l i).key (nth l i).res (if (nth l k).k=1 then (nth l k).arg else (nth l k).res)):=fun r k=>rfl;obtain ⟨o,hoe⟩:∃ o,nth l i=o:=⟨_,rfl⟩
  rw [hoe] at hyes hat0 hnd hndt;rw [hoe] at hsB;refine zb ?_;rw [hoe];skip;refine zP (fun h1=>?_) (fun h1=>?_)
  ·refine zb ?_;refine ⟨i+1,⟨by omega,hnext ?_⟩,by omega,(FLe.cv [⟨102,some 102,0,⟨0,.own,36,5,[[.int .i64 0,.int .i64 0,.int .i64 0,.nil,.nil]]⟩⟩,⟨105,some 105,0,⟨0,.own,36,5,[[.int .i64 6,.int .i64 0,.int .i64 0,.nil,.nil]]⟩⟩] zf zd)⟩;exact hat0 (.inl (by simpa using h1))
  have hk0:o.k=0:=by simpa using h1
  refine zb ?_;rw [hoe];skip;cases hdn:o.done with
  | false =>
   refine zb ?_;refine ⟨i+1,⟨by omega,hnext ?_⟩,by omega,(FLe.cv [⟨102,some 102,0,⟨0,.own,36,5,[[.int .i64 0,.int .i64 0,.int .i64 0,.nil,.nil]]⟩⟩,⟨105,some 105,0,⟨0,.own,36,5,[[.int .i64 6,.int .i64 0,.int .i64 0,.nil,.nil]]⟩⟩] zf zd)⟩;exact hat0 (.inr (hnd hk0 hdn))
  | true =>
  have hyes:=fun r k=>hyes r k (hndt hdn) hk0;refine zb ?_;refine FW.loop (fun r:Nat=>⟨[(0,.list 8 (l.map OpV.fv)),(2,.ptr 102 0 0 0),(5,.ptr 105 0 0 0),(6,.int .i64 i),(7,.int .i64 r)],[(102,⟨0,.own,36,5,[[.int .i64 0,.int .i64 0,.int .i64 0,.nil,.nil]]⟩),(105,⟨0,.own,36,5,[[.int .i64 6,.int .i64 0,.int .i64 0,.nil,.nil]]⟩)]⟩) (fun r=>r≤2∧(1≤r→∀ m,m<l.length→(zJ l m && xO l i 0 m)=false)∧(2≤r→∀ m,m<l.length→(zJ l m && xO l i 1 m)=false)) (fun r=>2 - r) 0 ⟨Nat.zero_le _,by omega,by omega⟩ ?_ ?_
  ·exact (FLe.cv [⟨102,some 102,0,⟨0,.own,36,5,[[.int .i64 0,.int .i64 0,.int .i64 0,.nil,.nil]]⟩⟩,⟨105,some 105,0,⟨0,.own,36,5,[[.int .i64 6,.int .i64 0,.int .i64 0,.nil,.nil]]⟩⟩] zf zd)
  rintro r ⟨hr,hr1,hr2⟩;refine zb ?_;refine FW.cond rfl (fun h=>?_) (fun h=>?_)
  ·have hrl:r<2:=by simp at h;omega
   clear h;obtain ⟨cl,hcl⟩:∃ cl:Int,nth [9,10] r=cl:=⟨_,rfl⟩
   have hcl2:cl=9+(r:Int):=by
    have:r=0∨r=1:=by omega
    rcases this with rfl|rfl <;> (rw [← hcl];rfl)
   have hll:([9,10]:List Int).length=2:=rfl;refine zb ?_;refine FW.loop (fun k:Nat=>⟨[(0,.list 8 (l.map OpV.fv)),(2,.ptr 102 0 0 0),(5,.ptr 105 0 0 0),(6,.int .i64 i),(7,.int .i64 r),(8,.int .i64 k)],[(102,⟨0,.own,36,5,[[.int .i64 0,.int .i64 0,.int .i64 0,.nil,.nil]]⟩),(105,⟨0,.own,36,5,[[.int .i64 6,.int .i64 0,.int .i64 0,.nil,.nil]]⟩)]⟩) (fun k=>k≤i∧∀ q,q<k→(zJ l q && xO l i r q)=false) (fun k=>i - k) 0 ⟨Nat.zero_le _,fun i hi=>absurd hi (Nat.not_lt_zero _)⟩ ?_ ?_
   ·exact (FLe.cv [⟨102,some 102,0,⟨0,.own,36,5,[[.int .i64 0,.int .i64 0,.int .i64 0,.nil,.nil]]⟩⟩,⟨105,some 105,0,⟨0,.own,36,5,[[.int .i64 6,.int .i64 0,.int .i64 0,.nil,.nil]]⟩⟩] zf zd)
   rintro k ⟨hk,hpre3⟩;refine zb ?_;refine FW.cond rfl (fun h=>?_) (fun h=>?_)
   ·have hki:k<i:=by simpa using h
    clear h;have hyes:=hyes r k (by
     have:r=0∨r=1:=by omega
     rcases this with rfl|rfl
     ·exact .inl rfl
     ·exact .inr ⟨rfl,hr1 za⟩) za hpre3
    rw [← hcl2] at hyes;have hnext3:(zJ l k && xO l i r k)=false→∀ q,q<k+1→(zJ l q && xO l i r q)=false:=fun h q hq=>by
     rcases Nat.lt_succ_iff_lt_or_eq.1 hq with h'|rfl
     ·exact hpre3 q h'
     ·exact h
    have hkn:k<l.length:=by omega
    have hinck:=hinc k hkn;have hsb:=hsB r k;obtain ⟨p,hpe⟩:∃ p,nth l k=p:=⟨_,rfl⟩
    rw [hpe] at hsb;generalize zJ l k=ik at hinck hyes hnext3;rw [decide_eq_true hki,Bool.true_and] at hsb;refine zb ?_;refine zO hinck (by repeat (first|exact zq.nil|refine zq.cons zm ?_)) rfl rfl ?_;cases ik with
    | false =>
     refine zQ ?_;refine ⟨by kernel_rfl,?_⟩;refine zb ?_;refine ⟨k+1,⟨by omega,hnext3 ?_⟩,by omega,(FLe.cv [⟨102,some 102,0,⟨0,.own,36,5,[[.int .i64 0,.int .i64 0,.int .i64 0,.nil,.nil]]⟩⟩,⟨105,some 105,0,⟨0,.own,36,5,[[.int .i64 6,.int .i64 0,.int .i64 0,.nil,.nil]]⟩⟩] zf zd)⟩;rfl
    | true =>
    rw [Bool.true_and] at hyes hnext3;refine zQ ?_;rw [hpe,hoe];refine yA (fun h3=>?_) (fun h3=>?_)
    ·refine zn ?_;refine ⟨by kernel_rfl,?_⟩;refine zb ?_;refine ⟨k+1,⟨by omega,hnext3 ?_⟩,by omega,(FLe.cv [⟨102,some 102,0,⟨0,.own,36,5,[[.int .i64 0,.int .i64 0,.int .i64 0,.nil,.nil]]⟩⟩,⟨105,some 105,0,⟨0,.own,36,5,[[.int .i64 6,.int .i64 0,.int .i64 0,.nil,.nil]]⟩⟩] zf zd)⟩;rw [hsb,decide_eq_false (show ¬ p.p=o.p by simpa using h3)];simp
    rw [decide_eq_true (show p.p=o.p by simpa using h3),Bool.true_and] at hsb;refine zn ?_;rw [hpe,hoe];refine yA (fun h4=>?_) (fun h4=>?_)
    ·refine zn ?_;refine ⟨by kernel_rfl,?_⟩;refine zb ?_;refine ⟨k+1,⟨by omega,hnext3 ?_⟩,by omega,(FLe.cv [⟨102,some 102,0,⟨0,.own,36,5,[[.int .i64 0,.int .i64 0,.int .i64 0,.nil,.nil]]⟩⟩,⟨105,some 105,0,⟨0,.own,36,5,[[.int .i64 6,.int .i64 0,.int .i64 0,.nil,.nil]]⟩⟩] zf zd)⟩;rw [hsb,decide_eq_false (show ¬ p.key=o.key by simpa using h4)];simp
    rw [decide_eq_true (show p.key=o.key by simpa using h4),Bool.true_and] at hsb;refine zn ?_;rw [hpe];skip;refine ⟨by kernel_rfl,?_⟩;have hc9:decide ((r:Int)=0)=decide (r=0):=decide_eq_decide.2 za;rw [hc9];refine FW.cond rfl (fun h5=>?_) (fun h5=>?_)
    ·refine zb ?_;refine ⟨k+1,⟨by omega,hnext3 ?_⟩,by omega,(FLe.cv [⟨102,some 102,0,⟨0,.own,36,5,[[.int .i64 0,.int .i64 0,.int .i64 0,.nil,.nil]]⟩⟩,⟨105,some 105,0,⟨0,.own,36,5,[[.int .i64 6,.int .i64 0,.int .i64 0,.nil,.nil]]⟩⟩] zf zd)⟩;rw [hsb,show (decide (p.k=1) == decide (r=0))=false by simpa using h5,Bool.false_and]
    rw [show (decide (p.k=1) == decide (r=0))=true by simpa using h5,Bool.true_and] at hsb;have hkr:decide (p.k=1)=decide (r=0):=by simpa using h5
    refine zb ?_;rw [hpe];skip;refine FW.cond rfl (fun h7=>?_) (fun h7=>?_)
    ·have h7:p.k=1:=by
      have:r=0:=by simp at h7;omega
      rw [decide_eq_true this] at hkr;simpa using hkr
     rw [if_pos h7] at hsb;have hold:=hol o.key o.res p.arg;generalize XE l o.key o.res p.arg=ob at hold hsb;refine zb ?_;rw [hpe];refine zQ ?_;rw [hoe];skip;refine Up hold (by repeat (first|exact zq.nil|refine zq.cons zm ?_)) rfl rfl ?_;refine zn ?_;refine ⟨by kernel_rfl,?_⟩;refine zb ?_;refine FW.cond rfl (fun h6=>?_) (fun h6=>?_)
     ·rw [hyes (by rw [hsb,h6])];refine ZS ?_;refine yL (es:=([9,10]:List Int).map zC) rfl rfl rfl (by refine yW.int rfl rfl ?_;refine yW.int rfl rfl ?_;exact yW.nil) rfl rfl rfl rfl rfl ?_;refine ZS ?_;rw [hcl];skip;rw [hoe];skip;refine yL (es:=[yp k,yp i]) rfl rfl rfl (by refine yW.int rfl rfl ?_;refine yW.int rfl rfl ?_;exact yW.nil) rfl rfl rfl rfl rfl ?_;refine zb ?_;exact FW.ret ⟨.inl rfl,.sh (.cons (zK rfl rfl rfl rfl rfl rfl zg) (.cons (.tmp 3 rfl rfl) .nil)) rfl rfl⟩
     ·refine zb ?_;refine ⟨k+1,⟨by omega,hnext3 ?_⟩,by omega,(FLe.cv [⟨102,some 102,0,⟨0,.own,36,5,[[.int .i64 0,.int .i64 0,.int .i64 0,.nil,.nil]]⟩⟩,⟨105,some 105,0,⟨0,.own,36,5,[[.int .i64 6,.int .i64 0,.int .i64 0,.nil,.nil]]⟩⟩] zf zd)⟩;rw [hsb,h6]
    ·have h7:¬ p.k=1:=fun q=>by
      have h8:¬ r=0:=fun e=>by rw [e] at h7;simp at h7
      rw [decide_eq_false h8,decide_eq_true q] at hkr;cases hkr
     rw [if_neg h7] at hsb;have hold:=hol o.key o.res p.res;generalize XE l o.key o.res p.res=ob at hold hsb;refine zQ ?_;rw [hoe];skip;refine Up hold (by repeat (first|exact zq.nil|refine zq.cons zm ?_)) rfl rfl ?_;refine zn ?_;refine ⟨by kernel_rfl,?_⟩;refine zb ?_;refine FW.cond rfl (fun h6=>?_) (fun h6=>?_)
     ·rw [hyes (by rw [hsb,h6])];refine ZS ?_;refine yL (es:=([9,10]:List Int).map zC) rfl rfl rfl (by refine yW.int rfl rfl ?_;refine yW.int rfl rfl ?_;exact yW.nil) rfl rfl rfl rfl rfl ?_;refine ZS ?_;rw [hcl];skip;rw [hoe];skip;refine yL (es:=[yp k,yp i]) rfl rfl rfl (by refine yW.int rfl rfl ?_;refine yW.int rfl rfl ?_;exact yW.nil) rfl rfl rfl rfl rfl ?_;refine zb ?_;exact FW.ret ⟨.inl rfl,.sh (.cons (zK rfl rfl rfl rfl rfl rfl zg) (.cons (.tmp 3 rfl rfl) .nil)) rfl rfl⟩
     ·refine zb ?_;refine ⟨k+1,⟨by omega,hnext3 ?_⟩,by omega,(FLe.cv [⟨102,some 102,0,⟨0,.own,36,5,[[.int .i64 0,.int .i64 0,.int .i64 0,.nil,.nil]]⟩⟩,⟨105,some 105,0,⟨0,.own,36,5,[[.int .i64 6,.int .i64 0,.int .i64 0,.nil,.nil]]⟩⟩] zf zd)⟩;rw [hsb,h6]
   ·have hme:k=i:=by simp at h;omega
    subst hme;refine zb ?_;refine ⟨r+1,⟨by omega,fun _=>?_,fun h=>?_⟩,by omega,?_⟩
    ·have:r=0∨r=1:=by omega
     rcases this with rfl|rfl
     ·exact hall 0 hpre3
     ·exact hr1 za
    ·have:r=1:=by omega
     subst this;exact hall 1 hpre3
    ·exact (FLe.cv [⟨102,some 102,0,⟨0,.own,36,5,[[.int .i64 0,.int .i64 0,.int .i64 0,.nil,.nil]]⟩⟩,⟨105,some 105,0,⟨0,.own,36,5,[[.int .i64 6,.int .i64 0,.int .i64 0,.nil,.nil]]⟩⟩] zf zd)
  ·have hre:r=2:=by simp at h;omega
   subst hre;refine zb ?_;refine ⟨i+1,⟨by omega,hnext ?_⟩,by omega,(FLe.cv [⟨102,some 102,0,⟨0,.own,36,5,[[.int .i64 0,.int .i64 0,.int .i64 0,.nil,.nil]]⟩⟩,⟨105,some 105,0,⟨0,.own,36,5,[[.int .i64 6,.int .i64 0,.int .i64 0,.nil,.nil]]⟩⟩] zf zd)⟩;exact hat1 (hr1 za) (hr2 za)
 ·have hje:i=l.length:=by simp at h;omega
  subst hje;rw [hno hpre];refine zb ?_;exact FW.ret ⟨.inl rfl,.sh (.cons (zK rfl rfl rfl rfl rfl rfl zg) (.cons (.tmp 3 rfl rfl) .nil)) rfl rfl⟩
theorem zjT {l:List OpV} {i:Nat} (h:WV l=some i):zcm l=i∧i<l.length:=by
 refine ⟨by unfold zcm;rw [h],xw (List.mem_of_find?_eq_some h)⟩
theorem zjf {l:List OpV} {i w1 w2 i' : Nat} (h:xX l i=some (w1,w2,i')):i'=i∧(nth l w2).key=(nth l i).key:=by
 unfold xX at h;obtain ⟨w,_,h⟩:=Option.bind_eq_some_iff.1 h;obtain ⟨q,hq,e⟩:=Option.map_eq_some_iff.1 h;injection e with e1 e2
 injection e2 with e2 e3
 have hb:=List.find?_some hq;unfold Wz at hb;simp only [Bool.and_eq_true,decide_eq_true_eq] at hb;rw [← e2];exact ⟨e3.symm,hb.1.1.1.2⟩
theorem zmS {l:List OpV} {w1 w2 i:Nat} (h:Uk l=some (w1,w2,i)):(nth l w2).key=(nth l i).key:=by
 unfold Uk at h;obtain ⟨_,a,_,_,h,_⟩:=List.findSome?_eq_some_iff.1 h;obtain ⟨e,h⟩:=zjf h;rw [e];exact h
theorem zmO {l:List OpV} {w i:Nat} (h:Uf l=some (w,i)):(nth l w).key=(nth l i).key:=by
 unfold Uf at h;obtain ⟨_,a,_,_,h,_⟩:=List.findSome?_eq_some_iff.1 h;unfold Zp at h;split at h
 ·cases h
 ·obtain ⟨q,hq,e⟩:=Option.map_eq_some_iff.1 h;injection e with e1 e2
  have hb:=List.find?_some hq;unfold Wt at hb;simp only [Bool.and_eq_true,decide_eq_true_eq] at hb;rw [← e1,← e2];exact hb.1.2
theorem ziW (l:List OpV) (T:List Int):xx (fun x=>!zJ l x.toNat) T=T.filter fun x=>zJ l x.toNat:=by unfold xx;simp
theorem zd2 (l:List OpV) (hl:l.length≤14):zV Try.prog 27 [.list 8 (l.map OpV.fv)] .sh (zj2 l):=by
 have hdm:=VD l za;have hth:=zfK l za;have hed:=zV.sh_of_ow (zeP l za);have hov:=zfI l za;have hit:=zfH l za;have hinc:=fun i hi=>xM l i za hi;obtain ⟨R,hR⟩:∃ R,zj2 l=R:=⟨_,rfl⟩
 have hRh:R.hand=none:=by rw [← hR];unfold zj2;split <;> rfl
 rw [hR];have hR1:Zj l≠0→R=.tup [.agg [.int .i64 0,.int .i64 0,.int .i64 0,.nil,.nil],.int .i64 (Zj l)]:=fun h=>by rw [← hR];unfold zj2;rw [if_pos h]
 have hR2:Zj l=0→R=.tup [.agg (ZW l),.int .i64 0]:=fun h=>by rw [← hR];unfold zj2;rw [if_neg (by simpa using h)]
 have hdom:Zj l=0→Yn l:=fun h=>by
  unfold Zj at h;split at h
  ·rename_i h1;exact absurd h h1
  ·split at h
   ·assumption
   ·cases h
 clear hR;obtain ⟨e,he⟩:∃ e,Zj l=e:=⟨_,rfl⟩
 rw [he] at hdm hR1 hR2 hdom;refine zV.of_body (c:=(xy Try.prog zD zu 127)) ⟨Try.func27,rfl,Try.ntmps27,by kernel_rfl⟩ zF zx hRh ?_;change FW _ _ _ ⟨[(0,.list 8 (l.map OpV.fv))],[]⟩;refine zb ?_;refine zO hdm (by repeat (first|exact zq.nil|refine zq.cons zm ?_)) rfl rfl ?_;refine zb ?_;refine FW.cond rfl (fun h=>?_) (fun h=>?_)
 ·rw [hR1 (by simpa using h)];refine zb ?_;exact FW.ret ⟨.inl rfl,.sh (.cons (zK rfl rfl rfl rfl rfl rfl zg) (.cons (.tmp 3 rfl rfl) .nil)) rfl rfl⟩
 have he0:e=0:=by simpa using h
 subst he0;have hR2:=hR2 rfl;have hd:=hdom rfl;have hov:=hov hd;have hit:=hit hd;clear h hR1 hdom;refine zb ?_;refine zO hth (by repeat (first|exact zq.nil|refine zq.cons zm ?_)) rfl rfl ?_;refine zb ?_;cases ht:WV l with
 | some i =>
  obtain ⟨hti,hil⟩:=zjT ht;rw [hti,hR2];unfold ZW;rw [ht];dsimp only;unfold YV;refine FW.condT (congrArg FV.bool (decide_eq_true za)) ?_;obtain ⟨o,ho⟩:∃ o,nth l i=o:=⟨_,rfl⟩
  refine ZS ?_;rw [ho];skip;refine yL (es:=[yp i]) rfl rfl rfl (by refine yW.int rfl rfl ?_;exact yW.nil) rfl rfl rfl rfl rfl ?_;refine zb ?_;exact FW.ret ⟨.inl rfl,.sh (.cons (zK rfl rfl rfl rfl rfl rfl zg) (.cons (.tmp 3 rfl rfl) .nil)) rfl rfl⟩
 | none =>
 have hti:zcm l = -1:=by unfold zcm;rw [ht]
 rw [hti];refine FW.condF rfl ?_;have hov:=hov ht;have hEl:=ZL l l.length;have hE2:=Nat.mul_le_mul hl hl;have hprm:=zhZ hd;have hlabE:=zfn hd;have hEdl:(zaK l).length≤196:=Nat.le_trans hEl hE2;have hpr:=zV.sh_of_ow (zfE (zaK l) za);have hlb:=fun a b=>zcK (zaK l) a b za;have hcy:=zg3 l.length (prC (zaK l)) za (by unfold prC;rw [List.length_map];omega);have hto:=zjm l.length (prC (zaK l)) za (by unfold prC;rw [List.length_map];omega);rw [XF hprm,show xF (edC l) l.length=Ws l from rfl] at hcy;rw [zbL hprm] at hto;obtain ⟨E,hE⟩:∃ E,zaK l=E:=⟨_,rfl⟩
 rw [hE] at hed hov hit hpr hlb hcy hto hlabE;obtain ⟨PP,hPP⟩:∃ PP,prC E=PP:=⟨_,rfl⟩
 rw [hPP] at hpr hcy hto;refine zb ?_;refine yj hed (by repeat (first|exact zq.nil|refine zq.cons zm ?_)) rfl rfl ?_;refine zb ?_;refine yj hpr (by repeat (first|exact zq.nil|refine zq.cons zm ?_)) rfl rfl ?_;refine yj hcy (by repeat (first|exact zq.nil|refine zq.cons zm ?_)) rfl rfl ?_;have hcl:=zdA l;have hce:Ws l≠[]→∀ i,i<(Ws l).length→∃ a b:Nat,nth (Ws l) i=a∧nth (Ws l) ((i+1) % (Ws l).length)=b∧(a,b)∈edC l:=zeM (Yv l);by_cases hc:Ws l=[]
 ·rw [hc];refine zb ?_;refine yj hov (by repeat (first|exact zq.nil|refine zq.cons zm ?_)) rfl rfl ?_;unfold zcZ;cases ho:Uk l with
  | some w=>
   obtain ⟨w1,w2,i⟩:=w;rw [hR2];unfold ZW;rw [ht,ho];dsimp only;rw [if_neg (by simpa using hc),zmS ho];unfold YV;generalize Zs l w1 w2++Zs l w2 i=X;rcases zdW 3 (X.map EdC.fv) with hX|hX <;> rw [hX]
   ·refine zb ?_;exact FW.ret ⟨.inl rfl,.sh (.cons (zK rfl rfl rfl rfl rfl rfl zg) (.cons (.tmp 3 rfl rfl) .nil)) rfl rfl⟩
   ·refine zb ?_;exact FW.ret ⟨.inl rfl,.sh (.cons (zK rfl rfl rfl rfl rfl rfl zg) (.cons (.tmp 3 rfl rfl) .nil)) rfl rfl⟩
  | none =>
  refine zb ?_;refine yj hit (by repeat (first|exact zq.nil|refine zq.cons zm ?_)) rfl rfl ?_;unfold zcY;cases hi:Uf l with
  | some w=>
   obtain ⟨w,i⟩:=w;rw [hR2];unfold ZW;rw [ht,ho,hi];dsimp only;rw [if_neg (by simpa using hc),zmO hi];unfold YV;generalize Zs l w i=X;rcases zdW 3 (X.map EdC.fv) with hX|hX <;> rw [hX]
   ·refine zb ?_;exact FW.ret ⟨.inl rfl,.sh (.cons (zK rfl rfl rfl rfl rfl rfl zg) (.cons (.tmp 3 rfl rfl) .nil)) rfl rfl⟩
   ·refine zb ?_;exact FW.ret ⟨.inl rfl,.sh (.cons (zK rfl rfl rfl rfl rfl rfl zg) (.cons (.tmp 3 rfl rfl) .nil)) rfl rfl⟩
  | none =>
  obtain ⟨ht1,hO⟩:=Yd (Yv l) hc;rw [ht1] at hto;unfold zpr at hto;dsimp only at hto;rw [hR2];unfold ZW;rw [ht,ho,hi];dsimp only;rw [if_neg (by simpa using hc)];unfold zoM;rw [ziW];generalize yO l.length (edC l)=TT at hto hO;have htl:=hO.len;refine zb ?_;refine yj hpr (by repeat (first|exact zq.nil|refine zq.cons zm ?_)) rfl rfl ?_;refine yj hto (by repeat (first|exact zq.nil|refine zq.cons zm ?_)) rfl rfl ?_;refine zb ?_;refine FW.le ?_ (FLe.toH (i:=5) rfl);refine FW.loop (fun q:Nat=>⟨[(0,.list 8 (l.map OpV.fv)),(2,.ptr 102 0 0 0),(5,.ptr 103 0 0 0),(12,.list 1 (TT.map zC)),(14,.int .i64 q)],[(102,⟨0,.own,36,5,[[.int .i64 0,.int .i64 0,.int .i64 0,.nil,.nil]]⟩),(103,⟨0,.hrow,36,5,[[.int .i64 5,.int .i64 0,.int .i64 0,.own 105 0 0 ((TT.take q).filter fun x=>zJ l x.toNat).length,.nil]]⟩),(105,⟨0,.own,3,1,((TT.take q).filter fun x=>zJ l x.toNat).map zC⟩)]⟩) (fun q=>q≤TT.length) (fun q=>TT.length - q) 0 (Nat.zero_le _) ?_ ?_
  ·show FLe _ ⟨[(0,.list 8 (l.map OpV.fv)),(2,.ptr 102 0 0 0),(5,.ptr 103 0 0 0),(12,.list 1 (TT.map zC)),(14,.int .i64 0)],[(102,⟨0,.own,36,5,[[.int .i64 0,.int .i64 0,.int .i64 0,.nil,.nil]]⟩),(103,⟨0,.hrow,36,5,[[.int .i64 5,.int .i64 0,.int .i64 0,.own 105 0 0 0,.nil]]⟩),(105,⟨0,.own,3,1,[]⟩)]⟩;exact (FLe.cv [⟨102,some 2,0+1,⟨0,.own,36,5,[[.int .i64 0,.int .i64 0,.int .i64 0,.nil,.nil]]⟩⟩,⟨103,some 5,0+1,⟨0,.hrow,36,5,[[.int .i64 5,.int .i64 0,.int .i64 0,.own 105 0 0 0,.nil]]⟩⟩,⟨105,none,0,⟨0,.own,3,1,[]⟩⟩] zf zd)
  intro q hq;have hfs:∀ h:q<TT.length,(TT.take (q+1)).filter (fun x=>zJ l x.toNat)=(TT.take q).filter (fun x=>zJ l x.toNat)++if zJ l (nth TT q).toNat=true then [nth TT q] else []:=fun h=>by
   rw [List.take_succ_eq_append_getElem h,List.filter_append,nth_eq h];congr 1;by_cases hb:zJ l (TT[q]).toNat=true
   ·rw [if_pos hb,List.filter_cons_of_pos (by exact hb)];rfl
   ·rw [if_neg hb,List.filter_cons_of_neg (by exact hb)];rfl
  have hfl:((TT.take q).filter fun x=>zJ l x.toNat).length≤q:=Nat.le_trans (List.length_filter_le _ _) (by rw [List.length_take];omega);have hfe:q=TT.length→TT.filter (fun x=>zJ l x.toNat)=(TT.take q).filter fun x=>zJ l x.toNat:=fun e=>by rw [e,List.take_length]
  generalize (TT.take q).filter (fun x=>zJ l x.toNat)=FF at hfs hfl hfe ⊢;refine zb ?_;refine FW.cond rfl (fun h=>?_) (fun h=>?_)
  ·have hlt:q<TT.length:=by simpa using h
   clear h hfe;have hfs:=hfs hlt;have hrg:=hO.rng _ (zy hlt);obtain ⟨u,hu⟩:∃ u:Nat,nth TT q=u:=⟨(nth TT q).toNat,by omega⟩
   rw [hu] at hrg;rw [hu,Int.toNat_natCast] at hfs;have hincu:=hinc u za;generalize zJ l u=iu at hincu hfs;refine zb ?_;rw [hu];skip;refine zO hincu (by repeat (first|exact zq.nil|refine zq.cons zm ?_)) rfl rfl ?_;refine zb ?_;refine FW.cond rfl (fun hb=>?_) (fun hb=>?_)
   ·rw [if_pos hb] at hfs;refine zQ ?_;refine VH rfl rfl rfl rfl rfl rfl rfl ?_;refine zn ?_;rw [hu];skip;refine Uq (d:=0) rfl rfl ⟨_,_,_,rfl⟩ (zR rfl zg) (fun i v n e=>by injection e with e1 e2 e3 e4;subst e1;subst e2;exact zR rfl zg) rfl rfl rfl rfl (by show 3<5;decide) rfl rfl ?_;refine zM.nil ⟨by kernel_rfl,?_⟩;refine zb ?_;refine ⟨q+1,by omega,by omega,?_⟩;rw [hfs,show (FF++[(u:Int)]).length=FF.length+1 by simp,List.map_append];exact (FLe.cv [⟨102,some 102,0,⟨0,.own,36,5,[[.int .i64 0,.int .i64 0,.int .i64 0,.nil,.nil]]⟩⟩,⟨103,some 103,0,⟨0,.hrow,36,5,[[.int .i64 5,.int .i64 0,.int .i64 0,.own 105 0 0 (FF.length+1),.nil]]⟩⟩,⟨105,some 123,0+1,⟨0,.own,3,1,FF.map zC++[(u:Int)].map zC⟩⟩] zf zd)
   ·rw [if_neg (by rw [hb];decide),List.append_nil] at hfs;refine zb ?_;refine ⟨q+1,by omega,by omega,?_⟩;rw [hfs];exact (FLe.cv [⟨102,some 102,0,⟨0,.own,36,5,[[.int .i64 0,.int .i64 0,.int .i64 0,.nil,.nil]]⟩⟩,⟨103,some 103,0,⟨0,.hrow,36,5,[[.int .i64 5,.int .i64 0,.int .i64 0,.own 105 0 0 FF.length,.nil]]⟩⟩,⟨105,some 105,0,⟨0,.own,3,1,FF.map zC⟩⟩] zf zd)
  ·have hqe:q=TT.length:=by simp at h;omega
   rw [hfe hqe];refine FW.le ?_ (FLe.deep1C (q:=5) (r:=[.int .i64 5,.int .i64 0,.int .i64 0,.own 105 0 0 FF.length,.nil]) (r2:=[.int .i64 5,.int .i64 0,.int .i64 0,.list 1 (FF.map zC),.nil]) (es:=FF.map zC) 103 105 3 zg rfl rfl (by rw [List.length_map];rfl) rfl rfl rfl);refine zb ?_;exact FW.ret ⟨.inl rfl,.sh (.cons (zK rfl rfl rfl rfl rfl rfl zg) (.cons (.tmp 3 rfl rfl) .nil)) rfl rfl⟩
 ·have hcpos:=List.length_pos_iff.2 hc;rw [hR2];unfold ZW;rw [ht];dsimp only;rw [if_pos hc];clear hov hit hto hR2 hdm hth;obtain ⟨c,hcc⟩:∃ c,Ws l=c:=⟨_,rfl⟩
  rw [hcc] at hcl hce hcpos hc ⊢;have hce:=hce hc;refine zb ?_;refine FW.condT (congrArg FV.bool (decide_eq_true za)) ?_;refine zb ?_;refine FW.le ?_ (FLe.toH (i:=5) rfl);refine FW.loop (fun i:Nat=>⟨[(0,.list 8 (l.map OpV.fv)),(2,.ptr 102 0 0 0),(5,.ptr 103 0 0 0),(7,.list 3 (E.map EdC.fv)),(8,.list 1 (c.map zC)),(9,.int .i64 i)],[(102,⟨0,.own,36,5,[[.int .i64 0,.int .i64 0,.int .i64 0,.nil,.nil]]⟩),(103,⟨0,.hrow,36,5,[[.int .i64 5,.int .i64 6,.int .i64 0,.nil,.own 105 0 0 (ZE l c i).length]]⟩),(105,⟨0,.own,46,3,(ZE l c i).map EdC.fv⟩)]⟩) (fun i=>i≤c.length) (fun i=>c.length - i) 0 (Nat.zero_le _) ?_ ?_
  ·exact (FLe.cv [⟨102,some 2,0+1,⟨0,.own,36,5,[[.int .i64 0,.int .i64 0,.int .i64 0,.nil,.nil]]⟩⟩,⟨103,some 5,0+1,⟨0,.hrow,36,5,[[.int .i64 5,.int .i64 6,.int .i64 0,.nil,.own 105 0 0 0]]⟩⟩,⟨105,none,0,⟨0,.own,46,3,[]⟩⟩] zf zd)
  intro q hq;have hcs:ZE l c (q+1)=ZE l c q++[((nth c q).toNat,(nth c ((q+1) % c.length)).toNat,ziY l (nth c q).toNat (nth c ((q+1) % c.length)).toNat)]:=by
   unfold ZE;rw [List.range_succ,List.map_append];rfl
  have hcq:(ZE l c q).length=q:=by simp [ZE]
  have hcA:q=c.length→ZE l c c.length=ZE l c q:=fun e=>by rw [e]
  have hce:=hce q;generalize ZE l c q=CC at hcs hcq hcA ⊢;refine zb ?_;refine FW.cond rfl (fun h=>?_) (fun h=>?_)
  ·have hlt:q<c.length:=by simpa using h
   clear h hcA;obtain ⟨x,y,hx,hy,hxy⟩:=hce hlt;obtain ⟨m,hm⟩:∃ m,(q+1) % c.length=m:=⟨_,rfl⟩
   have hml:m<c.length:=by rw [← hm];exact Nat.mod_lt _ za
   rw [hm] at hy hcs;rw [hx,hy,Int.toNat_natCast,Int.toNat_natCast] at hcs;have hlab:=hlb x y;rw [hlabE x y hxy] at hlab;generalize ziY l x y=z at hlab hcs;refine zQ ?_;refine VH rfl rfl rfl rfl rfl rfl rfl ?_;refine zn ?_;rw [show (q+1) % ((c.length:Int)).natAbs=m by rw [Int.natAbs_natCast];exact hm];refine zn ?_;rw [hx,hy];refine Up hlab (by repeat (first|exact zq.nil|refine zq.cons zm ?_)) rfl rfl ?_;refine zn ?_;refine Uq (d:=0) rfl rfl ⟨_,_,_,rfl⟩ (zR rfl zg) (fun i v n e=>by injection e with e1 e2 e3 e4;subst e1;subst e2;exact zR rfl zg) rfl rfl rfl rfl (by show 4<5;decide) rfl rfl ?_;refine zM.nil ⟨by kernel_rfl,?_⟩;refine zb ?_;refine ⟨q+1,by omega,by omega,?_⟩;rw [hcs,show (CC++[(x,y,z)]).length=CC.length+1 by simp,List.map_append];exact (FLe.cv [⟨102,some 102,0,⟨0,.own,36,5,[[.int .i64 0,.int .i64 0,.int .i64 0,.nil,.nil]]⟩⟩,⟨103,some 103,0,⟨0,.hrow,36,5,[[.int .i64 5,.int .i64 6,.int .i64 0,.nil,.own 105 0 0 (CC.length+1)]]⟩⟩,⟨105,some 74,0+1,⟨0,.own,46,3,CC.map EdC.fv++[(x,y,z)].map EdC.fv⟩⟩] zf zd)
  ·have hqe:q=c.length:=by simp at h;omega
   rw [hcA hqe];refine FW.le ?_ (FLe.deep1C (q:=5) (r:=[.int .i64 5,.int .i64 6,.int .i64 0,.nil,.own 105 0 0 CC.length]) (r2:=[.int .i64 5,.int .i64 6,.int .i64 0,.nil,.list 3 (CC.map EdC.fv)]) (es:=CC.map EdC.fv) 103 105 4 zg rfl rfl (by rw [List.length_map];rfl) rfl rfl rfl);refine zb ?_;exact FW.ret ⟨.inl rfl,.sh (.cons (zK rfl rfl rfl rfl rfl rfl zg) (.cons (.tmp 3 rfl rfl) .nil)) rfl rfl⟩
theorem zg0 (l:List OpV) (hl:l.length≤14):zV Try.prog 27 [.list 8 (l.map OpV.fv)] .sh (.tup [.agg (zmr l).fv,.int .i64 (Zj l)]):=zV.le (zd2 l hl) (zkk l) rfl
theorem zd1 (l:List OpV) (hl:l.length≤14):zV Try.prog 28 [.list 8 (l.map OpV.fv)] .sh (.tup [.agg (zna l).fv,.int .i64 (Zj l)]):=zV.le (zbn l za) (zl1 l) rfl
theorem Wm (l:List OpV) (hl:l.length≤14) (hin:∀ o∈l,VT o):zV Try.prog 12 [.list 8 (l.map OpV.fv)] .fr (.bool true):=by
 have h1:=zbi l hl hin;have h2:=zg0 l hl;have h3:=VB l za hin;have h4:=zd1 l hl;have hv:=zms l hl;have hw:=znb l;generalize zmr l=V at *;generalize zna l=W at *;generalize Zj l=E at *;have s1:=Xk V hv.1 hv.2;have s2:=Xk W hw.1 hw.2;unfold zmd.fv at *;refine zV.of_body (c:=(xy Try.prog zD zu 49)) ⟨Try.func12,rfl,Try.ntmps12,by kernel_rfl⟩ zF zx rfl ?_;change FW _ _ _ ⟨[(0,.list 8 (l.map OpV.fv))],[]⟩;refine zb ?_;refine yj h1 (by repeat (first|exact zq.nil|refine zq.cons zm ?_)) rfl rfl ?_;refine zb ?_;refine yj h2 (by repeat (first|exact zq.nil|refine zq.cons zm ?_)) rfl rfl ?_;refine zb ?_;refine yj h3 (by repeat (first|exact zq.nil|refine zq.cons zm ?_)) rfl rfl ?_;refine zb ?_;refine yj h4 (by repeat (first|exact zq.nil|refine zq.cons zm ?_)) rfl rfl ?_;refine zb ?_;refine zP (fun h=>?_) (fun h=>absurd rfl (of_decide_eq_false h));refine zb ?_;refine zP (fun h=>?_) (fun h=>absurd rfl (of_decide_eq_false h));refine zb ?_;refine zO s1 (by repeat (first|exact zq.nil|refine zq.cons zm ?_)) rfl ⟨_,_,rfl,rfl,rfl⟩ ?_;refine zb ?_;refine zO s2 (by repeat (first|exact zq.nil|refine zq.cons zm ?_)) rfl ⟨_,_,rfl,rfl,rfl⟩ ?_;refine zb ?_;exact FW.ret ⟨.inl rfl,zE rfl rfl rfl rfl⟩
theorem WI (l:List Int) (a b v:Int) (hl:∀ x∈l,I64 x) (hlen:l.length≤9223372036854775807) (ha:I64 a) (hb:I64 b) (hv:I64 v):zV Try.prog 3 [.list 1 (l.map zC),.int .i64 a,.int .i64 b,.int .i64 v] .fr (.bool true):=by
 have hR:=zbw l 12 hl hlen (by unfold I64;omega);obtain ⟨_,hin,hsm,hn⟩:=zbv l (most:=12) za za;have hC:=zkp l hl hlen;generalize yx l 12=H at *;have hCin:=zkn hsm hin;have hCl:=VZ hsm;generalize Vf H=G at *;have s1:=Wm H za hin;have s2:=Wm G za hCin;have w1:I64 (yM v 14):=by have:=ZR (n:=v) (most:=14) za;have:=ZQ (n:=v) (most:=14) za;unfold I64;omega
 have w2:I64 (yM v 9):=by have:=ZR (n:=v) (most:=9) za;have:=ZQ (n:=v) (most:=9) za;unfold I64;omega
 have hA:=zav v 14 hv zg zg;have hB:=zav v 9 hv zg zg;generalize yM v 14=x at *;generalize yM v 9=y at *;have b1:=zcq H a b x za ha hb;have b2:=zcq G a 4 y za ha (by unfold I64;omega);have s3:=Wm (ZV H a b x) (by rw [VW];omega) (zeA hin a b w1);have s4:=Wm (ZV G a 4 y) (by rw [VW];omega) (zeA hCin a 4 w2);generalize ZV H a b x=H2 at *;generalize ZV G a 4 y=G2 at *;have hlv:=zft;refine zV.of_body (c:=(xy Try.prog zD zu 41)) ⟨Try.func3,rfl,Try.ntmps3,by kernel_rfl⟩ zF zx rfl ?_;change FW _ _ _ ⟨[(0,.list 1 (l.map zC)),(1,.int .i64 a),(2,.int .i64 b),(3,.int .i64 v)],[]⟩;refine zb ?_;refine ZI hR (by repeat (first|exact zq.nil|refine zq.cons zm ?_)) (List.length_map _) rfl rfl rfl ?_;refine zp.le ?_ (FLe.share 12 rfl rfl (by rw [List.length_map]));refine zb ?_;refine ZI hC (by repeat (first|exact zq.nil|refine zq.cons zm ?_)) (List.length_map _) rfl rfl rfl ?_;refine zp.le ?_ (FLe.share 14 rfl rfl (by rw [List.length_map]));refine zb ?_;refine zO s1 (by repeat (first|exact zq.nil|refine zq.cons zm ?_)) rfl rfl ?_;refine zb ?_;refine zO s2 (by repeat (first|exact zq.nil|refine zq.cons zm ?_)) rfl ⟨_,_,rfl,rfl,rfl⟩ ?_;refine zb ?_;refine zO hA (by repeat (first|exact zq.nil|refine zq.cons zm ?_)) rfl ⟨_,_,rfl,rfl,rfl⟩ ?_;skip;refine ZI b1 (by repeat (first|exact zq.nil|refine zq.cons zm ?_)) (List.length_map _) rfl rfl ⟨_,_,rfl,rfl,rfl⟩ ?_;refine zp.le ?_ (FLe.share 27 rfl rfl (by rw [List.length_map]));skip;refine zO s3 (by repeat (first|exact zq.nil|refine zq.cons zm ?_)) rfl ⟨_,_,rfl,rfl,rfl⟩ ?_;refine zb ?_;refine zO hB (by repeat (first|exact zq.nil|refine zq.cons zm ?_)) rfl ⟨_,_,rfl,rfl,rfl⟩ ?_;skip;refine ZI b2 (by repeat (first|exact zq.nil|refine zq.cons zm ?_)) (List.length_map _) rfl rfl ⟨_,_,rfl,rfl,rfl⟩ ?_;refine zp.le ?_ (FLe.share 35 rfl rfl (by rw [List.length_map]));skip;refine zO s4 (by repeat (first|exact zq.nil|refine zq.cons zm ?_)) rfl ⟨_,_,rfl,rfl,rfl⟩ ?_;refine zb ?_;refine zO hlv (by repeat (first|exact zq.nil)) rfl ⟨_,_,rfl,rfl,rfl⟩ ?_;refine zb ?_;exact FW.ret ⟨.inl rfl,zE rfl rfl rfl rfl⟩
end Go.Proofs.Ytmnmakhpjgjdaaa
