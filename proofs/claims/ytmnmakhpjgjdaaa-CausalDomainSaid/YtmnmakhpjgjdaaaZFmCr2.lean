/-
  Some texts as one: FmCr2, FmCr3, FmCr4, FmCr5, FmCr6.
-/
import Derived.Test.YtmnmakhpjgjdaaaZFmCsH
namespace Go.Proofs.Ytmnmakhpjgjdaaa
set_option linter.unusedVariables false
set_option maxHeartbeats 16000000
open Go.RowKit
theorem zkY {a b:List Nat} {i:Nat} (ha:i<a.length) (hb:i<b.length):zgM (a.drop i) (b.drop i)=if nth a i=nth b i then zgM (a.drop (i+1)) (b.drop (i+1)) else decide (nth a i<nth b i):=by
 rw [List.drop_eq_getElem_cons ha,List.drop_eq_getElem_cons hb,nth_eq ha,nth_eq hb];rfl
theorem zhK {a b:List Nat} {i:Nat} (h:¬ (i<a.length∧i<b.length)):zgM (a.drop i) (b.drop i)=false:=by
 rcases Nat.lt_or_ge i a.length with h1|h1
 ·rw [List.drop_of_length_le (show b.length≤i by omega)];cases a.drop i <;> rfl
 ·rw [List.drop_of_length_le h1];rfl
theorem zgN (a b:List Nat) (ha:a.length≤1000000) (hb:b.length≤1000000):zX Try.prog 82 [.list 1 (a.map yp),.list 1 (b.map yp)] .fr (.bool (zgM a b)):=by
 refine zX.of_body (c:=(xx Try.prog zE zt 36)) ⟨Try.func82,rfl,Try.ntmps82,by kernel_rfl⟩ zH zw rfl ?_;change FW _ _ _ ⟨[(0,.list 1 (a.map yp)),(1,.list 1 (b.map yp))],[]⟩;refine zb ?_;refine FW.loop (fun i:Nat=>⟨[(0,.list 1 (a.map yp)),(1,.list 1 (b.map yp)),(5,.int .i64 i)],[]⟩) (fun i=>i≤a.length∧zgM (a.drop i) (b.drop i)=zgM a b) (fun i=>a.length - i) 0 ⟨Nat.zero_le _,rfl⟩ (FLe.cv [] zB zd) ?_;rintro i ⟨hi,hR⟩;obtain ⟨R,hRR⟩:∃ R,zgM a b=R:=⟨_,rfl⟩
 rw [hRR] at hR ⊢;refine zb ?_;refine zP (fun h1=>?_) (fun h1=>?_)
 ·have h1' : i<a.length:=by simpa using h1
  refine zb ?_;refine FW.cond rfl (fun h2=>?_) (fun h2=>?_)
  ·have h2' : i<b.length:=by simpa using h2
   rw [zkY h1' h2'] at hR;refine zQ ?_;refine ⟨by kernel_rfl,?_⟩;skip;refine FW.cond rfl (fun h3=>?_) (fun h3=>?_)
   ·rw [if_neg (fun q=>by rw [q] at h3;simp at h3)] at hR;refine zQ ?_;refine ⟨by kernel_rfl,?_⟩;skip;refine FW.ret ⟨.inl rfl,zF rfl rfl ?_ rfl⟩;rw [← hR];exact congrArg FV.bool (decide_eq_decide.2 za)
   ·rw [if_pos (by simp at h3;omega)] at hR;refine zb ?_;exact ⟨i+1,⟨by omega,hR⟩,by omega,(FLe.cv [] zB zd)⟩
  ·rw [zhK (fun q=>by simp at h2;omega)] at hR;refine zb ?_;exact FW.ret ⟨.inl rfl,zF rfl rfl (congrArg FV.bool hR) rfl⟩
 ·rw [zhK (fun q=>by simp at h1;omega)] at hR;refine zb ?_;exact FW.ret ⟨.inl rfl,zF rfl rfl (congrArg FV.bool hR) rfl⟩
theorem zcD (E:List EdC) (a b:Nat) (hE:E.length≤1000000):zX Try.prog 48 [.list 3 (E.map EdC.fv),.int .i64 a,.int .i64 b] .fr (.agg (zhJ E a b).fv):=by
 have hsome:∀ k,k<E.length→(decide ((nth E k).1=a) && decide ((nth E k).2.1=b))=true→(∀ j,j<k→(decide ((nth E j).1=a) && decide ((nth E j).2.1=b))=false)→zhJ E a b=nth E k:=fun k h1 h2 h3=>by
  unfold zhJ;rw [xi (p:=fun e:EdC=>decide (e.1=a) && decide (e.2.1=b)) h3 h1 h2];rfl
 have hnone:(∀ j,j<E.length→(decide ((nth E j).1=a) && decide ((nth E j).2.1=b))=false)→zhJ E a b=(0,0,0):=fun h=>by
  unfold zhJ;rw [xO (p:=fun e:EdC=>decide (e.1=a) && decide (e.2.1=b)) h];rfl
 obtain ⟨R,hR⟩:∃ R,zhJ E a b=R:=⟨_,rfl⟩
 rw [hR] at hsome hnone ⊢;refine zX.of_body (c:=(xx Try.prog zE zt 35)) ⟨Try.func48,rfl,Try.ntmps48,by kernel_rfl⟩ zH zw rfl ?_;change FW _ _ _ ⟨[(0,.list 3 (E.map EdC.fv)),(1,.int .i64 a),(2,.int .i64 b)],[]⟩;refine zb ?_;refine FW.loop (fun i:Nat=>⟨[(0,.list 3 (E.map EdC.fv)),(1,.int .i64 a),(2,.int .i64 b),(6,.ptr 106 0 0 0),(7,.int .i64 i)],[(106,⟨0,.own,46,3,[[.int .i64 0,.int .i64 0,.int .i64 0]]⟩)]⟩) (fun i=>i≤E.length∧∀ j,j<i→(decide ((nth E j).1=a) && decide ((nth E j).2.1=b))=false) (fun i=>E.length - i) 0 ⟨Nat.zero_le _,fun j hj=>by omega⟩ ?_ ?_
 ·exact (FLe.cv [⟨106,some 6,0+1,⟨0,.own,46,3,[[.int .i64 0,.int .i64 0,.int .i64 0]]⟩⟩] zf zd)
 rintro i ⟨hi,hno⟩;refine zb ?_;refine FW.cond rfl (fun h=>?_) (fun h=>?_)
 ·have hlt:i<E.length:=by simpa using h
  have hsome:=hsome i hlt;have hst:(decide ((nth E i).1=a) && decide ((nth E i).2.1=b))=false→∀ j,j<i+1→(decide ((nth E j).1=a) && decide ((nth E j).2.1=b))=false:=fun hx j hj=>by
   by_cases e:j=i
   ·rw [e];exact hx
   ·exact hno j za
  obtain ⟨⟨x,y,z⟩,he⟩:∃ e,nth E i=e:=⟨_,rfl⟩
  rw [he] at hsome hst;dsimp only at hsome hst;refine zb ?_;rw [he];skip;refine zP (fun h1=>?_) (fun h1=>?_)
  ·refine zb ?_;rw [he];skip;refine FW.cond rfl (fun h2=>?_) (fun h2=>?_)
   ·have hRe:=hsome (by rw [decide_eq_true (show x=a by simp at h1;omega),decide_eq_true (show y=b by simp at h2;omega)];rfl) hno;subst hRe;refine zb ?_;rw [he];skip;exact FW.ret ⟨.inl rfl,.flat (.cons (zL rfl rfl rfl rfl rfl rfl zg) .nil) rfl rfl⟩
   ·refine zb ?_;refine ⟨i+1,⟨by omega,hst ?_⟩,by omega,(FLe.cv [⟨106,some 106,0,⟨0,.own,46,3,[[.int .i64 0,.int .i64 0,.int .i64 0]]⟩⟩] zf zd)⟩;rw [decide_eq_false (show ¬ y=b by simp at h2;omega),Bool.and_false]
  ·refine zb ?_;refine ⟨i+1,⟨by omega,hst ?_⟩,by omega,(FLe.cv [⟨106,some 106,0,⟨0,.own,46,3,[[.int .i64 0,.int .i64 0,.int .i64 0]]⟩⟩] zf zd)⟩;rw [decide_eq_false (show ¬ x=a by simp at h1;omega),Bool.false_and]
 ·have hie:i=E.length:=by simp at h;omega
  subst hie;have hRe:=hnone hno;subst hRe;refine zb ?_;exact FW.ret ⟨.inl rfl,.flat (.cons (zL rfl rfl rfl rfl rfl rfl zg) .nil) rfl rfl⟩
theorem zfz (E:List EdC) (hE:E.length≤1000000):zX Try.prog 47 [.list 3 (E.map EdC.fv)] (.ow 75 2) (.list 2 ((prC E).map edf)):=by
 refine zX.of_body (c:=(xx Try.prog zE zt 26)) ⟨Try.func47,rfl,Try.ntmps47,by kernel_rfl⟩ zH zw rfl ?_;change FW _ _ _ ⟨[(0,.list 3 (E.map EdC.fv))],[]⟩;refine zb ?_;refine FW.loop (fun i:Nat=>⟨[(0,.list 3 (E.map EdC.fv)),(3,.own 100 0 0 i),(4,.int .i64 i)],[(100,⟨0,.own,75,2,(prC (E.take i)).map edf⟩)]⟩) (fun i=>i≤E.length) (fun i=>E.length - i) 0 (Nat.zero_le _) ?_ ?_
 ·exact (FLe.cv [⟨100,none,0,⟨0,.own,75,2,[]⟩⟩] zf zd)
 intro i hi;have hps:∀ h:i<E.length,prC (E.take (i+1))=prC (E.take i)++[((nth E i).1,(nth E i).2.1)]:=fun h=>by
  unfold prC;rw [List.take_succ_eq_append_getElem h,List.map_append,nth_eq h];rfl
 have hpl:(prC (E.take i)).length=i:=by unfold prC;rw [List.length_map,List.length_take];omega
 have hpe:i=E.length→prC E=prC (E.take i):=fun e=>by rw [e,List.take_length]
 generalize prC (E.take i)=PP at hps hpl hpe ⊢;refine zb ?_;refine FW.cond rfl (fun h=>?_) (fun h=>?_)
 ·have hlt:i<E.length:=by simpa using h
  clear h hpe;have hps:=hps hlt;obtain ⟨⟨x,y,z⟩,he⟩:∃ e,nth E i=e:=⟨_,rfl⟩
  rw [he] at hps;dsimp only at hps;refine zQ ?_;rw [he];refine ⟨by kernel_rfl,?_⟩;refine zb ?_;refine ⟨i+1,by omega,by omega,?_⟩;rw [hps,List.map_append];exact (FLe.cv [⟨100,some 24,0+1,⟨0,.own,75,2,PP.map edf++[(x,y)].map edf⟩⟩] zf zd)
 ·have hie:i=E.length:=by simp at h;omega
  rw [hpe hie];refine zb ?_;exact FW.ret ⟨.inl rfl,zc1 rfl rfl rfl (by rw [List.length_map,hpl]) zg rfl (zku _)⟩
theorem zeK (l:List OpV) (hl:l.length≤1000):zX Try.prog 45 [.list 8 (l.map OpV.fv)] (.ow 46 3) (.list 3 ((zaI l).map EdC.fv)):=by
 have hinc:=fun i hi=>xK l i za hi;have hfin:=ZM l l.length;have hb2:l.length * l.length≤1000000:=Nat.mul_le_mul hl hl;refine zX.of_body (c:=(xx Try.prog zE zt 135)) ⟨Try.func45,rfl,Try.ntmps45,by kernel_rfl⟩ zH zw rfl ?_;change FW _ _ _ ⟨[(0,.list 8 (l.map OpV.fv))],[]⟩;refine zb ?_;refine FW.loop (fun i:Nat=>⟨[(0,.list 8 (l.map OpV.fv)),(3,.own 100 0 0 (WH l i).length),(4,.int .i64 i)],[(100,⟨0,.own,46,3,(WH l i).map EdC.fv⟩)]⟩) (fun i=>i≤l.length) (fun i=>l.length - i) 0 (Nat.zero_le _) ?_ ?_
 ·exact (FLe.cv [⟨100,none,0,⟨0,.own,46,3,[]⟩⟩] zf zd)
 intro i hi;have hto:=zaH l i;have htl:=ZM l i;have hte:i=l.length→zaI l=WH l i:=fun e=>by rw [e];rfl
 generalize WH l i=A at hto htl hte ⊢;refine zb ?_;refine FW.cond rfl (fun h=>?_) (fun h=>?_)
 ·have hil:i<l.length:=by simpa using h
  clear h hte;have hinci:=hinc i hil;have hAl:A.length≤1000000:=Nat.le_trans htl (Nat.le_trans (Nat.mul_le_mul_left _ za) hb2);refine zb ?_;refine FW.loop (fun k:Nat=>⟨[(0,.list 8 (l.map OpV.fv)),(3,.own 100 0 0 (A++xH l i k).length),(4,.int .i64 i),(5,.int .i64 k)],[(100,⟨0,.own,46,3,(A++xH l i k).map EdC.fv⟩)]⟩) (fun k=>k≤l.length) (fun k=>l.length - k) 0 (Nat.zero_le _) ?_ ?_
  ·show FLe _ ⟨[(0,.list 8 (l.map OpV.fv)),(3,.own 100 0 0 (A++([]:List EdC)).length),(4,.int .i64 i),(5,.int .i64 0)],[(100,⟨0,.own,46,3,(A++([]:List EdC)).map EdC.fv⟩)]⟩;rw [List.append_nil];exact (FLe.cv [⟨100,some 100,0,⟨0,.own,46,3,A.map EdC.fv⟩⟩] zf zd)
  intro k hk;have hrow:A++xH l i (k+1)=(A++xH l i k)++zkt l i k:=by rw [UA,List.append_assoc]
  have hrl:=WP l i k;have hre:k=l.length→A++xH l i l.length=A++xH l i k:=fun e=>by rw [e]
  have hBl:(A++xH l i k).length≤1001000:=by rw [List.length_append];omega
  generalize A++xH l i k=B at hrow hre hBl ⊢;refine zb ?_;refine FW.cond rfl (fun h=>?_) (fun h=>?_)
  ·have hkl:k<l.length:=by simpa using h
   clear h hre;have hinck:=hinc k hkl;have hed:zkt l i k=if (zK l i && (zK l k && decide (i≠k)))=true then (if WE l i k (k - (i+1))=true then [(i,k,1)] else if zoX l i k=true then [(i,k,2)] else []) else []:=rfl
   have hn0:WE l i k 0=(decide (i<k) && decide ((nth l i).p=(nth l k).p)):=rfl;have hrd:zoX l i k=(decide ((nth l k).k=0) && (decide ((nth l i).k=1) && (decide ((nth l k).key=(nth l i).key) && decide ((nth l k).res=(nth l i).arg)))):=rfl;obtain ⟨oi,hoi⟩:∃ oi,nth l i=oi:=⟨_,rfl⟩
   obtain ⟨ok,hok⟩:∃ ok,nth l k=ok:=⟨_,rfl⟩
   rw [hoi,hok] at hn0 hrd;generalize zK l i=bi at hinci hed;generalize zK l k=bk at hinck hed;refine zb ?_;refine zS hinci (by repeat (first|exact zu.nil|refine zu.cons zm ?_)) rfl rfl ?_;cases bi with
   | false =>
    rw [Bool.false_and,if_neg zg] at hed;refine zb ?_;refine ⟨k+1,by omega,by omega,?_⟩;rw [hrow,hed,List.append_nil];exact (FLe.cv [⟨100,some 100,0,⟨0,.own,46,3,B.map EdC.fv⟩⟩] zf zd)
   | true =>
   rw [Bool.true_and] at hed;refine zb ?_;refine zS hinck (by repeat (first|exact zu.nil|refine zu.cons zm ?_)) rfl ⟨_,_,rfl,rfl,rfl⟩ ?_;cases bk with
   | false =>
    rw [Bool.false_and,if_neg zg] at hed;refine zb ?_;refine ⟨k+1,by omega,by omega,?_⟩;rw [hrow,hed,List.append_nil];exact (FLe.cv [⟨100,some 100,0,⟨0,.own,46,3,B.map EdC.fv⟩⟩] zf zd)
   | true =>
   rw [Bool.true_and] at hed
   (repeat (first|refine zn.nil ?_|refine zV rfl rfl rfl ?_|refine zG rfl rfl rfl ?_|refine zd9 rfl rfl rfl rfl ?_|refine zG rfl rfl ⟨_,_,rfl,rfl,rfl⟩ ?_|refine zlK rfl rfl rfl ⟨_,_,rfl,rfl,rfl⟩ ?_))
   refine FW.seq ?_;refine FW.seq ?_;refine FW.region ?_
   (repeat (first|refine zn.nil ?_|refine zG rfl rfl rfl ?_|refine zlN rfl rfl rfl ?_))
   refine FW.cond rfl (fun h1=>?_) (fun h1=>?_)
   ·rw [if_neg (fun q=>by simp at h1 q;omega)] at hed;refine zb ?_;refine ⟨k+1,by omega,by omega,?_⟩;rw [hrow,hed,List.append_nil];exact (FLe.cv [⟨100,some 100,0,⟨0,.own,46,3,B.map EdC.fv⟩⟩] zf zd)
   rw [if_pos (by simp at h1 ⊢;omega)] at hed;refine FW.skip ?_;refine FW.seq ?_;refine FW.join (fun _:Unit=>⟨[(0,.list 8 (l.map OpV.fv)),(3,.own 100 0 0 B.length),(4,.int .i64 i),(5,.int .i64 k),(7,.bool (WE l i k 0))],[(100,⟨0,.own,46,3,B.map EdC.fv⟩)]⟩) (fun _=>True) ?_ ?_
   ·refine zQ ?_;refine yz (fun h2=>?_) (fun h2=>?_)
    ·refine zp ?_;rw [hoi,hok];skip;refine ⟨by kernel_rfl,?_⟩;refine ⟨rfl,(),trivial,?_⟩;rw [hn0,decide_eq_true (show i<k by simpa using h2),Bool.true_and];exact (FLe.cv [⟨100,some 100,0,⟨0,.own,46,3,B.map EdC.fv⟩⟩] zf zd)
    ·refine zp ?_;refine ⟨by kernel_rfl,?_⟩;refine ⟨rfl,(),trivial,?_⟩;rw [hn0,decide_eq_false (show ¬ i<k by simp at h2;omega),Bool.false_and];exact (FLe.cv [⟨100,some 100,0,⟨0,.own,46,3,B.map EdC.fv⟩⟩] zf zd)
   rintro _ _;refine zb ?_;refine FW.loop (fun m:Nat=>⟨[(0,.list 8 (l.map OpV.fv)),(3,.own 100 0 0 B.length),(4,.int .i64 i),(5,.int .i64 k),(7,.bool (WE l i k m)),(8,.int .i64 (i+1+m:Nat))],[(100,⟨0,.own,46,3,B.map EdC.fv⟩)]⟩) (fun m=>m≤k - (i+1)) (fun m=>k - (i+1) - m) 0 (Nat.zero_le _) ?_ ?_
   ·show FLe _ ⟨[(0,.list 8 (l.map OpV.fv)),(3,.own 100 0 0 B.length),(4,.int .i64 i),(5,.int .i64 k),(7,.bool (WE l i k 0)),(8,.int .i64 (i+1:Nat))],[(100,⟨0,.own,46,3,B.map EdC.fv⟩)]⟩;exact (FLe.cv [⟨100,some 100,0,⟨0,.own,46,3,B.map EdC.fv⟩⟩] zf zd)
   intro m hm;have hnx:WE l i k (m+1)=(WE l i k m && !(zK l (i+1+m) && decide ((nth l (i+1+m)).p=(nth l i).p))):=rfl;have hlast:m=k - (i+1)→WE l i k (k - (i+1))=WE l i k m:=fun e=>by rw [e]
   generalize WE l i k m=nx at hnx hlast ⊢;refine zb ?_;refine FW.cond rfl (fun h=>?_) (fun h=>?_)
   ·have hjk:i+1+m<k:=by simp at h;omega
    clear h hlast;have hjl:i+1+m<l.length:=by omega
    have hincj:=hinc (i+1+m) hjl;obtain ⟨oj,hoj⟩:∃ oj,nth l (i+1+m)=oj:=⟨_,rfl⟩
    rw [hoi,hoj] at hnx;generalize zK l (i+1+m)=bj at hincj hnx;obtain ⟨j,hj⟩:∃ j,i+1+m=j:=⟨_,rfl⟩
    rw [hj] at hincj hoj hjl hjk ⊢;refine zb ?_;refine zS hincj (by repeat (first|exact zu.nil|refine zu.cons zm ?_)) rfl rfl ?_;cases nx with
    | false =>
     refine zQ ?_;refine ⟨by kernel_rfl,?_⟩;refine zb ?_;refine ⟨m+1,by omega,by omega,?_⟩;rw [hnx];show FLe _ ⟨[(0,.list 8 (l.map OpV.fv)),(3,.own 100 0 0 B.length),(4,.int .i64 i),(5,.int .i64 k),(7,.bool false),(8,.int .i64 (i+1+(m+1):Nat))],[(100,⟨0,.own,46,3,B.map EdC.fv⟩)]⟩;rw [show i+1+(m+1)=j+1 by omega];exact (FLe.cv [⟨100,some 100,0,⟨0,.own,46,3,B.map EdC.fv⟩⟩] zf zd)
    | true =>
    cases bj with
    | false =>
     refine zQ ?_;refine ⟨by kernel_rfl,?_⟩;refine zb ?_;refine ⟨m+1,by omega,by omega,?_⟩;rw [hnx];show FLe _ ⟨[(0,.list 8 (l.map OpV.fv)),(3,.own 100 0 0 B.length),(4,.int .i64 i),(5,.int .i64 k),(7,.bool true),(8,.int .i64 (i+1+(m+1):Nat))],[(100,⟨0,.own,46,3,B.map EdC.fv⟩)]⟩;rw [show i+1+(m+1)=j+1 by omega];exact (FLe.cv [⟨100,some 100,0,⟨0,.own,46,3,B.map EdC.fv⟩⟩] zf zd)
    | true =>
     refine zQ ?_;rw [hoj,hoi];skip;refine ⟨by kernel_rfl,?_⟩;refine zb ?_;refine ⟨m+1,by omega,by omega,?_⟩;rw [hnx];show FLe _ ⟨[(0,.list 8 (l.map OpV.fv)),(3,.own 100 0 0 B.length),(4,.int .i64 i),(5,.int .i64 k),(7,.bool (!decide (oj.p=oi.p))),(8,.int .i64 (i+1+(m+1):Nat))],[(100,⟨0,.own,46,3,B.map EdC.fv⟩)]⟩;rw [show i+1+(m+1)=j+1 by omega];exact (FLe.cv [⟨100,some 100,0,⟨0,.own,46,3,B.map EdC.fv⟩⟩] zf zd)
   ·have hme:m=k - (i+1):=by simp at h;omega
    rw [hlast hme] at hed;clear h hlast hnx hn0;cases nx with
    | true =>
     rw [if_pos rfl] at hed;refine zb ?_;refine ⟨k+1,by omega,by omega,?_⟩;rw [hrow,hed,List.map_append,show (B++[((i,k,1):EdC)]).length=B.length+1 by simp];exact (FLe.cv [⟨100,some 87,0+1,⟨0,.own,46,3,B.map EdC.fv++[(i,k,1)].map EdC.fv⟩⟩] zf zd)
    | false=>
     rw [if_neg zg] at hed;refine zQ ?_;rw [hok];refine yz (fun h2=>?_) (fun h2=>?_)
     ·rw [h2,Bool.true_and] at hrd;refine zp ?_;rw [hoi];refine yz (fun h3=>?_) (fun h3=>?_)
      ·rw [h3,Bool.true_and] at hrd;refine zp ?_;rw [hoi,hok];refine yz (fun h4=>?_) (fun h4=>?_)
       ·rw [h4,Bool.true_and] at hrd;refine zp ?_;rw [hoi,hok];skip;refine ⟨by kernel_rfl,?_⟩;refine FW.cond rfl (fun h5=>?_) (fun h5=>?_)
        ·rw [hrd,if_pos h5] at hed;refine zb ?_;refine ⟨k+1,by omega,by omega,?_⟩;rw [hrow,hed,List.map_append,show (B++[((i,k,2):EdC)]).length=B.length+1 by simp];exact (FLe.cv [⟨100,some 133,0+1,⟨0,.own,46,3,B.map EdC.fv++[(i,k,2)].map EdC.fv⟩⟩] zf zd)
        ·rw [hrd,if_neg (by rw [h5];decide)] at hed;refine zb ?_;refine ⟨k+1,by omega,by omega,?_⟩;rw [hrow,hed,List.append_nil];exact (FLe.cv [⟨100,some 100,0,⟨0,.own,46,3,B.map EdC.fv⟩⟩] zf zd)
       ·rw [h4,Bool.false_and] at hrd;rw [hrd,if_neg zg] at hed;refine zp ?_;refine ⟨by kernel_rfl,?_⟩;refine zb ?_;refine ⟨k+1,by omega,by omega,?_⟩;rw [hrow,hed,List.append_nil];exact (FLe.cv [⟨100,some 100,0,⟨0,.own,46,3,B.map EdC.fv⟩⟩] zf zd)
      ·rw [h3,Bool.false_and] at hrd;rw [hrd,if_neg zg] at hed;refine zp ?_;refine ⟨by kernel_rfl,?_⟩;refine zb ?_;refine ⟨k+1,by omega,by omega,?_⟩;rw [hrow,hed,List.append_nil];exact (FLe.cv [⟨100,some 100,0,⟨0,.own,46,3,B.map EdC.fv⟩⟩] zf zd)
     ·rw [h2,Bool.false_and] at hrd;rw [hrd,if_neg zg] at hed;refine zp ?_;refine ⟨by kernel_rfl,?_⟩;refine zb ?_;refine ⟨k+1,by omega,by omega,?_⟩;rw [hrow,hed,List.append_nil];exact (FLe.cv [⟨100,some 100,0,⟨0,.own,46,3,B.map EdC.fv⟩⟩] zf zd)
  ·have hke:k=l.length:=by simp at h;omega
   refine zb ?_;refine ⟨i+1,by omega,by omega,?_⟩;rw [hto,hre hke];exact (FLe.cv [⟨100,some 100,0,⟨0,.own,46,3,B.map EdC.fv⟩⟩] zf zd)
 ·have hie:i=l.length:=by simp at h;omega
  have hAl:A.length≤1000000:=Nat.le_trans htl (Nat.le_trans (Nat.mul_le_mul_left _ za) hb2);rw [hte hie];refine zb ?_;exact FW.ret ⟨.inl rfl,zc1 rfl rfl rfl zc zg rfl (EdC.flatsM _)⟩
def wcN:List Nat→FV
 | [] => .nil
 | x :: l => .list 1 ((x :: l).map yp)
def wrN (l:List Nat):List FV:=[wcN l]
def WJ (E:List EdC) (w:List Nat) (m:Nat):List EdC:=(List.range m).map fun q=>zhJ E (nth w q) (nth w (q+1))
theorem zcE (E:List EdC):∀ w:List Nat,zgH E w=WJ E w (w.length - 1)
 | [] => rfl
 | [_] => rfl
 | a :: b :: r => by
  unfold zgH;rw [zcE E (b::r)];unfold WJ;rw [show (a::b::r).length - 1=(b::r).length - 1+1 by simp,List.range_succ_eq_map,List.map_cons,List.map_map];rfl
theorem zgI (E:List EdC) (w:List Nat) (m:Nat):WJ E w (m+1)=WJ E w m++[zhJ E (nth w m) (nth w (m+1))]:=by unfold WJ;rw [List.range_succ,List.map_append];rfl
theorem zU {n i:Nat} (h:i<n):nth (List.range n) i=i:=by rw [nth_eq (by simpa using h)];simp
theorem zcV (n:Nat) (E:List EdC) (x y:Nat) (hn:n≤1000) (hE:E.length≤1000000) (hin:∀ e∈E,e.1<n∧e.2.1<n) (hx:x<n) (hy:y<n):zX Try.prog 68 [.int .i64 n,.list 3 (E.map EdC.fv),.int .i64 x,.int .i64 y] (.ow 46 3) (.list 3 ((zd1 E n x y).map EdC.fv)):=by
 have hsome:∀ k,k<n→nth (ZD E y n (k+1)) x≠[]→(∀ j,j<k→nth (ZD E y n (j+1)) x=[])→zd1 E n x y=zgH E (nth (ZD E y n (k+1)) x):=fun k h1 h2 h3=>by
  unfold zd1;have:=xi (p:=fun k=>decide (nth (ZD E y n (k+1)) x≠[])) (l:=List.range n) (j:=k) (fun i hi=>by rw [zU za];simpa using h3 i hi) (by simpa using h1) (by rw [zU h1];simpa using h2);rw [this,zU h1]
 have hnone:(∀ j,j<n→nth (ZD E y n (j+1)) x=[])→zd1 E n x y=[]:=fun h=>by
  unfold zd1;rw [xO (p:=fun k=>decide (nth (ZD E y n (k+1)) x≠[])) fun i hi=>by rw [zU (by simpa using hi)];simpa using h i (by simpa using hi)]
 obtain ⟨R,hR⟩:∃ R,zd1 E n x y=R:=⟨_,rfl⟩
 rw [hR] at hsome hnone ⊢;clear hR;refine zX.of_body (c:=(xx Try.prog zE zt 117)) ⟨Try.func68,rfl,Try.ntmps68,by kernel_rfl⟩ zH zw rfl ?_;change FW _ _ _ ⟨[(0,.int .i64 n),(1,.list 3 (E.map EdC.fv)),(2,.int .i64 x),(3,.int .i64 y)],[]⟩;refine ZQ ?_;rw [show List.replicate n [FV.nil]=(List.replicate n []).map wrN by rw [List.map_replicate];rfl];have hrl:(List.replicate n ([]:List Nat)).length=n:=List.length_replicate;refine yK (es:=[yp y]) rfl rfl rfl (by refine yT.int rfl rfl ?_;exact yT.nil) rfl rfl rfl rfl rfl ?_;refine zb ?_;refine FW.loop (fun k:Nat=>⟨[(0,.int .i64 n),(1,.list 3 (E.map EdC.fv)),(2,.int .i64 x),(3,.int .i64 y),(9,.list 1 ((ZD E y n k).map wrN)),(10,.int .i64 (k+1:Nat))],[]⟩) (fun k=>k≤n∧∀ j,j<k→nth (ZD E y n (j+1)) x=[]) (fun k=>n - k) 0 ⟨Nat.zero_le _,fun j hj=>by omega⟩ ?_ ?_
 ·rw [show ((List.replicate n []).map wrN).set y ((wrN (nth (List.replicate n []) y)).set 0 (.list 1 [yp y]))=(ZD E y n 0).map wrN by show _=((List.replicate n []).set y [y]).map wrN;rw [List.map_set];rfl];refine (FLe.share 9 rfl rfl (by rw [List.length_map,zew])).trans ?_;exact (FLe.cv [] zB zd)
 rintro k ⟨hk,hpre⟩;have hbl:=zew E y n k;have hbr:=zhn E y n k;have hbs:ZD E y n (k+1)=Xs (ZD E y n k) n E:=rfl;have hsome:=hsome k;refine zb ?_;refine FW.cond rfl (fun h=>?_) (fun h=>?_)
 ·have hlt:k<n:=by simp at h;omega
  clear h;have hsome:=hsome hlt;obtain ⟨O,hO⟩:∃ O,ZD E y n k=O:=⟨_,rfl⟩
  rw [hO] at hbl hbr hbs ⊢;refine zb ?_;rw [show List.replicate n [FV.nil]=(Xs O n (E.take 0)).map wrN by show _=(List.replicate n []).map wrN;rw [List.map_replicate];rfl];refine FW.loop (fun i:Nat=>⟨[(0,.int .i64 n),(1,.list 3 (E.map EdC.fv)),(2,.int .i64 x),(3,.int .i64 y),(9,.list 1 (O.map wrN)),(10,.int .i64 (k+1:Nat)),(11,.own 100 0 0 n),(12,.int .i64 i)],[(100,⟨0,.own,22,1,(Xs O n (E.take i)).map wrN⟩)]⟩) (fun i=>i≤E.length) (fun i=>E.length - i) 0 (Nat.zero_le _) ?_ ?_
  ·exact (FLe.cv [⟨100,some 31,0+1,⟨0,.own,22,1,(Xs O n (E.take 0)).map wrN⟩⟩] zf zd)
  intro i hi;have hNl:=zft O n (E.take i);have hNr:=zhS hbr n (E.take i);have hNs:∀ h:i<E.length,Xs O n (E.take (i+1))=Ur O (Xs O n (E.take i)) (nth E i):=fun h=>by rw [List.take_succ_eq_append_getElem h,zi7,nth_eq h]
  have hNe:i=E.length→ZD E y n (k+1)=Xs O n (E.take i):=fun e=>by rw [hbs,e,List.take_length]
  generalize Xs O n (E.take i)=N at hNl hNr hNs hNe ⊢;refine zb ?_;refine FW.cond rfl (fun h=>?_) (fun h=>?_)
  ·have hil:i<E.length:=by simpa using h
   clear h hNe;have hNs:=hNs hil;obtain ⟨hea,heb⟩:=hin _ (zC hil);have hea0:=hea;have heb0:=heb;obtain ⟨⟨a,b,z⟩,he⟩:∃ e,nth E i=e:=⟨_,rfl⟩
   rw [he] at hNs hea heb;dsimp only at hea heb;unfold Ur at hNs;dsimp only at hNs;have hol:(nth O b).length≤k+1:=hbr _ (zC za);have hnl:(nth N a).length≤k+1+1:=hNr _ (zC za);refine zb ?_;rw [he];dsimp only;rcases hOb:nth O b with _|⟨x0,r⟩
   ·rw [hOb,if_pos rfl] at hNs;refine zb ?_;refine ⟨i+1,by omega,by omega,?_⟩;rw [hNs];exact (FLe.cv [⟨100,some 100,0,⟨0,.own,22,1,N.map wrN⟩⟩] zf zd)
   ·rw [hOb] at hNs hol;rw [if_neg zc] at hNs
    (repeat (first|refine FW.seq ?_|refine FW.region ?_|refine FW.skip ?_|refine FW.condF rfl ?_|refine zn.nil ?_|refine zG rfl rfl rfl ?_|refine YM rfl rfl rfl rfl rfl rfl rfl rfl ?_|refine XM rfl rfl rfl rfl rfl rfl zx rfl rfl ?_|refine YN rfl rfl (by first|exact List.length_map _|rfl|(simp;omega)) rfl rfl ?_|refine xc rfl rfl rfl zx Xa rfl rfl rfl rfl ?_|refine zlF rfl rfl rfl rfl ?_))
    rw [hOb];refine zmW (es2:=(x0::r).map yp) rfl rfl rfl rfl rfl rfl zg (Zv.list rfl) (by simp at hol ⊢;omega) (by simp at hol ⊢;omega) rfl rfl rfl ?_;obtain ⟨W,hW⟩:∃ W,a::x0::r=W:=⟨_,rfl⟩
    rw [show ([[FV.int .i64 (a:Int)]]++(x0::r).map yp:List (List FV))=W.map yp by rw [← hW];rfl];have hWl:W.length≤k+2:=by rw [← hW];simp at hol ⊢;omega
    have hWc:FV.list 1 (W.map yp)=wcN W:=by rw [← hW];rfl
    rw [hW] at hNs;refine zb ?_;rcases hNa:nth N a with _|⟨y0,r2⟩
    ·rw [if_pos (.inl hNa)] at hNs;refine zb ?_;refine ⟨i+1,by omega,by omega,?_⟩;rw [hNs,show (N.map wrN).set a ((wrN (nth N a)).set 0 (.list 1 (W.map yp)))=(N.set a W).map wrN by rw [List.map_set,hWc];rfl];exact (FLe.cv [⟨100,some 100,0,⟨0,.own,22,1,(N.set a W).map wrN⟩⟩] zf zd)
    ·have hles:=zgN W (y0::r2) za (by rw [← hNa];omega);refine zb ?_;rw [hNa];refine zS hles (by repeat (first|exact zu.nil|refine zu.cons zm ?_)) rfl ⟨_,_,rfl,rfl,rfl⟩ ?_;refine zb ?_;refine FW.cond rfl (fun h3=>?_) (fun h3=>?_)
     ·rw [if_pos (.inr (by rw [hNa];exact h3))] at hNs;refine zb ?_;refine ⟨i+1,by omega,by omega,?_⟩;rw [hNs,show (N.map wrN).set a ((wrN (nth N a)).set 0 (.list 1 (W.map yp)))=(N.set a W).map wrN by rw [List.map_set,hWc];rfl];exact (FLe.cv [⟨100,some 100,0,⟨0,.own,22,1,(N.set a W).map wrN⟩⟩] zf zd)
     ·rw [if_neg (by rw [hNa];rintro (q|q);· cases q
                     ·rw [h3] at q;cases q)] at hNs
      refine zb ?_;refine ⟨i+1,by omega,by omega,?_⟩;rw [hNs];exact (FLe.cv [⟨100,some 100,0,⟨0,.own,22,1,N.map wrN⟩⟩] zf zd)
  ·have hie:i=E.length:=by simp at h;omega
   have hNe:=hNe hie;refine FW.le ?_ (FLe.share 11 rfl rfl (by rw [List.length_map,hNl]));have hsome:=fun h=>hsome h hpre;have hpre2:nth N x=[]→∀ j,j<k+1→nth (ZD E y n (j+1)) x=[]:=fun h j hj=>by
    rcases Nat.lt_succ_iff_lt_or_eq.1 hj with h'|rfl
    ·exact hpre j h'
    ·rw [hNe];exact h
   rw [hNe] at hsome;have hxl:(nth N x).length≤k+1+1:=hNr _ (zC za);refine zb ?_;rcases hNx:nth N x with _|⟨x0,r⟩
   ·refine zb ?_;refine ⟨k+1,⟨by omega,hpre2 hNx⟩,by omega,?_⟩;rw [hNe];exact (FLe.cv [] zB zd)
   ·have hRe:=hsome (by rw [hNx];simp);rw [hNx,zcE] at hRe;rw [hNx] at hxl;clear hsome hpre2 hNr;obtain ⟨W,hW⟩:∃ W,x0::r=W:=⟨_,rfl⟩
    have hWp:0<W.length:=by rw [← hW];simp
    rw [hW] at hRe hxl hNx;have hWc:wcN W=.list 1 (W.map yp):=by rw [← hW];rfl
    rw [hW,hWc];refine zb ?_;refine FW.condT (congrArg FV.bool (decide_eq_true za)) ?_;refine zb ?_;refine FW.loop (fun m:Nat=>⟨[(1,.list 3 (E.map EdC.fv)),(2,.int .i64 x),(9,.list 1 (N.map wrN)),(16,.own 120 0 0 m),(17,.int .i64 m)],[(120,⟨0,.own,46,3,(WJ E W m).map EdC.fv⟩)]⟩) (fun m=>m≤W.length - 1) (fun m=>W.length - 1 - m) 0 (Nat.zero_le _) ?_ ?_
    ·exact (FLe.cv [⟨120,none,0,⟨0,.own,46,3,[]⟩⟩] zf zd)
    intro m hm;have hls:=zgI E W m;have hll:(WJ E W m).length=m:=by simp [WJ]
    have hle:m=W.length - 1→R=WJ E W m:=fun e=>by rw [hRe,e]
    generalize WJ E W m=LL at hls hll hle ⊢;refine zb ?_;rw [hNx,hWc];refine zb ?_;refine FW.cond rfl (fun h=>?_) (fun h=>?_)
    ·have hml:m+1<W.length:=by simp at h;omega
     clear h hle;have hlab:=zcD E (nth W m) (nth W (m+1)) hE;generalize zhJ E (nth W m) (nth W (m+1))=e at hlab hls;refine zQ ?_;rw [hNx,hWc];refine zp ?_;rw [hNx,hWc];refine zp ?_;refine Uk hlab (by repeat (first|exact zu.nil|refine zu.cons zm ?_)) rfl rfl ?_;refine zp ?_;refine ⟨by kernel_rfl,?_⟩;refine zb ?_;refine ⟨m+1,by omega,by omega,?_⟩;rw [hls,List.map_append];exact (FLe.cv [⟨120,some 115,0+1,⟨0,.own,46,3,LL.map EdC.fv++[e].map EdC.fv⟩⟩] zf zd)
    ·have hme:m=W.length - 1:=by simp at h;omega
     rw [hle hme];refine zb ?_;exact FW.ret ⟨.inl rfl,zc1 rfl rfl rfl (by rw [List.length_map,hll]) zg rfl (EdC.flatsM _)⟩
 ·have hke:k=n:=by simp at h;omega
  subst hke;have hRe:=hnone hpre;subst hRe;refine zb ?_;exact FW.ret ⟨.inl rfl,.owNil _ _ rfl rfl⟩
theorem xh {α β:Type} (p:α→Bool) (f:α→Option β):∀ L:List α,(L.filter p).findSome? f=L.findSome? fun x=>if p x=true then f x else none
 | [] => rfl
 | a :: L => by
  rw [List.findSome?_cons];by_cases h:p a=true
  ·rw [List.filter_cons_of_pos h,List.findSome?_cons,if_pos h,xh p f L]
  ·rw [List.filter_cons_of_neg h,if_neg h,xh p f L]
def UR (l:List OpV) (q:Nat):Option (Nat×Nat×Nat):=if zK l q=true then xX l q else none
theorem zcN (l:List OpV):Ug l=(List.range l.length).findSome? (UR l):=xh _ _ _
theorem Zo (l:List OpV) (p:Nat→Bool):(zO l l.length).find? p=(List.range l.length).find? fun w=>zK l w && p w:=by
 unfold zO;rw [List.find?_filter];congr 1;funext i;cases zK l i <;> simp
theorem zoM {l:List OpV} (h:WY l=none) {r:Nat} (hr:r<l.length) (h1:(nth l r).k=0) (h2:(nth l r).done=true) (h3:(nth l r).res≠0):zK l r=true∧∃ w,yR l r=some w∧zf8 l (nth l r).key (nth l r).res=w:=by
 have hi:zK l r=true:=by unfold zK;rw [h2];rfl
 refine ⟨hi,?_⟩;have:=List.find?_eq_none.1 h r (xC.2 ⟨hr,hi⟩);unfold XS at this;rw [decide_eq_true h1,decide_eq_true h3] at this;unfold yR at this ⊢;rw [if_neg (by rintro (h|h);exact h h1;exact h3 h)] at this ⊢;rcases zdp l (nth l r).key (nth l r).res with ⟨q1,q2⟩|⟨w,q1,q2,_⟩
 ·rw [q1] at this;simp at this
 ·exact ⟨w,q1,q2⟩
def zcT (l:List OpV):FV:=match Ug l with
 | some (w1, w2, i) => .tup [.agg (YS 5 7 (nth l i).key [w1, w2, i] (Zr l w1 w2 ++ Zr l w2 i)), .bool true]
 | none => .tup [.agg (YS 0 0 0 [] []), .bool false]
theorem zfD (l:List OpV) (hl:l.length≤1000) (hd:Yi l) (ht:WY l=none):zX Try.prog 49 [.list 8 (l.map OpV.fv),.list 3 ((zaI l).map EdC.fv)] .sh (zcT l):=by
 have hEl:(zaI l).length≤1000000:=Nat.le_trans (ZM l l.length) (Nat.mul_le_mul hl hl);have hpt:=fun x y hx hy=>zcV l.length (zaI l) x y hl hEl (zgw l) hx hy;have hpe:=fun x y (hx:x<l.length) (hy:y<l.length)=>zcU hd hx hy;have hinc:=fun i hi=>xK l i za hi;have hwr:=fun i=>Zf l (nth l i).key (nth l i).res za;obtain ⟨R,hR⟩:∃ R,zcT l=R:=⟨_,rfl⟩
 have hRh:R.hand=none:=by rw [← hR];unfold zcT;split <;> rfl
 have hyes:∀ r w1 w2,r<l.length→(∀ q,q<r→UR l q=none)→zK l r=true→yR l r=some w1→w2<l.length→(∀ q,q<w2→(zK l q && WF l r w1 q)=false)→(zK l w2 && WF l r w1 w2)=true→R=.tup [.agg (YS 5 7 (nth l r).key [w1,w2,r] (Zr l w1 w2++Zr l w2 r)),.bool true]:=fun r w1 w2 h1 h2 h3 h4 h5 h6 h7=>by
  have h8:UR l r=some (w1,w2,r):=by
   unfold UR xX;rw [if_pos h3,h4];show ((zO l l.length).find? _).map _=_;rw [Zo,xi (j:=w2) (fun i hi=>by rw [zU za];exact h6 i hi) (by simpa using h5) (by rw [zU h5];exact h7),zU h5];rfl
  rw [← hR];unfold zcT;rw [zcN,xr (j:=r) (fun i hi=>by rw [zU za];exact h2 i hi) (by simpa using h1) (by rw [zU h1];exact h8)]
 have hno:(∀ i,i<l.length→UR l i=none)→R=.tup [.agg (YS 0 0 0 [] []),.bool false]:=fun h=>by
  rw [← hR];unfold zcT;rw [zcN,Za fun i hi=>by rw [zU (by simpa using hi)];exact h i (by simpa using hi)]
 have hg0:∀ i,yR l i=none∨zK l i=false→UR l i=none:=fun i h=>by
  unfold UR xX;rcases h with h|h
  ·rw [h];split <;> rfl
  ·rw [h];rfl
 have hg1:∀ i w1,yR l i=some w1→(∀ m,m<l.length→(zK l m && WF l i w1 m)=false)→UR l i=none:=fun i w1 h h2=>by
  unfold UR xX;split
  ·rw [h];show ((zO l l.length).find? _).map _=_;rw [Zo,xO fun i hi=>by rw [zU (by simpa using hi)];exact h2 i (by simpa using hi)];rfl
  ·rfl
 rw [hR];clear hR;obtain ⟨E,hE⟩:∃ E,zaI l=E:=⟨_,rfl⟩
 rw [hE] at hpt hpe ⊢;refine zX.of_body (c:=(xx Try.prog zE zt 124)) ⟨Try.func49,rfl,Try.ntmps49,by kernel_rfl⟩ zH zw hRh ?_;change FW _ _ _ ⟨[(0,.list 8 (l.map OpV.fv)),(1,.list 3 (E.map EdC.fv))],[]⟩;refine zb ?_;refine FW.loop (fun r:Nat=>⟨[(0,.list 8 (l.map OpV.fv)),(1,.list 3 (E.map EdC.fv)),(4,.ptr 104 0 0 0),(6,.int .i64 r)],[(104,⟨0,.own,36,5,[[.int .i64 0,.int .i64 0,.int .i64 0,.nil,.nil]]⟩)]⟩) (fun r=>r≤l.length∧∀ q,q<r→UR l q=none) (fun r=>l.length - r) 0 ⟨Nat.zero_le _,fun i hi=>absurd hi (Nat.not_lt_zero _)⟩ ?_ ?_
 ·exact (FLe.cv [⟨104,some 4,0+1,⟨0,.own,36,5,[[.int .i64 0,.int .i64 0,.int .i64 0,.nil,.nil]]⟩⟩] zf zd)
 rintro r ⟨hr,hpre⟩;refine zb ?_;refine FW.cond rfl (fun h=>?_) (fun h=>?_)
 ·have hrl:r<l.length:=by simpa using h
  clear h;have hyes:=fun w1 w2=>hyes r w1 w2 hrl hpre;have hnext:UR l r=none→∀ q,q<r+1→UR l q=none:=fun h q hq=>by
   rcases Nat.lt_succ_iff_lt_or_eq.1 hq with h'|rfl
   ·exact hpre q h'
   ·exact h
  have hg0:=hg0 r;have hg1:=hg1 r;have hwr:=hwr r;have hnt:=zoM ht hrl;have hk0:(nth l r).k≠0∨(nth l r).res=0→yR l r=none:=fun h=>by unfold yR;rw [if_pos h]
  have hnd:(nth l r).k=0→(nth l r).done=false→zK l r=false:=fun h1 h2=>by unfold zK;rw [h2,h1];rfl
  have hflt:=fun w=>zae (l:=l) (i:=r) (w:=w);obtain ⟨o,ho⟩:∃ o,nth l r=o:=⟨_,rfl⟩
  rw [ho] at hyes hwr hnt hk0 hnd hflt;refine zb ?_;rw [ho];skip;refine zP (fun h1=>?_) (fun h1=>?_)
  ·refine zb ?_;refine ⟨r+1,⟨by omega,hnext ?_⟩,by omega,(FLe.cv [⟨104,some 104,0,⟨0,.own,36,5,[[.int .i64 0,.int .i64 0,.int .i64 0,.nil,.nil]]⟩⟩] zf zd)⟩;exact hg0 (.inl (hk0 (.inl (by simpa using h1))))
  have hk:o.k=0:=by simpa using h1
  refine zb ?_;rw [ho];skip;cases hdn:o.done with
  | false =>
   refine zb ?_;refine ⟨r+1,⟨by omega,hnext ?_⟩,by omega,(FLe.cv [⟨104,some 104,0,⟨0,.own,36,5,[[.int .i64 0,.int .i64 0,.int .i64 0,.nil,.nil]]⟩⟩] zf zd)⟩;exact hg0 (.inr (hnd hk hdn))
  | true =>
  refine zb ?_;rw [ho];skip;refine FW.cond rfl (fun h2=>?_) (fun h2=>?_)
  ·refine zb ?_;refine ⟨r+1,⟨by omega,hnext ?_⟩,by omega,(FLe.cv [⟨104,some 104,0,⟨0,.own,36,5,[[.int .i64 0,.int .i64 0,.int .i64 0,.nil,.nil]]⟩⟩] zf zd)⟩;exact hg0 (.inl (hk0 (.inr (by simpa using h2))))
  have hres:o.res≠0:=by simpa using h2
  obtain ⟨hri,w1,hf,hci⟩:=hnt hk hdn hres;rw [hci] at hwr;obtain ⟨hw1n,_⟩:=hflt w1 hf;have hyes:=fun w2=>hyes w1 w2 hri hf;have hg1:=hg1 w1 hf;refine zQ ?_;rw [ho];refine Uk hwr (by repeat (first|exact zu.nil|refine zu.cons zm ?_)) rfl rfl ?_;refine zp ?_;refine ⟨by kernel_rfl,?_⟩;refine zb ?_;refine FW.loop (fun m:Nat=>⟨[(0,.list 8 (l.map OpV.fv)),(1,.list 3 (E.map EdC.fv)),(4,.ptr 104 0 0 0),(6,.int .i64 r),(7,.int .i64 w1),(8,.int .i64 m)],[(104,⟨0,.own,36,5,[[.int .i64 0,.int .i64 0,.int .i64 0,.nil,.nil]]⟩)]⟩) (fun m=>m≤l.length∧∀ q,q<m→(zK l q && WF l r w1 q)=false) (fun m=>l.length - m) 0 ⟨Nat.zero_le _,fun i hi=>absurd hi (Nat.not_lt_zero _)⟩ ?_ ?_
  ·exact (FLe.cv [⟨104,some 104,0,⟨0,.own,36,5,[[.int .i64 0,.int .i64 0,.int .i64 0,.nil,.nil]]⟩⟩] zf zd)
  rintro m ⟨hm,hpre2⟩;refine zb ?_;refine FW.cond rfl (fun h=>?_) (fun h=>?_)
  ·have hml:m<l.length:=by simpa using h
   clear h;have hyes:=hyes m hml hpre2;have hnext2:(zK l m && WF l r w1 m)=false→∀ q,q<m+1→(zK l q && WF l r w1 q)=false:=fun h q hq=>by
    rcases Nat.lt_succ_iff_lt_or_eq.1 hq with h'|rfl
    ·exact hpre2 q h'
    ·exact h
   have hincm:=hinc m hml;have hP1:=hpt w1 m hw1n hml;have hP2:=zX.sh_of_ow (hpt m r hml hrl);rw [hpe w1 m hw1n hml] at hP1;rw [hpe m r hml hrl] at hP2;have hl1:=ZI (l:=l) (x:=w1) (y:=m);have hl2:=ZI (l:=l) (x:=m) (y:=r);have hob:WF l r w1 m=(decide ((nth l m).k=1) && decide ((nth l m).key=(nth l r).key) && decide (m≠w1) && !(Zr l w1 m).isEmpty && !(Zr l m r).isEmpty):=rfl;obtain ⟨p,hp⟩:∃ p,nth l m=p:=⟨_,rfl⟩
   rw [hp,ho] at hob;generalize Zr l w1 m=X1 at hP1 hl1 hob hyes;generalize Zr l m r=X2 at hP2 hl2 hob hyes;generalize zK l m=im at hincm hyes hnext2;refine zb ?_;refine zS hincm (by repeat (first|exact zu.nil|refine zu.cons zm ?_)) rfl rfl ?_;cases im with
   | false =>
    refine zQ ?_;refine ⟨by kernel_rfl,?_⟩;refine zb ?_;refine ⟨m+1,⟨by omega,hnext2 ?_⟩,by omega,(FLe.cv [⟨104,some 104,0,⟨0,.own,36,5,[[.int .i64 0,.int .i64 0,.int .i64 0,.nil,.nil]]⟩⟩] zf zd)⟩;rfl
   | true =>
   rw [Bool.true_and] at hyes hnext2;refine zQ ?_;rw [hp];refine yz (fun h1=>?_) (fun h1=>?_)
   ·refine zp ?_;refine ⟨by kernel_rfl,?_⟩;refine zb ?_;refine ⟨m+1,⟨by omega,hnext2 ?_⟩,by omega,(FLe.cv [⟨104,some 104,0,⟨0,.own,36,5,[[.int .i64 0,.int .i64 0,.int .i64 0,.nil,.nil]]⟩⟩] zf zd)⟩;rw [hob,decide_eq_false (by simpa using h1)];simp
   have hk1:p.k=1:=by simpa using h1
   refine zp ?_;rw [hp,ho];refine yz (fun h2=>?_) (fun h2=>?_)
   ·refine zp ?_;refine ⟨by kernel_rfl,?_⟩;refine zb ?_;refine ⟨m+1,⟨by omega,hnext2 ?_⟩,by omega,(FLe.cv [⟨104,some 104,0,⟨0,.own,36,5,[[.int .i64 0,.int .i64 0,.int .i64 0,.nil,.nil]]⟩⟩] zf zd)⟩;rw [hob,decide_eq_false (show ¬ p.key=o.key by simpa using h2)];simp
   have hke:p.key=o.key:=by simpa using h2
   refine zp ?_;refine ⟨by kernel_rfl,?_⟩;refine FW.cond rfl (fun h3=>?_) (fun h3=>?_)
   ·have h3:m=w1:=by simp at h3;omega
    refine zb ?_;refine ⟨m+1,⟨by omega,hnext2 ?_⟩,by omega,(FLe.cv [⟨104,some 104,0,⟨0,.own,36,5,[[.int .i64 0,.int .i64 0,.int .i64 0,.nil,.nil]]⟩⟩] zf zd)⟩;rw [hob,decide_eq_false (show ¬ m≠w1 by simpa using h3)];simp
   have hne:m≠w1:=fun e=>by rw [e] at h3;simp at h3
   rw [decide_eq_true hk1,decide_eq_true hke,decide_eq_true hne] at hob;refine zb ?_;refine Wq hP1 (by repeat (first|exact zu.nil|refine zu.cons zm ?_)) (List.length_map _) rfl rfl rfl ?_;refine zb ?_;refine yl hP2 (by repeat (first|exact zu.nil|refine zu.cons zm ?_)) rfl rfl ?_;refine zb ?_;refine zP (fun h4=>?_) (fun h4=>?_)
   ·have hX1:X1≠[]:=fun e=>by rw [e] at h4;simp at h4
    refine zb ?_;refine FW.cond rfl (fun h5=>?_) (fun h5=>?_)
    ·have hX2:X2≠[]:=fun e=>by rw [e] at h5;simp at h5
     rw [hyes (by rw [hob];cases X1 with|nil=>exact absurd rfl hX1|cons e X=>cases X2 with|nil=>exact absurd rfl hX2|cons e X=>rfl)]
     (repeat (first|refine FW.seq ?_|refine FW.draw ?_|refine Yt rfl rfl rfl ?_|refine XL rfl rfl rfl rfl rfl rfl zx rfl rfl ?_|refine XJ rfl rfl rfl rfl rfl rfl rfl ?_|refine Wp rfl rfl rfl zx Xa rfl rfl rfl rfl ?_))
     rw [ho];refine zcW (es:=[yp w1,yp m,yp r]) rfl rfl rfl (by refine yT.int rfl rfl ?_;refine yT.int rfl rfl ?_;refine yT.int rfl rfl ?_;exact yT.nil) rfl rfl rfl rfl rfl ?_
     (repeat (first|refine Yt rfl rfl rfl ?_))
     refine zh1 rfl rfl (List.length_map _).symm rfl rfl rfl zg (Zv.list rfl) zx zx rfl rfl rfl ?_;refine zp ?_;refine ⟨by kernel_rfl,?_⟩;skip;refine FW.ret ⟨.inl rfl,.sh (.cons (zL rfl rfl rfl rfl rfl rfl zg) (.cons (.tmp 5 rfl rfl) .nil)) ?_ rfl⟩;have hX12:(X1++X2).map EdC.fv≠[]:=fun e=>hX1 (List.append_eq_nil_iff.1 (List.map_eq_nil_iff.1 e)).1;unfold YS;rw [zdQ hX12,List.map_append];rfl
    ·have hX2:X2=[]:=by cases X2 with|nil=>rfl|cons e X=>simp at h5
     refine zb ?_;refine ⟨m+1,⟨by omega,hnext2 ?_⟩,by omega,(FLe.cv [⟨104,some 104,0,⟨0,.own,36,5,[[.int .i64 0,.int .i64 0,.int .i64 0,.nil,.nil]]⟩⟩] zf zd)⟩;rw [hob,hX2];simp
   ·have hX1:X1=[]:=by cases X1 with|nil=>rfl|cons e X=>simp at h4
    refine zb ?_;refine ⟨m+1,⟨by omega,hnext2 ?_⟩,by omega,(FLe.cv [⟨104,some 104,0,⟨0,.own,36,5,[[.int .i64 0,.int .i64 0,.int .i64 0,.nil,.nil]]⟩⟩] zf zd)⟩;rw [hob,hX1];rfl
  ·have hme:m=l.length:=by simp at h;omega
   subst hme;refine zb ?_;refine ⟨r+1,⟨by omega,hnext ?_⟩,by omega,(FLe.cv [⟨104,some 104,0,⟨0,.own,36,5,[[.int .i64 0,.int .i64 0,.int .i64 0,.nil,.nil]]⟩⟩] zf zd)⟩;exact hg1 hpre2
 ·have hje:r=l.length:=by simp at h;omega
  subst hje;rw [hno hpre];refine zb ?_;exact FW.ret ⟨.inl rfl,.sh (.cons (zL rfl rfl rfl rfl rfl rfl zg) (.cons (.tmp 5 rfl rfl) .nil)) rfl rfl⟩
def UQ (l:List OpV) (q:Nat):Option (Nat×Nat):=if zK l q=true then Zp l q else none
theorem zcA (l:List OpV):Ua l=(List.range l.length).findSome? (UQ l):=xh _ _ _
def zcS (l:List OpV):FV:=match Ua l with
 | some (w, i) => .tup [.agg (YS 5 8 (nth l i).key [w, i] (Zr l w i)), .bool true]
 | none => .tup [.agg (YS 0 0 0 [] []), .bool false]
theorem zfC (l:List OpV) (hl:l.length≤1000) (hd:Yi l):zX Try.prog 50 [.list 8 (l.map OpV.fv),.list 3 ((zaI l).map EdC.fv)] .sh (zcS l):=by
 have hEl:(zaI l).length≤1000000:=Nat.le_trans (ZM l l.length) (Nat.mul_le_mul hl hl);have hpt:=fun x y hx hy=>zcV l.length (zaI l) x y hl hEl (zgw l) hx hy;have hpe:=fun x y (hx:x<l.length) (hy:y<l.length)=>zcU hd hx hy;have hinc:=fun i hi=>xK l i za hi;obtain ⟨R,hR⟩:∃ R,zcS l=R:=⟨_,rfl⟩
 have hRh:R.hand=none:=by rw [← hR];unfold zcS;split <;> rfl
 have hyes:∀ r w2,r<l.length→(∀ q,q<r→UQ l q=none)→zK l r=true→(nth l r).k=0→(nth l r).res=0→w2<l.length→(∀ q,q<w2→(zK l q && WA l r q)=false)→(zK l w2 && WA l r w2)=true→R=.tup [.agg (YS 5 8 (nth l r).key [w2,r] (Zr l w2 r)),.bool true]:=fun r w2 h1 h2 h3 h4 h4b h5 h6 h7=>by
  have h8:UQ l r=some (w2,r):=by
   unfold UQ Zp;rw [if_pos h3,if_neg (by simp [h4,h4b]),Zo,xi (j:=w2) (fun i hi=>by rw [zU za];exact h6 i hi) (by simpa using h5) (by rw [zU h5];exact h7),zU h5];rfl
  rw [← hR];unfold zcS;rw [zcA,xr (j:=r) (fun i hi=>by rw [zU za];exact h2 i hi) (by simpa using h1) (by rw [zU h1];exact h8)]
 have hno:(∀ i,i<l.length→UQ l i=none)→R=.tup [.agg (YS 0 0 0 [] []),.bool false]:=fun h=>by
  rw [← hR];unfold zcS;rw [zcA,Za fun i hi=>by rw [zU (by simpa using hi)];exact h i (by simpa using hi)]
 have hg0:∀ i,((nth l i).k≠0∨(nth l i).res≠0)∨zK l i=false→UQ l i=none:=fun i h=>by
  unfold UQ Zp;rcases h with h|h
  ·rw [if_pos h];split <;> rfl
  ·rw [h];rfl
 have hg1:∀ i,(∀ m,m<l.length→(zK l m && WA l i m)=false)→UQ l i=none:=fun i h2=>by
  unfold UQ Zp;split
  ·split
   ·rfl
   ·rw [Zo,xO fun i hi=>by rw [zU (by simpa using hi)];exact h2 i (by simpa using hi)];rfl
  ·rfl
 rw [hR];clear hR;obtain ⟨E,hE⟩:∃ E,zaI l=E:=⟨_,rfl⟩
 rw [hE] at hpt hpe ⊢;refine zX.of_body (c:=(xx Try.prog zE zt 91)) ⟨Try.func50,rfl,Try.ntmps50,by kernel_rfl⟩ zH zw hRh ?_;change FW _ _ _ ⟨[(0,.list 8 (l.map OpV.fv)),(1,.list 3 (E.map EdC.fv))],[]⟩;refine zb ?_;refine FW.loop (fun r:Nat=>⟨[(0,.list 8 (l.map OpV.fv)),(1,.list 3 (E.map EdC.fv)),(4,.ptr 104 0 0 0),(6,.int .i64 r)],[(104,⟨0,.own,36,5,[[.int .i64 0,.int .i64 0,.int .i64 0,.nil,.nil]]⟩)]⟩) (fun r=>r≤l.length∧∀ q,q<r→UQ l q=none) (fun r=>l.length - r) 0 ⟨Nat.zero_le _,fun i hi=>absurd hi (Nat.not_lt_zero _)⟩ ?_ ?_
 ·exact (FLe.cv [⟨104,some 4,0+1,⟨0,.own,36,5,[[.int .i64 0,.int .i64 0,.int .i64 0,.nil,.nil]]⟩⟩] zf zd)
 rintro r ⟨hr,hpre⟩;refine zb ?_;refine FW.cond rfl (fun h=>?_) (fun h=>?_)
 ·have hrl:r<l.length:=by simpa using h
  clear h;have hyes:=fun w2=>hyes r w2 hrl hpre;have hnext:UQ l r=none→∀ q,q<r+1→UQ l q=none:=fun h q hq=>by
   rcases Nat.lt_succ_iff_lt_or_eq.1 hq with h'|rfl
   ·exact hpre q h'
   ·exact h
  have hg0:=hg0 r;have hg1:=hg1 r;have hnd:(nth l r).k=0→(nth l r).done=false→zK l r=false:=fun h1 h2=>by unfold zK;rw [h2,h1];rfl
  have hndt:(nth l r).done=true→zK l r=true:=fun h2=>by unfold zK;rw [h2];rfl
  obtain ⟨o,ho⟩:∃ o,nth l r=o:=⟨_,rfl⟩
  rw [ho] at hyes hnd hndt hg0;refine zb ?_;rw [ho];skip;refine zP (fun h1=>?_) (fun h1=>?_)
  ·refine zb ?_;refine ⟨r+1,⟨by omega,hnext ?_⟩,by omega,(FLe.cv [⟨104,some 104,0,⟨0,.own,36,5,[[.int .i64 0,.int .i64 0,.int .i64 0,.nil,.nil]]⟩⟩] zf zd)⟩;exact hg0 (.inl (.inl (by simpa using h1)))
  have hk:o.k=0:=by simpa using h1
  refine zb ?_;rw [ho];skip;cases hdn:o.done with
  | false =>
   refine zb ?_;refine ⟨r+1,⟨by omega,hnext ?_⟩,by omega,(FLe.cv [⟨104,some 104,0,⟨0,.own,36,5,[[.int .i64 0,.int .i64 0,.int .i64 0,.nil,.nil]]⟩⟩] zf zd)⟩;exact hg0 (.inr (hnd hk hdn))
  | true =>
  refine zb ?_;rw [ho];skip;refine FW.cond rfl (fun h2=>?_) (fun h2=>?_)
  ·refine zb ?_;refine ⟨r+1,⟨by omega,hnext ?_⟩,by omega,(FLe.cv [⟨104,some 104,0,⟨0,.own,36,5,[[.int .i64 0,.int .i64 0,.int .i64 0,.nil,.nil]]⟩⟩] zf zd)⟩;exact hg0 (.inl (.inr (by simpa using h2)))
  have hres:o.res=0:=by simpa using h2
  have hyes:=fun w2=>hyes w2 (hndt hdn) hk hres;refine zb ?_;refine FW.loop (fun m:Nat=>⟨[(0,.list 8 (l.map OpV.fv)),(1,.list 3 (E.map EdC.fv)),(4,.ptr 104 0 0 0),(6,.int .i64 r),(7,.int .i64 m)],[(104,⟨0,.own,36,5,[[.int .i64 0,.int .i64 0,.int .i64 0,.nil,.nil]]⟩)]⟩) (fun m=>m≤l.length∧∀ q,q<m→(zK l q && WA l r q)=false) (fun m=>l.length - m) 0 ⟨Nat.zero_le _,fun i hi=>absurd hi (Nat.not_lt_zero _)⟩ ?_ ?_
  ·exact (FLe.cv [⟨104,some 104,0,⟨0,.own,36,5,[[.int .i64 0,.int .i64 0,.int .i64 0,.nil,.nil]]⟩⟩] zf zd)
  rintro m ⟨hm,hpre2⟩;refine zb ?_;refine FW.cond rfl (fun h=>?_) (fun h=>?_)
  ·have hml:m<l.length:=by simpa using h
   clear h;have hyes:=hyes m hml hpre2;have hnext2:(zK l m && WA l r m)=false→∀ q,q<m+1→(zK l q && WA l r q)=false:=fun h q hq=>by
    rcases Nat.lt_succ_iff_lt_or_eq.1 hq with h'|rfl
    ·exact hpre2 q h'
    ·exact h
   have hincm:=hinc m hml;have hP2:=zX.sh_of_ow (hpt m r hml hrl);rw [hpe m r hml hrl] at hP2;have hl2:=ZI (l:=l) (x:=m) (y:=r);have hob:WA l r m=(decide ((nth l m).k=1) && decide ((nth l m).key=(nth l r).key) && !(Zr l m r).isEmpty):=rfl;obtain ⟨p,hp⟩:∃ p,nth l m=p:=⟨_,rfl⟩
   rw [hp,ho] at hob;generalize Zr l m r=X2 at hP2 hl2 hob hyes;generalize zK l m=im at hincm hyes hnext2;refine zb ?_;refine zS hincm (by repeat (first|exact zu.nil|refine zu.cons zm ?_)) rfl rfl ?_;cases im with
   | false =>
    refine zQ ?_;refine ⟨by kernel_rfl,?_⟩;refine zb ?_;refine ⟨m+1,⟨by omega,hnext2 ?_⟩,by omega,(FLe.cv [⟨104,some 104,0,⟨0,.own,36,5,[[.int .i64 0,.int .i64 0,.int .i64 0,.nil,.nil]]⟩⟩] zf zd)⟩;rfl
   | true =>
   rw [Bool.true_and] at hyes hnext2;refine zQ ?_;rw [hp];refine yz (fun h1=>?_) (fun h1=>?_)
   ·refine zp ?_;refine ⟨by kernel_rfl,?_⟩;refine zb ?_;refine ⟨m+1,⟨by omega,hnext2 ?_⟩,by omega,(FLe.cv [⟨104,some 104,0,⟨0,.own,36,5,[[.int .i64 0,.int .i64 0,.int .i64 0,.nil,.nil]]⟩⟩] zf zd)⟩;rw [hob,decide_eq_false (by simpa using h1)];simp
   have hk1:p.k=1:=by simpa using h1
   refine zp ?_;rw [hp,ho];skip;refine ⟨by kernel_rfl,?_⟩;refine FW.cond rfl (fun h3=>?_) (fun h3=>?_)
   ·refine zb ?_;refine ⟨m+1,⟨by omega,hnext2 ?_⟩,by omega,(FLe.cv [⟨104,some 104,0,⟨0,.own,36,5,[[.int .i64 0,.int .i64 0,.int .i64 0,.nil,.nil]]⟩⟩] zf zd)⟩;rw [hob,decide_eq_false (show ¬ p.key=o.key by simpa using h3)];simp
   have hke:p.key=o.key:=by simpa using h3
   rw [decide_eq_true hk1,decide_eq_true hke] at hob;refine zb ?_;refine yl hP2 (by repeat (first|exact zu.nil|refine zu.cons zm ?_)) rfl rfl ?_;refine zb ?_;refine FW.cond rfl (fun h5=>?_) (fun h5=>?_)
   ·have hX2:X2≠[]:=fun e=>by rw [e] at h5;simp at h5
    rw [hyes (by rw [hob];cases X2 with|nil=>exact absurd rfl hX2|cons e X=>rfl)];refine ZQ ?_;rw [ho];skip;refine yK (es:=[yp m,yp r]) rfl rfl rfl (by refine yT.int rfl rfl ?_;refine yT.int rfl rfl ?_;exact yT.nil) rfl rfl rfl rfl rfl ?_;refine zb ?_;refine FW.ret ⟨.inl rfl,.sh (.cons (zL rfl rfl rfl rfl rfl rfl zg) (.cons (.tmp 5 rfl rfl) .nil)) ?_ rfl⟩;have hX12:X2.map EdC.fv≠[]:=fun e=>hX2 (List.map_eq_nil_iff.1 e);unfold YS;rw [zdQ hX12];rfl
   ·have hX2:X2=[]:=by cases X2 with|nil=>rfl|cons e X=>simp at h5
    refine zb ?_;refine ⟨m+1,⟨by omega,hnext2 ?_⟩,by omega,(FLe.cv [⟨104,some 104,0,⟨0,.own,36,5,[[.int .i64 0,.int .i64 0,.int .i64 0,.nil,.nil]]⟩⟩] zf zd)⟩;rw [hob,hX2];simp
  ·have hme:m=l.length:=by simp at h;omega
   subst hme;refine zb ?_;refine ⟨r+1,⟨by omega,hnext ?_⟩,by omega,(FLe.cv [⟨104,some 104,0,⟨0,.own,36,5,[[.int .i64 0,.int .i64 0,.int .i64 0,.nil,.nil]]⟩⟩] zf zd)⟩;exact hg1 hpre2
 ·have hje:r=l.length:=by simp at h;omega
  subst hje;rw [hno hpre];refine zb ?_;exact FW.ret ⟨.inl rfl,.sh (.cons (zL rfl rfl rfl rfl rfl rfl zg) (.cons (.tmp 5 rfl rfl) .nil)) rfl rfl⟩
end Go.Proofs.Ytmnmakhpjgjdaaa
