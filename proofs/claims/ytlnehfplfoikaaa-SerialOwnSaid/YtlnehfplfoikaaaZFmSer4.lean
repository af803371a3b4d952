/-
  Some texts as one: FmSer4, FmDel, FmTopo.
-/
import Derived.Test.YtlnehfplfoikaaaZG
import Derived.Test.YtlnehfplfoikaaaZCycRef
import Derived.Test.YtlnehfplfoikaaaZFmSer2
import Derived.Test.YtlnehfplfoikaaaZK
import Derived.Test.YtlnehfplfoikaaaZD
import Derived.Test.YtlnehfplfoikaaaZL
import Derived.Test.YtlnehfplfoikaaaZM
namespace Go.Proofs.Ytlnehfplfoikaaa
set_option linter.unusedVariables false
set_option maxHeartbeats 16000000
open Go.RowKit
theorem zbI:Maps.Keyed Try.prog 54:=Maps.Keyed.of_law (deep_law_laid zii (m:=2) zb (of_decide_eq_true zA) zA zA)
theorem zf6 {a b:Int} (ha:I64 a) (hb:I64 b):Ui Try.prog 54 (zhf a b):=
 ⟨rfl,zf7 (i:=3) (fs:=zhH Try.prog 54) zA zA zA zA zA zA zA (Try.prog.types.size - 1) zA (zhW ha) (zhW hb)⟩
def Zd (l:List OpV) (i:Nat):List (List FV):=((List.range i).filter fun j=>decide ((nth l j).k=2)).map fun j=>[zhf (nth l j).key (nth l j).arg,.int .i64 (j:Int)]
theorem zdi (l:List OpV) (i:Nat):Zd l (i+1)=Zd l i++if (nth l i).k=2 then [[zhf (nth l i).key (nth l i).arg,.int .i64 (i:Int)]] else []:=by
 unfold Zd;rw [List.range_succ,List.filter_append,List.map_append];congr 1;by_cases h:(nth l i).k=2 <;> simp [h]
theorem Wc {l:List OpV} {i:Nat} (hi:i≤l.length) (hin:∀ o∈l,zgU o):∀ row∈Zd l i,∀ kf,row.head? = some kf→Ui Try.prog 54 kf:=fun row hr kf hk=>by
 obtain ⟨j,hj,rfl⟩:=List.mem_map.1 hr;have hj' : j<i:=by simpa using (List.mem_filter.1 hj).1
 have ho:=hin _ (zL (show j<l.length by omega));injection hk with hk
 subst hk;exact zf6 ho.2.2.1 ho.2.2.2.1
def zaW (l:List OpV) (i:Nat) (a b:Int):Option Nat:=ZM (fun j=>decide ((nth l j).k=2) && decide ((nth l j).key=a) && decide ((nth l j).arg=b)) i 0
def wrV (l:List OpV) (i:Nat) (a b:Int):Int:=match zaW l i a b with|some j=>j|none=>0
theorem Yi {l:List OpV} {i j:Nat} {a b:Int} (h:zaW l i a b=some j):j<i∧(nth l j).k=2∧(nth l j).key=a∧(nth l j).arg=b:=by
 obtain ⟨_,h2,h3⟩:=WY h;simp only [Bool.and_eq_true,decide_eq_true_eq] at h3;exact ⟨by omega,h3.1.1,h3.1.2,h3.2⟩
theorem XB {l:List OpV} {i:Nat} {a b:Int} (h:zaW l i a b=none):∀ j,j<i→¬ ((nth l j).k=2∧(nth l j).key=a∧(nth l j).arg=b):=fun j hj hc=>by
 have:=WX h j (Nat.zero_le _) zb;simp [hc.1,hc.2.1,hc.2.2] at this
theorem zcn {l:List OpV} {i:Nat} {a b:Int} (h:zaW l i a b=none):∀ row∈Zd l i,row.head?≠some (zhf a b):=fun row hr he=>by
 obtain ⟨j,hj,rfl⟩:=List.mem_map.1 hr;obtain ⟨h1,h2⟩:=List.mem_filter.1 hj;injection he with he
 obtain ⟨e1,e2⟩:=zhg he;exact XB h j (by simpa using h1) ⟨by simpa using h2,e1,e2⟩
theorem zcV (l:List OpV) (i:Nat) (a b:Int):zd7 (Zd l i) (zhf a b) (.int .i64 0) (.int .i64 (wrV l i a b)) (zaW l i a b).isSome:=by
 unfold wrV;cases h:zaW l i a b with
 | none => exact .inr ⟨rfl, rfl, zcn h⟩
 | some j =>
  obtain ⟨h1,h2,h3,h4⟩:=Yi h;exact .inl ⟨rfl,List.mem_map.2 ⟨j,List.mem_filter.2 ⟨by simpa using h1,by simpa using h2⟩,by rw [h3,h4]⟩⟩
theorem zcm {l:List OpV} {a b:Int}:(zaW l l.length a b).isSome=ZJ l a b:=by
 cases h:zaW l l.length a b with
 | none=>
  cases hw:ZJ l a b with
  | false => rfl
  | true =>
   obtain ⟨w,h1,h2⟩:=Ug.1 hw;exact absurd h2 (XB h w h1)
 | some j =>
  obtain ⟨h1,h2⟩:=Yi h;exact (Ug.2 ⟨j,h1,h2⟩).symm
theorem zgO {l:List OpV} {i:Nat} (hi:i≤l.length) {a b:Int}:(zaW l i a b).isSome=ZJ (l.take i) a b:=by
 cases h:zaW l i a b with
 | none=>
  cases hw:ZJ (l.take i) a b with
  | false => rfl
  | true =>
   obtain ⟨w,h1,h2⟩:=(Xy hi).1 hw;exact absurd h2 (XB h w h1)
 | some j =>
  obtain ⟨h1,h2⟩:=Yi h;exact ((Xy hi).2 ⟨j,h1,h2⟩).symm
theorem zgh {l:List OpV} (hok:zge l l.length=true) (i:Nat):zbP l i=match zaW l l.length (nth l i).key (nth l i).res with|none=>false|some j=>(nth l i).done && !(nth l j).done:=by
 have hu:=(zdN (Nat.le_refl _)).1 hok;unfold zbP;cases h:zaW l l.length (nth l i).key (nth l i).res with
 | none=>
  dsimp only;have:(l.any fun o=>decide (o.k=2) && decide (o.key=(nth l i).key) && decide (o.arg=(nth l i).res) && !o.done)=false:=by
   rw [List.any_eq_false];intro o ho;obtain ⟨w,hw,rfl⟩:=List.getElem_of_mem ho;rw [← nth_eq hw];have:=XB h w hw;simp only [Bool.and_eq_true,decide_eq_true_eq,not_and];intro hc;exact absurd ⟨hc.1.1,hc.1.2,hc.2⟩ this
  rw [this,Bool.and_false]
 | some j=>
  dsimp only;obtain ⟨h1,h2,h3,h4⟩:=Yi h;congr 1;cases hd:(nth l j).done with
  | false =>
   rw [Bool.not_false,List.any_eq_true];exact ⟨_,zL h1,by simp [h2,h3,h4,hd]⟩
  | true=>
   rw [Bool.not_true,List.any_eq_false];intro o ho;obtain ⟨w,hw,rfl⟩:=List.getElem_of_mem ho;rw [← nth_eq hw];intro hc;simp only [Bool.and_eq_true,decide_eq_true_eq,Bool.not_eq_true'] at hc;have:w=j:=by
    rcases Nat.lt_trichotomy w j with hlt|e|hgt
    ·exact absurd (hc.1.2.trans h4.symm) (hu.uniq w j hlt h1 hc.1.1.1 h2 (hc.1.1.2.trans h3.symm))
    ·exact e
    ·exact absurd (h4.trans hc.1.2.symm) (hu.uniq j w hgt hw h2 hc.1.1.1 (h3.trans hc.1.1.2.symm))
   subst this;rw [hd] at hc;exact absurd hc.2 zg
def wM (l:List OpV) (b:Bool):FV:=if b=true then .smap (Zd l l.length) else .nilm
theorem Xu (l:List OpV) (hl:l.length≤1000000000) (hin:∀ o∈l,zgU o):zY Try.prog 13 [.list 8 (l.map OpV.fv)] .sh (.tup [wM l (xB l),.bool (xB l)]):=by
 obtain ⟨n,hn⟩:∃ n,l.length=n:=⟨_,rfl⟩
 have hret:∀ b,xB l=b→FV.tup [wM l (xB l),.bool (xB l)]=.tup [wM l b,.bool b]:=fun b h=>by rw [h]
 refine zY.of_body (c:=(xa Try.prog zD zq 80)) ⟨Try.func13,rfl,Try.ntmps13,by kernel_rfl⟩ zC zp rfl ?_;change FW _ _ _ ⟨[(0,.list 8 (l.map OpV.fv))],[]⟩;refine za ?_;rw [hn];refine FW.loop (fun i:Nat=>⟨[(0,.list 8 (l.map OpV.fv)),(4,.omap 100 0),(15,.list 8 (l.map OpV.fv)),(16,.int .i64 n),(17,.int .i64 i)],[(100,⟨0,.mapo,49,0,Zd l i⟩)]⟩) (fun i=>i≤n∧zge l i=true) (fun i=>n - i) 0 ⟨Nat.zero_le _,rfl⟩
  (FLe.cv [⟨100,some 14,1,⟨0,.mapo,49,0,[]⟩⟩] zf zd) ?_
 rintro i ⟨hi,hok⟩;have hwi:=Wc (l:=l) (i:=i) zb hin;have hws:=zdi l i;have hlk:=zcV l i;have hno:=fun a b h=>zcn (l:=l) (i:=i) (a:=a) (b:=b) h;have hos:=zgf l i;have htk:=fun a b=>zgO (l:=l) (i:=i) (show i≤l.length by omega) (a:=a) (b:=b);have hbad:∀ j,j≤n→zge l j=false→xB l=false:=fun j hj h=>by
  unfold xB;have:zge l l.length=false:=by
   unfold zge at h ⊢;rw [List.all_eq_false] at h ⊢;obtain ⟨x,hx,hp⟩:=h;exact ⟨x,List.mem_range.2 (by have:=List.mem_range.1 hx;omega),hp⟩
  rw [this];rfl
 generalize hR:Zd l i=R at hwi hws hlk hno;refine za ?_;refine FW.cond rfl (fun h=>?_) (fun h=>?_)
 ·have hlt:i<n:=by simpa using h
  clear h;have hlt2:i<l.length:=by omega
  have ho:=hin _ (zL hlt2);have hkf:=zf6 ho.2.2.1 ho.2.2.2.1;have hbad:=hbad (i+1) zb;obtain ⟨o,hoo⟩:∃ o,nth l i=o:=⟨_,rfl⟩
  have hoa:ziV l i=(okK o && !(decide (o.k=2) && (zaW l i o.key o.arg).isSome)):=by unfold ziV;rw [hoo,htk]
  rw [hoo] at ho hkf hws;rw [hok,Bool.true_and,hoa] at hos;have hlk:=hlk o.key o.arg;have hno:=hno o.key o.arg;clear htk hoa;refine za ?_;rw [hoo];skip;refine FW.cond rfl (fun h0=>?_) (fun h0=>?_)
  ·have h0:o.k=0:=by simpa using h0
   rw [if_neg zb,List.append_nil] at hws;refine za ?_;refine ⟨i+1,⟨by omega,by rw [hos];simp [okK,h0]⟩,by omega,?_⟩;rw [hws];exact (FLe.cv [⟨100,some 100,0,⟨0,.mapo,49,0,R⟩⟩] zf zd)
  ·have h0:¬ o.k=0:=by simpa using h0
   refine za ?_;refine FW.cond rfl (fun h2=>?_) (fun h2=>?_)
   ·have h2:o.k=2:=by simpa using h2
    rw [if_pos h2] at hws;refine za ?_;refine zcb (e:=3) zbI hwi hkf hlk rfl rfl zg rfl rfl rfl rfl rfl rfl ?_;refine za ?_;cases hf:zaW l i o.key o.arg with
    | some j =>
     rw [hf] at hos;refine za ?_;have hd:=hbad (by rw [hos];simp [h2]);rw [hret false hd];exact FW.ret ⟨.inl rfl,.sh (.cons (.tmp 2 rfl rfl) (.cons (.tmp 3 rfl rfl) .nil)) rfl rfl⟩
    | none=>
     rw [hf] at hos;have hno:=hno hf;refine za ?_;refine FW.cond rfl (fun h4=>?_) (fun h4=>?_)
     ·have h4:o.arg=0:=by simpa using h4
      refine za ?_;have hd:=hbad (by rw [hos];simp [okK,h2,h4]);rw [hret false hd];exact FW.ret ⟨.inl rfl,.sh (.cons (.tmp 2 rfl rfl) (.cons (.tmp 3 rfl rfl) .nil)) rfl rfl⟩
     ·have h4:¬ o.arg=0:=by simpa using h4
      refine za ?_;refine zgC zbI hwi hkf (.inr ⟨hno,rfl⟩) rfl rfl rfl rfl rfl rfl rfl ?_;refine za ?_;refine ⟨i+1,⟨by omega,by rw [hos];simp [okK,h2,h4]⟩,by omega,?_⟩;rw [hws];exact (FLe.cv [⟨100,some 100,0,⟨0,.mapo,49,0,R++[[zhf o.key o.arg,.int .i64 (i:Int)]]⟩⟩] zf zd)
   ·have h2:¬ o.k=2:=by simpa using h2
    refine za ?_;have hd:=hbad (by rw [hos];simp [okK,h0,h2]);rw [hret false hd];exact FW.ret ⟨.inl rfl,.sh (.cons (.tmp 2 rfl rfl) (.cons (.tmp 3 rfl rfl) .nil)) rfl rfl⟩
 ·obtain rfl:i=n:=by simp at h;omega
  subst hn;have hpw:=zgh hok;have hpn:∀ j,j≤l.length→YF l j=true→xB l=false:=fun j hj h=>by
   unfold xB;have:YF l l.length=true:=by
    unfold YF at h ⊢;rw [List.any_eq_true] at h ⊢;obtain ⟨x,hx,hp⟩:=h;exact ⟨x,List.mem_range.2 (by have:=List.mem_range.1 hx;omega),hp⟩
   rw [this];simp
  have hyes:YF l l.length=false→xB l=true:=fun h=>by unfold xB;rw [hok,h];rfl
  have hgl:R=Zd l l.length:=hR.symm;obtain ⟨n,hn⟩:∃ n,n=l.length:=⟨_,rfl⟩
  rw [← hn] at hlk hpn hyes hpw hgl ⊢;refine za ?_;rw [← hn];refine FW.loop (fun i:Nat=>⟨[(0,.list 8 (l.map OpV.fv)),(4,.omap 100 0),(49,.list 8 (l.map OpV.fv)),(50,.int .i64 n),(51,.int .i64 i)],[(100,⟨0,.mapo,49,0,R⟩)]⟩) (fun i=>i≤n∧YF l i=false) (fun i=>n - i) 0 ⟨Nat.zero_le _,rfl⟩
   (FLe.cv [⟨100,some 100,0,⟨0,.mapo,49,0,R⟩⟩] zf zd) ?_
  rintro i ⟨hi,hpd⟩;have hps:=zc1 l i;rw [hpd,Bool.false_or,hpw] at hps;refine za ?_;refine FW.cond rfl (fun h=>?_) (fun h=>?_)
  ·have hlt:i<n:=by simpa using h
   clear h;have hlt2:i<l.length:=by omega
   have ho:=hin _ (zL hlt2);have hkf:=zf6 ho.2.2.1 ho.2.2.2.2.1;have hpn:=hpn (i+1) zb;obtain ⟨o,hoo⟩:∃ o,nth l i=o:=⟨_,rfl⟩
   rw [hoo] at hkf hps;have hlk:=hlk o.key o.res;refine za ?_;rw [hoo];skip;refine zcb (e:=3) zbI hwi hkf hlk rfl rfl zg rfl rfl rfl rfl rfl rfl ?_;refine za ?_;cases hf:zaW l n o.key o.res with
   | none =>
    rw [hf] at hps;refine za ?_;refine ⟨i+1,⟨by omega,hps⟩,by omega,?_⟩;exact (FLe.cv [⟨100,some 100,0,⟨0,.mapo,49,0,R⟩⟩] zf zd)
   | some j=>
    rw [hf] at hps;dsimp only at hps;have hjl:j<l.length:=by have:=(Yi hf).1;omega
    have hwv:wrV l n o.key o.res=j:=by unfold wrV;rw [hf]
    rw [hwv];refine za ?_;cases hd:o.done with
    | false =>
     rw [hd,Bool.false_and] at hps;refine za ?_;refine ⟨i+1,⟨by omega,hps⟩,by omega,?_⟩;exact (FLe.cv [⟨100,some 100,0,⟨0,.mapo,49,0,R⟩⟩] zf zd)
    | true=>
     rw [hd,Bool.true_and] at hps;refine za ?_;cases hdj:(nth l j).done with
     | true =>
      rw [hdj] at hps;refine za ?_;refine ⟨i+1,⟨by omega,hps⟩,by omega,?_⟩;exact (FLe.cv [⟨100,some 100,0,⟨0,.mapo,49,0,R⟩⟩] zf zd)
     | false =>
      rw [hdj] at hps;refine za ?_;rw [hret false (hpn hps)];exact FW.ret ⟨.inl rfl,.sh (.cons (.tmp 2 rfl rfl) (.cons (.tmp 3 rfl rfl) .nil)) rfl rfl⟩
  ·obtain rfl:i=n:=by simp at h;omega
   refine za ?_;refine FW.le ?_ (FLe.shareMap 2 rfl rfl);rw [hret true (hyes hpd),hgl,hn];exact FW.ret ⟨.inl rfl,.sh (.cons (.tmp 2 rfl rfl) (.cons (.tmp 3 rfl rfl) .nil)) rfl rfl⟩
theorem Wg (p:Int→Bool) (r:List Int):∀ k i:Nat,(ZL p r k i = -1∧∀ q,i≤q→q<i+k→p (nth r q)=false)∨∃ j:Nat,i≤j∧j<i+k∧ZL p r k i=j∧p (nth r j)=true∧∀ q,i≤q→q<j→p (nth r q)=false
 | 0, i => .inl ⟨rfl, fun q h1 h2 => by omega⟩
 | k+1,i=>by
  unfold ZL;by_cases h:p (nth r i)=true
  ·rw [if_pos h];exact .inr ⟨i,Nat.le_refl _,by omega,rfl,h,fun q h1 h2=>by omega⟩
  ·rw [if_neg h];have h' : p (nth r i)=false:=by simpa using h
   rcases Wg p r k (i+1) with ⟨h1,h2⟩|⟨j,h1,h2,h3,h4,h5⟩
   ·refine .inl ⟨h1,fun q q1 q2=>?_⟩;by_cases e:q=i
    ·subst e;exact h'
    ·exact h2 q zb zb
   ·refine .inr ⟨j,by omega,by omega,h3,h4,fun q q1 q2=>?_⟩;by_cases e:q=i
    ·subst e;exact h'
    ·exact h5 q zb q2
def yQ (p:Int→Bool) (r:List Int):List Int:=r.filter fun x=>!p x
theorem UM {p:Int→Bool} {r:List Int} (h:∀ q,q<r.length→p (nth r q)=false):yQ p r=r:=by
 unfold yQ;rw [List.filter_eq_self];intro x hx;obtain ⟨q,hq,rfl⟩:=List.getElem_of_mem hx;have:=h q hq;rw [nth_eq hq] at this;rw [this];rfl
theorem Yt {p:Int→Bool} {r:List Int} {j:Nat} (hj:j<r.length):yQ p (r.take (j+1))=yQ p (r.take j)++if p (nth r j)=true then [] else [nth r j]:=by
 unfold yQ;rw [List.take_succ_eq_append_getElem hj,List.filter_append,← nth_eq hj];congr 1;by_cases h:p (nth r j)=true
 ·simp [h]
 ·simp [h]
theorem ZY (p:Int→Bool) (r:List Int) (j:Nat):(yQ p (r.take j)).length≤j:=by
 unfold yQ;have h1:((r.take j).filter fun x=>!p x).length≤(r.take j).length:=List.length_filter_le _ _;have h2:(r.take j).length≤j:=by rw [List.length_take];omega
 omega
def ZT (p:Int→Bool) (r:List Int) (j:Nat):List Int:=yQ p (r.take j)++r.drop (yQ p (r.take j)).length
theorem zbj {p:Int→Bool} {r:List Int} {j:Nat} (hj:j≤r.length):(ZT p r j).length=r.length:=by
 have:=ZY p r j;unfold ZT;rw [List.length_append,List.length_drop];omega
theorem zfH {p:Int→Bool} {r:List Int} {j:Nat} (hj:j<r.length):nth (ZT p r j) j=nth r j:=by
 have h:=ZY p r j;have hl:=zbj (p:=p) (r:=r) (j:=j) zb;rw [nth_eq zb,nth_eq hj];simp only [ZT];rw [List.getElem_append_right h,List.getElem_drop];congr 1;omega
theorem zee {p:Int→Bool} {r:List Int} {j:Nat} (hj:j<r.length) (hp:p (nth r j)=false):(ZT p r j).set (yQ p (r.take j)).length (nth r j)=ZT p r (j+1):=by
 have h:=ZY p r j;unfold ZT;rw [Yt hj,if_neg (by rw [hp];decide),List.set_append_right _ _ (Nat.le_refl _),Nat.sub_self,List.append_assoc];congr 1;rw [List.length_append,List.length_singleton,List.drop_eq_getElem_cons (show (yQ p (r.take j)).length<r.length by omega)];rfl
theorem zef {p:Int→Bool} {r:List Int} {j:Nat} (hj:j<r.length) (hp:p (nth r j)=true):ZT p r (j+1)=ZT p r j:=by
 unfold ZT;rw [Yt hj,if_pos hp,List.append_nil]
theorem zcJ {p:Int→Bool} {r:List Int} {j:Nat} (hj:j<r.length) (hp:p (nth r j)=true) (h0:∀ q,q<j→p (nth r q)=false):yQ p (r.take (j+1))=r.take j∧ZT p r (j+1)=r:=by
 have e:yQ p (r.take j)=r.take j:=UM fun q hq=>by
  rw [List.length_take] at hq;have:nth (r.take j) q=nth r q:=by rw [nth_eq (by rw [List.length_take];exact hq),nth_eq zb,List.getElem_take]
  rw [this];exact h0 q zb
 have e2:yQ p (r.take (j+1))=r.take j:=by rw [Yt hj,if_pos hp,List.append_nil,e]
 refine ⟨e2,?_⟩;unfold ZT;rw [e2,List.length_take,Nat.min_eq_left zb,List.take_append_drop]
theorem ZK (v:Nat) (r:List Int) (cf:Nat) (caps:List FV) (p:Int→Bool) (hr:r.length≤1000000) (hp:∀ x∈r,zY Try.prog cf ([.int .i64 x]++caps) .fr (.bool (p x))) :
  yI Try.prog 17 [.own 5000 v 0 r.length,.fn cf caps] [(5000,⟨v,.own,3,1,r.map zj⟩)] [] (fun res o=>res=.own 5000 v 0 (yQ p r).length∧o 5000=⟨v,.own,3,1,(yQ p r++List.replicate (r.length - (yQ p r).length) 0).map zj⟩):=by
 refine yI.of_body (c:=(xa Try.prog zD zq 42)) ⟨Try.func17,rfl,Try.ntmps17,by kernel_rfl⟩ zp ?_ ?_
 ·rintro res o ⟨rfl,h⟩;exact ZZ (v:=v) rfl (by rw [h]) (by rw [h]) rfl
 change FW _ _ _ ⟨[(0,.own 5000 v 0 r.length),(1,.fn cf caps)],[(5000,⟨v,.own,3,1,r.map zj⟩)]⟩;refine za ?_;refine zV (YE r cf caps p hr hp) yN rfl rfl ?_;rcases Wg p r r.length 0 with ⟨h1,h2⟩|⟨j0,_,h2,h3,h4,h5⟩
 ·have hk:=UM (p:=p) (r:=r) fun q hq=>h2 q (Nat.zero_le _) zb;rw [hk,Nat.sub_self,show Wi p r = -1 from h1,show r++List.replicate 0 0=r by simp];refine za ?_;exact FW.ret ⟨.inl rfl,_,.tmp rfl rfl,rfl,rfl⟩
 ·have hj0:j0<r.length:=by omega
  obtain ⟨s1,s2⟩:=zcJ hj0 h4 fun q hq=>h5 q (Nat.zero_le _) hq;rw [show Wi p r=(j0:Int) from h3];obtain ⟨n,hn⟩:∃ n,r.length=n:=⟨_,rfl⟩
  rw [hn] at hr hj0 ⊢;refine za ?_;refine FW.loop (fun j:Nat=>⟨[(0,.own 5000 v 0 n),(1,.fn cf caps),(5,.int .i64 (yQ p (r.take j)).length),(6,.int .i64 j)],[(5000,⟨v,.own,3,1,(ZT p r j).map zj⟩)]⟩) (fun j=>j≤n∧(yQ p (r.take j)).length<j) (fun j=>n - j) (j0+1) ⟨by omega,by rw [s1,List.length_take];omega⟩ ?_ ?_
  ·rw [s1,s2,List.length_take,Nat.min_eq_left zb];exact (FLe.cv [⟨5000,some 5000,v,⟨v,.own,3,1,r.map zj⟩⟩] zf zd)
  rintro j ⟨hj,hkj⟩;have hdl:=zbj (p:=p) (r:=r) (j:=j) zb;have hdn:=fun h:j<r.length=>zfH (p:=p) h;have hks:=fun h:j<r.length=>Yt (p:=p) h;have hdk:=fun (h:j<r.length) (hp:p (nth r j)=false)=>zee h hp;have hds:=fun (h:j<r.length) (hp:p (nth r j)=true)=>zef h hp;have hlast:j=n→yQ p (r.take j)=yQ p r∧ZT p r j=yQ p r++r.drop (yQ p r).length:=fun e=>by
   have e1:yQ p (r.take j)=yQ p r:=by rw [e,← hn,List.take_length]
   exact ⟨e1,by unfold ZT;rw [e1]⟩
  generalize ZT p r j=D at hdl hdn hdk hds hlast;generalize yQ p (r.take j)=K at hkj hks hdk hlast;refine za ?_;refine FW.cond rfl (fun hc=>?_) (fun hc=>?_)
  ·have hlt:j<n:=by simpa using hc
   have hlr:j<r.length:=by omega
   clear hc hlast;have hdn:=hdn hlr;have hks:=hks hlr;have hpj:=hp (nth r j) (zL hlr);have hjD:j<D.length:=by omega
   refine za ?_;rw [hdn];skip;refine Xr rfl hpj (by repeat (first|exact zx.nil|refine zx.cons zt ?_)) rfl rfl ?_;refine za ?_;cases hb:p (nth r j) with
   | true =>
    rw [if_pos hb,List.append_nil] at hks;have hds:=hds hlr hb;refine za ?_;refine ⟨j+1,⟨by omega,by rw [hks];omega⟩,by omega,?_⟩;rw [hks,hds];exact (FLe.cv [⟨5000,some 5000,v,⟨v,.own,3,1,D.map zj⟩⟩] zf zd)
   | false =>
    rw [if_neg (by rw [hb];decide)] at hks;have hdk:=hdk hlr hb;have hKD:K.length<D.length:=by omega
    refine za ?_;rw [show (zj (nth D K.length)).set 0 (.int .i64 (nth r j))=zj (nth r j) from rfl,← List.map_set,hdk];refine ⟨j+1,⟨by omega,by rw [hks];simp;omega⟩,by omega,?_⟩;rw [hks,List.length_append,List.length_singleton];generalize ZT p r (j+1)=D2;exact (FLe.cv [⟨5000,some 5000,v,⟨v,.own,3,1,D2.map zj⟩⟩] zf zd)
  ·obtain rfl:j=n:=by simp at hc;omega
   obtain ⟨e1,e2⟩:=hlast rfl;subst e1;have hsp:splice (D.map zj) (0+(yQ p r).length) (List.replicate (j - (yQ p r).length) [FV.int .i64 0])=(yQ p r++List.replicate (j - (yQ p r).length) 0).map zj:=by
    rw [e2];unfold splice;rw [Nat.zero_add,List.map_append,List.take_left' (List.length_map _),List.drop_of_length_le zI,List.append_nil,List.map_append,List.map_replicate];rfl
   refine za ?_;refine zhy rfl rfl rfl rfl rfl rfl zb rfl ?_;rw [hsp];refine za ?_;exact FW.ret ⟨.inl rfl,_,.tmp rfl rfl,rfl,rfl⟩
def zea (a q:Nat):zn:=⟨a,.hrow,75,1,[[.ptr 5000 q 0 0]]⟩
theorem zf9 {a q v v' n n' : Nat} {res:FV} {o:Nat→zn} {l l' : List Int} (hr:res.cl [5002,5000,5001]=true) (h2:o 5002=zea a q) (h0:o 5000=yu q v' n') (h1:o 5001=yX v' l'):YV [(5002,zea a q),(5000,yu q v n),(5001,yX v l)] [] res o where
 old k hk hl:=by
  simp at hk;rcases hk with rfl|rfl|rfl
  ·rw [h2];exact ⟨rfl,rfl,rfl⟩
  ·rw [h0];exact ⟨rfl,rfl,rfl⟩
  ·rw [h1];exact ⟨rfl,rfl,rfl⟩
 new k hk:=by cases hk
 cl k hk:=by
  simp at hk;rcases hk with rfl|rfl|rfl
  ·rw [h2];rfl
  ·rw [h0];rfl
  ·rw [h1];rfl
 res:=hr
theorem Ub (a q v:Nat) (l:List Int) (x:Int) (hl:l.length≤100000):yI Try.prog 42 [.int .i64 x,.ptr 5002 a 0 0] [(5002,zea a q),(5000,yu q v l.length),(5001,yX v l)] [] (fun res o=>res=.tup []∧o 5002=zea a q∧o 5000=yu q (v+1) (l.length+1)∧o 5001=yX (v+1) (ZX l x)):=by
 refine yI.of_body (c:=(xa Try.prog zD zq 8)) ⟨Try.func42,rfl,Try.ntmps42,by kernel_rfl⟩ zp ?_ ?_
 ·rintro res o ⟨rfl,h2,h0,h1⟩;exact zf9 rfl h2 h0 h1
 change FW _ _ _ ⟨[(0,.int .i64 x),(1,.ptr 5002 a 0 0)],[(5002,zea a q),(5000,yu q v l.length),(5001,yX v l)]⟩;unfold zea;refine za ?_;refine xe (zcU q v l x hl) [(5000,5000),(5001,5001)] rfl (zF.cons rfl rfl rfl (zF.cons rfl rfl rfl zF.nil)) rfl rfl rfl rfl rfl rfl ?_;rintro _ ob' ⟨rfl,h1,h2⟩;refine yH.one [(5000,yu q (v+1) (l.length+1)),(5001,yX (v+1) (ZX l x))] (.tup []) rfl (by show [(5000,zn.ren _ (look {} ob' 5000)),(5001,zn.ren _ (look {} ob' 5001))]=_;rw [h1,h2];rfl) ?_;clear h1 h2 ob';refine za ?_;exact ⟨.inr rfl,_,.plain .nil rfl rfl,rfl,rfl,rfl,rfl⟩
def Zn (n:Nat) (E:List (Nat×Nat)) (i:Nat):List Int:=((zP n E).take i).foldl (fun m r=>r.foldl UJ m) (List.replicate n 0)
theorem zcX (n:Nat) (E:List (Nat×Nat)) {i:Nat} (h:i<n):Zn n E (i+1)=(zy E i).foldl UJ (Zn n E i):=by
 have hl:=yh n E;unfold Zn;rw [List.take_succ_eq_append_getElem zb,List.foldl_append,← nth_eq zb,xG E h];rfl
theorem zeF (n:Nat) (E:List (Nat×Nat)):Zn n E n=Uu n E:=by
 unfold Zn Uu;rw [List.take_of_length_le (by rw [yh];exact Nat.le_refl _)]
theorem zcW {n:Nat} {E:List (Nat×Nat)} (h:InN n E) (i:Nat):(Zn n E i).length=n∧∀ w:Nat,w<n→0≤nth (Zn n E i) w∧nth (Zn n E i) w≤n:=by
 obtain ⟨k1,k2⟩:=VS (n:=n) (rows:=(zP n E).take i) (m:=List.replicate n 0) (fun r hr=>by
  obtain ⟨u,_,rfl⟩:=List.mem_map.1 (List.mem_of_mem_take hr);exact ⟨xT E u,fun w hw=>yr h hw⟩) zc
 refine ⟨k1,fun w hw=>?_⟩;have h1:(((zP n E).take i).countP fun r=>decide ((w:Int)∈r))≤((zP n E).take i).length:=List.countP_le_length;rw [List.length_take,yh] at h1;unfold Zn;rw [k2 w hw,nth_eq (by simpa using hw)];simp;omega
end Go.Proofs.Ytlnehfplfoikaaa
