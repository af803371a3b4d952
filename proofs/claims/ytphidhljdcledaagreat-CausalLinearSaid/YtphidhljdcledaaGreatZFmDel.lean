/-
  Lemmas, in parts.
-/
import Derived.Test.YtphidhljdcledaaGreatZJ
import Derived.Test.YtphidhljdcledaaGreatZD
import Derived.Test.YtphidhljdcledaaGreatZL
import Derived.Test.YtphidhljdcledaaGreatZM
import Derived.Deep.RegionHeld3
import Derived.Deep.DrawnRows
import Derived.Deep.DeepCutAuto
namespace Go.Proofs.YtphidhljdcledaaGreat
set_option linter.unusedVariables false
set_option maxHeartbeats 16000000
variable {r:List Int} {base i j k:Nat} {w:World} {xs:List Value} {az:Int} {o:aq}
section
open Go.RowKit
theorem Y2 (p:Int→Bool) (r:List Int):∀ k i:Nat,(qF p r k i = -1∧∀ q,i≤q→q<i+k→p (nth r q)=false)∨∃ j:Nat,i≤j∧j<i+k∧qF p r k i=j∧p (nth r j)=true∧∀ q,i≤q→q<j→p (nth r q)=false
 | 0, i => .inl ⟨rfl, fun q h1 h2 => by omega⟩
 | k+1,i=>by
  unfold qF;by_cases h:p (nth r i)=true
  ·rw [if_pos h];exact .inr ⟨i,zg _,by omega,rfl,h,fun q h1 h2=>by omega⟩
  ·rw [if_neg h];have h' : p (nth r i)=false:=by simpa using h
   rcases Y2 p r k (i+1) with ⟨h1,h2⟩|⟨j,h1,h2,h3,h4,h5⟩
   ·refine .inl ⟨h1,fun q q1 q2=>?_⟩;by_cases e:q=i
    ·subst e;exact h'
    ·exact h2 q za za
   ·refine .inr ⟨j,by omega,by omega,h3,h4,fun q q1 q2=>?_⟩;by_cases e:q=i
    ·subst e;exact h'
    ·exact h5 q za q2
def Xa (p:Int→Bool) (r:List Int):List Int:=r.filter fun x=>!p x
theorem ziA {p:Int→Bool} (h:∀ q,q<r.length→p (nth r q)=false):Xa p r=r:=by
 unfold Xa;rw [List.filter_eq_self];intro x hx;obtain ⟨q,hq,rfl⟩:=zU hx;have:=h q hq;rw [ak hq] at this;rw [this];rfl
theorem Kf {p:Int→Bool} (hj:j<r.length):Xa p (r.take (j+1))=Xa p (r.take j)++if p (nth r j)=true then [] else [nth r j]:=by
 unfold Xa;rw [xe hj,ZT,← ak hj];congr 1;by_cases h:p (nth r j)=true
 ·simp [h]
 ·simp [h]
theorem Lb (p:Int→Bool) (r:List Int) (j:Nat):(Xa p (r.take j)).length≤j:=by
 unfold Xa;have h1:((r.take j).filter fun x=>!p x).length≤(r.take j).length:=xV _ _;have h2:(r.take j).length≤j:=by rw [zW];omega
 omega
def mV (p:Int→Bool) (r:List Int) (j:Nat):List Int:=Xa p (r.take j)++r.drop (Xa p (r.take j)).length
theorem zkX {p:Int→Bool} (hj:j≤r.length):(mV p r j).length=r.length:=by
 have:=Lb p r j;unfold mV;rw [zN,XZ];omega
theorem zrr {p:Int→Bool} (hj:j<r.length):nth (mV p r j) j=nth r j:=by
 have h:=Lb p r j;have hl:=zkX (p:=p) (r:=r) (j:=j) za;rw [ak za,ak hj];simp only [mV];rw [List.getElem_append_right h,List.getElem_drop];congr 1;omega
theorem zpt {p:Int→Bool} (hj:j<r.length) (hp:p (nth r j)=false):(mV p r j).set (Xa p (r.take j)).length (nth r j)=mV p r (j+1):=by
 have h:=Lb p r j;unfold mV;rw [Kf hj,if_neg (by rw [hp];decide),P4 _ _ (zg _),xZ,yV];congr 1;rw [zN,Wb,BW (show (Xa p (r.take j)).length<r.length by omega)];rfl
theorem zpu {p:Int→Bool} (hj:j<r.length) (hp:p (nth r j)=true):mV p r (j+1)=mV p r j:=by
 unfold mV;rw [Kf hj,if_pos hp,zT]
theorem zmV {p:Int→Bool} (hj:j<r.length) (hp:p (nth r j)=true) (h0:∀ q,q<j→p (nth r q)=false):Xa p (r.take (j+1))=r.take j∧mV p r (j+1)=r:=by
 have e:Xa p (r.take j)=r.take j:=ziA fun q hq=>by
  rw [zW] at hq;have:nth (r.take j) q=nth r q:=by rw [ak (by rw [zW];exact hq),ak za,Uj]
  rw [this];exact h0 q za
 have e2:Xa p (r.take (j+1))=r.take j:=by rw [Kf hj,if_pos hp,zT,e]
 refine ⟨e2,?_⟩;unfold mV;rw [e2,zW,Yx za,YR]
theorem zeK (v:Nat) (r:List Int) (cf:Nat) (aH:List FV) (p:Int→Bool) (hr:r.length≤1000000) (hp:∀ x∈r,xA Tryz.prog cf ([.int .i64 x]++aH) .fr (.bool (p x))) :
  xN Tryz.prog 26 [.own 5000 v 0 r.length,.fn cf aH] [(5000,⟨v,.own,3,1,r.map zJ⟩)] [] (fun res o=>res=.own 5000 v 0 (Xa p r).length∧o 5000=⟨v,.own,3,1,(Xa p r++List.replicate (r.length - (Xa p r).length) 0).map zJ⟩):=by
 refine xN.bH (c:=(fP Tryz.prog xp yF 42)) ⟨Tryz.func26,rfl,Tryz.ntmps26,by kernel_rfl⟩ xt ?_ ?_
 ·rintro res o ⟨rfl,h⟩;exact Vs (v:=v) rfl (by rw [h]) (by rw [h]) rfl
 change FW _ _ _ ⟨[(0,.own 5000 v 0 r.length),(1,.fn cf aH)],[(5000,⟨v,.own,3,1,r.map zJ⟩)]⟩;refine zb ?_;refine yP (V7 r cf aH p hr hp) HY rfl rfl ?_;rcases Y2 p r r.length 0 with ⟨h1,h2⟩|⟨j0,_,h2,h3,h4,h5⟩
 ·have hk:=ziA (p:=p) (r:=r) fun q hq=>h2 q (zp _) za;rw [hk,xZ,show y9 p r = -1 from h1,show r++List.replicate 0 0=r by simp];refine zb ?_;exact FW.ret ⟨.inl rfl,_,.tmp rfl rfl,rfl,rfl⟩
 ·have oK:j0<r.length:=by omega
  obtain ⟨s1,s2⟩:=zmV oK h4 fun q hq=>h5 q (zp _) hq;rw [show y9 p r=(j0:Int) from h3];obtain ⟨n,hn⟩:∃ n,r.length=n:=⟨_,rfl⟩
  rw [hn] at hr oK ⊢;refine zb ?_;refine FW.loop (fun j:Nat=>⟨[(0,.own 5000 v 0 n),(1,.fn cf aH),(5,.int .i64 (Xa p (r.take j)).length),(6,.int .i64 j)],[(5000,⟨v,.own,3,1,(mV p r j).map zJ⟩)]⟩) (fun j=>j≤n∧(Xa p (r.take j)).length<j) (fun j=>n - j) (j0+1) ⟨by omega,by rw [s1,zW];omega⟩ ?_ ?_
  ·rw [s1,s2,zW,Yx za];exact (ar.cv [⟨5000,some 5000,v,⟨v,.own,3,1,r.map zJ⟩⟩] zh zf)
  rintro j ⟨hj,TN⟩;have td:=zkX (p:=p) (r:=r) (j:=j) za;have fq:=fun h:j<r.length=>zrr (p:=p) h;have eR:=fun h:j<r.length=>Kf (p:=p) h;have fR:=fun (h:j<r.length) (hp:p (nth r j)=false)=>zpt h hp;have lB:=fun (h:j<r.length) (hp:p (nth r j)=true)=>zpu h hp;have ef:j=n→Xa p (r.take j)=Xa p r∧mV p r j=Xa p r++r.drop (Xa p r).length:=fun e=>by
   have e1:Xa p (r.take j)=Xa p r:=by rw [e,← hn,yy]
   exact ⟨e1,by unfold mV;rw [e1]⟩
  generalize mV p r j=D at td fq fR lB ef;generalize Xa p (r.take j)=K at TN eR fR ef;refine zb ?_;refine FW.cond rfl (fun hc=>?_) (fun hc=>?_)
  ·have aA:j<n:=by simpa using hc
   have F0:j<r.length:=by omega
   clear hc ef;have fq:=fq F0;have eR:=eR F0;have wy:=hp (nth r j) (zu F0);have FI:j<D.length:=by omega
   refine zb ?_;rw [fq];skip;refine H2 rfl wy (by repeat (first|exact zH.nil|refine zH.cons zB ?_)) rfl rfl ?_;refine zb ?_;cases hb:p (nth r j) with
   | true =>
    rw [if_pos hb,zT] at eR;have lB:=lB F0 hb;refine zb ?_;refine ⟨j+1,⟨by omega,by rw [eR];omega⟩,by omega,?_⟩;rw [eR,lB];exact (ar.cv [⟨5000,some 5000,v,⟨v,.own,3,1,D.map zJ⟩⟩] zh zf)
   | false =>
    rw [if_neg (by rw [hb];decide)] at eR;have fR:=fR F0 hb;have hKD:K.length<D.length:=by omega
    refine zb ?_;rw [show (zJ (nth D K.length)).set 0 (.int .i64 (nth r j))=zJ (nth r j) from rfl,← xc,fR];refine ⟨j+1,⟨by omega,by rw [eR];simp;omega⟩,by omega,?_⟩;rw [eR,zN,Wb];generalize mV p r (j+1)=D2;exact (ar.cv [⟨5000,some 5000,v,⟨v,.own,3,1,D2.map zJ⟩⟩] zh zf)
  ·obtain rfl:j=n:=by simp at hc;omega
   obtain ⟨e1,e2⟩:=ef rfl;subst e1;have Bw:av (D.map zJ) (0+(Xa p r).length) (List.replicate (j - (Xa p r).length) [FV.int .i64 0])=(Xa p r++List.replicate (j - (Xa p r).length) 0).map zJ:=by
    rw [e2];unfold av;rw [yh,zF,P6 (zj _),VN zM,zT,zF,Wc];rfl
   refine zb ?_;refine zuZ rfl rfl rfl rfl rfl rfl za rfl ?_;rw [Bw];refine zb ?_;exact FW.ret ⟨.inl rfl,_,.tmp rfl rfl,rfl,rfl⟩
def pW (l:List aq):List Int:=Xa (fun x=>!yC l x.toNat) (Yj l.length (gL l))
def u4 (l:List aq):List FV:=match qM l with
 | some i => ix 5 2 (nth l i).key [i] []
 | none=>if iz l≠[] then [.int .i64 5,.int .i64 6,.int .i64 0,.nil,.list 3 ((qb l (iz l) (iz l).length).map dF.fv)] else match qL l with
  | some (w1, w2, i) => ix 5 7 (nth l w2).key [w1, w2, i] (eP l w1 w2 ++ eP l w2 i)
  | none => match qI l with
   | some (w, i) => ix 5 8 (nth l w).key [w, i] (eP l w i)
   | none => [.int .i64 5, .int .i64 0, .int .i64 0, .list 1 ((pW l).map zJ), .nil]
def CF (l:List aq):FV:=if Ub l≠0 then .bd [.agg [.int .i64 0,.int .i64 0,.int .i64 0,.nil,.nil],.int .i64 (Ub l)] else .bd [.agg (u4 l),.int .i64 0]
theorem zsF (sz:Nat) (es:List (List FV)):CH sz es=.nil∨CH sz es=.list sz es:=by cases es <;> simp [CH]
theorem zwV (l:List aq) (hi:i<l.length):(YA (KC l i)).oa=some (!yC l i):=by
 unfold KC;by_cases h:i∈yB l l.length
 ·rw [if_pos h,(Zm.1 h).2];rfl
 ·rw [if_neg h];have:yC l i=false:=by cases hq:yC l i with|false=>rfl|true=>exact absurd (Zm.2 ⟨hi,hq⟩) h
  rw [this];rfl
theorem zkN (l:List aq) (i:Nat) (hi:i<l.length):xA Tryz.prog 27 ([.int .i64 i]++[.ax 1 [[m4 l]] 0 0]) .fr (.bool (!yC l i)):=by
 have aI:(List.map (fun q=>[YA (KC l q)]) (List.range l.length)).getD i []=[YA (KC l i)]:=by rw [yz,xR l.length i _ hi];rfl
 have mz:=zwV l hi;obtain ⟨C,hC⟩:∃ C,C=List.map (fun q=>[YA (KC l q)]) (List.range l.length):=⟨_,rfl⟩
 have iV:C.length=l.length:=by rw [hC];simp
 obtain ⟨b,hb⟩:∃ b,(!yC l i)=b:=⟨_,rfl⟩
 rw [hb] at mz ⊢;unfold m4 qk;rw [← hC] at aI ⊢;refine ym 12 Tryz.func27 Tryz.ntmps27 rfl ?_;change FW _ _ _ ⟨[(0,.int .i64 i),(1,.ax 1 [[.ax 4 [[.list 8 (l.map aq.fv),.list 1 ((yB l l.length).map yx),.smap (Zq l l.length),.list 1 C]] 0 0]] 0 0)],[]⟩;refine zb ?_;refine zt.ai (yX rfl rfl rfl (by rw [iV];exact hi) aI rfl rfl) rfl rfl ?_;refine ztd rfl mz zw rfl rfl ?_;refine zb ?_;exact FW.ret ⟨.inl rfl,yt rfl rfl rfl rfl⟩
theorem znI (l:List aq) (hl:l.length≤14) (hc:iz l=[]):xN Tryz.prog 24 [.int .i64 l.length,.perm 2 ((gL l).map bZ)] [] [4000] (fun res o=>res=.wrap .bd [.own 4000 1 0 l.length,.bool true]∧o 4000=⟨1,.own,3,1,(Yj l.length (gL l)).map zJ⟩):=by
 refine xN.perm (pre:=[.int .i64 l.length]) (post:=[]) fun ba hp=>?_;obtain ⟨P,hP,rfl⟩:=zoL hp;have hm:∀ e,e∈P↔e∈gL l:=fun e=>hP.mem_iff;have aP:=(uY l).mem hm;have h1:=zrv l;have h2:=YT hl hl;have hcP:XA P l.length=[]:=by rw [X6 hm];exact hc
 obtain ⟨h3,h4⟩:=Px aP hcP;obtain ⟨h5,_⟩:=Px (uY l) hc;rw [zmb hm,h5] at h3;injection h3 with h3
 rw [h3];exact zqH l.length P za (by rw [hP.length_eq];omega) aP h4.len
theorem zmG (l:List aq) (hl:l.length≤14) (aP:∀ o∈l,Ue o):xA Tryz.prog 7 [.list 8 (l.map aq.fv)] .sh (CF l):=by
 have qu:=X8 l za aP;obtain ⟨R,hR⟩:∃ R,CF l=R:=⟨_,rfl⟩
 have rh:R.hand=none:=by rw [← hR];unfold CF;split <;> rfl
 rw [hR];have AH:Ub l≠0→R=.bd [.agg [.int .i64 0,.int .i64 0,.int .i64 0,.nil,.nil],.int .i64 (Ub l)]:=fun h=>by rw [← hR];unfold CF;rw [if_pos h]
 have ly:Ub l=0→R=.bd [.agg (u4 l),.int .i64 0]:=fun h=>by rw [← hR];unfold CF;rw [if_neg (by simpa using h)]
 have nJ:Ub l=0→yE l:=fun h=>by
  unfold Ub at h;split at h
  ·rename_i h1;exact absurd h h1
  ·split at h
   ·assumption
   ·cases h
 clear hR;obtain ⟨e,he⟩:∃ e,Ub l=e:=⟨_,rfl⟩
 rw [he] at qu AH ly nJ;have hb:=fun hd=>zh8 l za aP hd;rw [zrw] at hb;change yE l→xA _ _ _ _ (m4 l) at hb;have qC:=ztz l za aP;have AU:=zmT l hl;have rL:=zsK l za aP;have C8:=zsf l za aP;have et:=zgT (.list 8 (l.map aq.fv)) (.smap (Zq l l.length)) (.list 1 ((yB l l.length).map yx)) (KC l) l.length za (G3 l za);change xA _ _ [m4 l] _ (.perm 2 ((gL l).map bZ)) at et;have kZ:=znI l hl;have s9:=zkN l;obtain ⟨r,hr⟩:∃ r,m4 l=r:=⟨_,rfl⟩
 have pJ:r.one=true:=by rw [← hr];rfl
 have JQ:r.cells=[r]:=by rw [← hr];rfl
 have Gw:r.hand=none:=by rw [← hr];rfl
 rw [hr] at hb qC AU rL C8 et s9;clear hr;refine ym 57 Tryz.func7 Tryz.ntmps7 rh ?_;change FW _ _ _ ⟨[(0,.list 8 (l.map aq.fv))],[]⟩;refine zb ?_;refine yP qu (by repeat (first|exact zH.nil|refine zH.cons zB ?_)) rfl rfl ?_;refine zb ?_;refine FW.cond rfl (fun h=>?_) (fun h=>?_)
 ·rw [AH (by simpa using h)];refine zb ?_;exact FW.ret ⟨.inl rfl,.sh (.cons (yD rfl rfl rfl rfl rfl rfl zd) (.cons (.tmp 3 rfl rfl) .nil)) rfl rfl⟩
 have Fz:e=0:=by simpa using h
 subst Fz;have ly:=ly rfl;have hb:=hb (nJ rfl);clear h AH nJ
 (repeat (first|refine FW.seq ?_|refine FW.region ?_|refine FW.skip ?_|refine zt.ai (zD rfl) rfl rfl ?_))
 refine Zg hb (by repeat (first|exact zH.nil|refine zH.cons zB ?_)) rfl rfl ?_;refine zl5 rfl rfl rfl rfl rfl ?_;refine zt.dN (zpD rfl rfl pJ rfl rfl rfl zd) rfl ?_;refine zt.le ?_ (ar.ld 5 rfl (by simp [pJ]));refine zt.le ?_ (ar.eC 5 rfl rfl)
 (repeat (first|refine FW.seq ?_|refine FW.region ?_|refine zt.nil ?_|refine zt.ai (yX rfl rfl rfl Zp rfl rfl rfl) rfl rfl ?_))
 refine L7 rfl Gw rfl rfl ?_
 (repeat (first|refine zt.ai (yX rfl rfl rfl Zp rfl rfl rfl) rfl rfl ?_))
 refine L7 rfl Gw rfl rfl ?_
 (repeat (first|refine zt.ai (yX rfl rfl rfl Zp rfl rfl rfl) rfl rfl ?_))
 refine L7 rfl Gw rfl rfl ?_
 (repeat (first|refine zt.ai (yX rfl rfl rfl Zp rfl rfl rfl) rfl rfl ?_))
 refine L7 rfl Gw rfl rfl ?_;refine UK (es:=[[.jQ 20 [r]],[.jQ 21 [r]],[.jQ 22 [r]],[.jQ 23 [r]]]) rfl rfl rfl (by refine Xi.one rfl rfl rfl rfl ?_;refine Xi.one rfl rfl rfl rfl ?_;refine Xi.one rfl rfl rfl rfl ?_;refine Xi.one rfl rfl rfl rfl ?_;exact Xi.nil) rfl rfl rfl rfl rfl ?_
 (repeat (first|refine FW.block ?_|refine zt.nil ?_|refine zt.ai (zD rfl) rfl rfl ?_|refine zt.ai (XJ rfl rfl rfl) rfl rfl ?_))
 refine FW.loop (fun k:Nat=>⟨[(0,.list 8 (l.map aq.fv)),(2,.ptr 102 0 0 0),(5,.ax 1 [[r]] 0 0),(28,.list 1 [[.jQ 20 [r]],[.jQ 21 [r]],[.jQ 22 [r]],[.jQ 23 [r]]]),(29,.int .i64 4),(30,.int .i64 k)],[(102,⟨0,.own,31,5,[[.int .i64 0,.int .i64 0,.int .i64 0,.nil,.nil]]⟩)]⟩) (fun k=>k≤4∧(1≤k→qM l=none)∧(2≤k→iz l=[])∧(3≤k→qL l=none)∧(4≤k→qI l=none)) (fun k=>4 - k) 0 ⟨zp _,by omega,by omega,by omega,by omega⟩ ?_ ?_
 ·exact (ar.cv [⟨102,some 2,0+1,⟨0,.own,31,5,[[.int .i64 0,.int .i64 0,.int .i64 0,.nil,.nil]]⟩⟩] zh zf)
 rintro k ⟨hk,p1,p2,p3,p4⟩;refine zb ?_;refine FW.cond rfl (fun h=>?_) (fun h=>?_)
 ·have Bf:k=0∨k=1∨k=2∨k=3:=by simp at h;omega
  clear h;rcases Bf with rfl|rfl|rfl|rfl
  ·refine zb ?_;refine LC rfl qC rfl rfl ?_;unfold Ec;cases ht:qM l with
   | some i =>
    rw [ly];unfold u4;rw [ht];dsimp only;unfold ix;refine zb ?_;exact FW.ret ⟨.inl rfl,.sh (.cons (yD rfl rfl rfl rfl rfl rfl zd) (.cons (.tmp 3 rfl rfl) .nil)) rfl rfl⟩
   | none =>
    refine zb ?_;refine ⟨1,⟨by omega,fun _=>by first|exact ht|rfl,by omega,by omega,by omega⟩,by omega,(ar.cv [⟨102,some 102,0,⟨0,.own,31,5,[[.int .i64 0,.int .i64 0,.int .i64 0,.nil,.nil]]⟩⟩] zh zf)⟩
  ·have p1:=p1 za;refine zb ?_;refine LC rfl AU rfl rfl ?_;unfold SA;by_cases hc:iz l=[]
   ·rw [show decide (((iz l).length:Int) > 0)=false by rw [hc];rfl];refine zb ?_;refine ⟨2,⟨by omega,fun _=>p1,fun _=>hc,by omega,by omega⟩,by omega,(ar.cv [⟨102,some 102,0,⟨0,.own,31,5,[[.int .i64 0,.int .i64 0,.int .i64 0,.nil,.nil]]⟩⟩] zh zf)⟩
   ·rw [show decide (((iz l).length:Int) > 0)=true by have:=Uk.2 hc;simpa using this,ly];unfold u4;rw [p1];dsimp only;rw [if_pos hc];refine zb ?_;exact FW.ret ⟨.inl rfl,.sh (.cons (yD rfl rfl rfl rfl rfl rfl zd) (.cons (.tmp 3 rfl rfl) .nil)) rfl rfl⟩
  ·have p1:=p1 za;have p2:=p2 za;refine zb ?_;refine LC rfl rL rfl rfl ?_;unfold Ee;cases ht:qL l with
   | some w=>
    obtain ⟨w1,w2,i⟩:=w;rw [ly];unfold u4;rw [p1,ht];dsimp only;rw [if_neg (by simpa using p2)];unfold ix;generalize eP l w1 w2++eP l w2 i=X;rcases zsF 3 (X.map dF.fv) with hX|hX <;> rw [hX]
    ·refine zb ?_;exact FW.ret ⟨.inl rfl,.sh (.cons (yD rfl rfl rfl rfl rfl rfl zd) (.cons (.tmp 3 rfl rfl) .nil)) rfl rfl⟩
    ·refine zb ?_;exact FW.ret ⟨.inl rfl,.sh (.cons (yD rfl rfl rfl rfl rfl rfl zd) (.cons (.tmp 3 rfl rfl) .nil)) rfl rfl⟩
   | none =>
    refine zb ?_;refine ⟨3,⟨by omega,fun _=>p1,fun _=>p2,fun _=>by first|exact ht|rfl,by omega⟩,by omega,(ar.cv [⟨102,some 102,0,⟨0,.own,31,5,[[.int .i64 0,.int .i64 0,.int .i64 0,.nil,.nil]]⟩⟩] zh zf)⟩
  ·have p1:=p1 za;have p2:=p2 za;have p3:=p3 za;refine zb ?_;refine LC rfl C8 rfl rfl ?_;unfold D6;cases ht:qI l with
   | some w=>
    obtain ⟨w,i⟩:=w;rw [ly];unfold u4;rw [p1,p3,ht];dsimp only;rw [if_neg (by simpa using p2)];unfold ix;generalize eP l w i=X;rcases zsF 3 (X.map dF.fv) with hX|hX <;> rw [hX]
    ·refine zb ?_;exact FW.ret ⟨.inl rfl,.sh (.cons (yD rfl rfl rfl rfl rfl rfl zd) (.cons (.tmp 3 rfl rfl) .nil)) rfl rfl⟩
    ·refine zb ?_;exact FW.ret ⟨.inl rfl,.sh (.cons (yD rfl rfl rfl rfl rfl rfl zd) (.cons (.tmp 3 rfl rfl) .nil)) rfl rfl⟩
   | none =>
    refine zb ?_;refine ⟨4,⟨by omega,fun _=>p1,fun _=>p2,fun _=>p3,fun _=>by first|exact ht|rfl⟩,by omega,(ar.cv [⟨102,some 102,0,⟨0,.own,31,5,[[.int .i64 0,.int .i64 0,.int .i64 0,.nil,.nil]]⟩⟩] zh zf)⟩
 ·have Bf:k=4:=by simp at h;omega
  subst Bf;have p1:=p1 za;have p2:=p2 za;have p3:=p3 za;have p4:=p4 za;rw [ly];unfold u4;rw [p1,p3,p4];dsimp only;rw [if_neg (by simpa using p2)];obtain ⟨_,hO⟩:=Px (uY l) p2;have Na:=kZ p2;unfold pW;generalize Yj l.length (gL l)=TT at hO Na;have E9:=hO.len;have hD:=zeK 1 TT 27 [.ax 1 [[r]] 0 0] (fun x=>!yC l x.toNat) za (fun x hx=>by
   have hr:=hO.cW x hx;have:=s9 x.toNat za;rw [show ((x.toNat:Nat):Int)=x by omega] at this;exact this)
  rw [E9] at hD;have S8:=Lb (fun x=>!yC l x.toNat) TT TT.length;rw [yy,E9] at S8;generalize Xa (fun x=>!yC l x.toNat) TT=KK at hD S8;clear qC AU rL C8 s9 hb qu;refine zb ?_;refine Zg et (zH.cons (.plain rfl Gw) .nil) rfl rfl ?_;refine Yq Na [(4000,105)] rfl zQ.nil rfl rfl rfl rfl rfl rfl ?_;rintro _ aM ⟨rfl,h4⟩;refine ZQ.one [(105,⟨1,.own,3,1,TT.map zJ⟩)] (.wrap .bd [.own 105 1 0 l.length,.bool true]) rfl (by show [(105,zE.ren _ (look {} aM 4000))]=_;rw [h4];rfl) ?_;clear h4 aM Na;refine zb ?_;refine Z5 rfl rfl rfl rfl rfl ?_;refine Z5 rfl rfl rfl rfl rfl ?_;refine zb ?_;refine Yq hD [(5000,105)] rfl (zQ.cons rfl rfl rfl zQ.nil) rfl rfl rfl rfl rfl rfl ?_;rintro _ aM ⟨rfl,h4⟩;obtain ⟨Ze,Tp⟩:∃ Ze,(KK++List.replicate (l.length - KK.length) 0).map zJ=Ze:=⟨_,rfl⟩
  have hZt:(Ze.drop 0).take KK.length=KK.map zJ:=by rw [← Tp,Yl,zF,P6 (zj _)]
  rw [Tp] at h4;refine ZQ.one [(105,⟨1,.own,3,1,Ze⟩)] (.own 105 1 0 KK.length) rfl (by show [(105,zE.ren _ (look {} aM 5000))]=_;rw [h4];rfl) ?_;clear h4 aM hD;refine zt.le ?_ (ar.shut (i:=105) rfl);refine zt.le ?_ (ar.list (d:=53) (i:=105) (f:=.list 1 (KK.map zJ)) rfl rfl (by rw [hZt]));refine zb ?_;exact FW.ret ⟨.inl rfl,.sh (.cons (yD rfl rfl rfl rfl rfl rfl zd) (.cons (.tmp 3 rfl rfl) .nil)) rfl rfl⟩
def Co (l:List aq) (key v u:Int):Bool:=if v=0 then decide (u≠0) else match nD l key v,nD l key u with
 | some a, some b => decide ((nth l a).p=(nth l b).p) && decide (a<b)
 | _, _ => false
theorem zqh (l:List aq) (key v u:Int) (hl:l.length≤1000) (aP:∀ o∈l,Ue o) (h1:bU key) (h2:bU v) (h3:bU u):xA Tryz.prog 51 [m4 l,.int .i64 key,.int .i64 v,.int .i64 u] .fr (.bool (Co l key v u)):=by
 have pF:=Sk l key v;have N3:=Sk l key u;have eH:=Qe (l:=l) (i:=l.length) (zg _) aP;have hv:=fun a=>VP (l:=l) (a:=key) (b:=v) (w:=a);have hu:=fun a=>VP (l:=l) (a:=key) (b:=u) (w:=a);unfold Co;unfold m4 qk;generalize nD l key v=A at pF hv ⊢;generalize nD l key u=B at N3 hu ⊢;generalize Zq l l.length=CR at pF N3 eH ⊢;obtain ⟨f1,qw⟩:∃ f1,f1=FV.list 1 ((yB l l.length).map yx):=⟨_,rfl⟩
 obtain ⟨f3,C5⟩:∃ f3,f3=FV.list 1 ((List.range l.length).map fun q=>[YA (KC l q)]):=⟨_,rfl⟩
 rw [← qw,← C5];clear qw C5;refine ym 67 Tryz.func51 Tryz.ntmps51 rfl ?_;change FW _ _ _ ⟨[(0,.ax 4 [[.list 8 (l.map aq.fv),f1,.smap CR,f3]] 0 0),(1,.int .i64 key),(2,.int .i64 v),(3,.int .i64 u)],[]⟩;refine zb ?_;refine FW.cond rfl (fun h=>?_) (fun h=>?_)
 ·rw [if_pos (by simpa using h)];refine zb ?_;exact FW.ret ⟨.inl rfl,yt rfl rfl rfl rfl⟩
 rw [if_neg (by simpa using h)];clear h;refine zb ?_;refine Wt (e:=3) u7 eH (qJ h1 h2) pF rfl rfl rfl rfl rfl rfl rfl ?_;refine zb ?_;refine Wt (e:=3) u7 eH (qJ h1 h3) N3 rfl rfl rfl rfl rfl rfl rfl ?_;cases A with
 | none =>
  refine Zf ?_;refine ⟨by kernel_rfl,?_⟩;skip;exact FW.ret ⟨.inl rfl,yt rfl rfl rfl rfl⟩
 | some a =>
 cases B with
 | none =>
  refine Zf ?_;refine ⟨by kernel_rfl,?_⟩;skip;exact FW.ret ⟨.inl rfl,yt rfl rfl rfl rfl⟩
 | some b =>
 have ha:=(hv a rfl).1;have hb:=(hu b rfl).1;dsimp only;rw [Zy,Zy];refine Zf ?_;refine Cg (fun h4=>?_) (fun h4=>?_)
 ·have h4:(nth l a).p=(nth l b).p:=by simpa using h4
  refine yH ?_;refine ⟨by kernel_rfl,?_⟩;skip;refine FW.ret ⟨.inl rfl,yt rfl rfl ?_ rfl⟩;rw [decide_eq_true h4,yN];simp;rfl
 ·have h4:¬ (nth l a).p=(nth l b).p:=by simpa using h4
  refine yH ?_;refine ⟨by kernel_rfl,?_⟩;skip;refine FW.ret ⟨.inl rfl,yt rfl rfl ?_ rfl⟩;rw [decide_eq_false h4,Zo];rfl
def mX (l:List aq) (i r k:Nat):Bool:=decide (k<i) && decide ((nth l k).p=(nth l i).p) && decide ((nth l k).key=(nth l i).key) && (decide ((nth l k).k=1) == decide (r=0)) && Co l (nth l i).key (nth l i).res (if (nth l k).k=1 then (nth l k).arg else (nth l k).res)
def UM (l:List aq) (i:Nat):Option (Nat×Nat×Nat):=if (nth l i).k≠0 then none else match (yB l l.length).find? (mX l i 0) with
 | some k => some (0, k, i)
 | none => ((yB l l.length).find? (mX l i 1)).map fun k => (1, k, i)
def Cw (l:List aq):Option (Nat×Nat×Nat):=(yB l l.length).findSome? (UM l)
def DU (l:List aq):List FV:=match Cw l with
 | some (r, k, i) => ix 6 (9+r) (nth l i).key [k, i] []
 | none => ix 6 0 0 [] []
def CI (l:List aq):FV:=if Ub l≠0 then .bd [.agg [.int .i64 0,.int .i64 0,.int .i64 0,.nil,.nil],.int .i64 (Ub l)] else .bd [.agg (DU l),.int .i64 0]
theorem zjx (l:List aq) (hl:l.length≤1000) (aP:∀ o∈l,Ue o):xA Tryz.prog 28 [.list 8 (l.map aq.fv)] .sh (CI l):=by
 have qu:=X8 l za aP;obtain ⟨R,hR⟩:∃ R,CI l=R:=⟨_,rfl⟩
 have rh:R.hand=none:=by rw [← hR];unfold CI;split <;> rfl
 rw [hR];have AH:Ub l≠0→R=.bd [.agg [.int .i64 0,.int .i64 0,.int .i64 0,.nil,.nil],.int .i64 (Ub l)]:=fun h=>by rw [← hR];unfold CI;rw [if_pos h]
 have ly:Ub l=0→R=.bd [.agg (DU l),.int .i64 0]:=fun h=>by rw [← hR];unfold CI;rw [if_neg (by simpa using h)]
 have nJ:Ub l=0→yE l:=fun h=>by
  unfold Ub at h;split at h
  ·rename_i h1;exact absurd h h1
  ·split at h
   ·assumption
   ·cases h
 clear hR;obtain ⟨e,he⟩:∃ e,Ub l=e:=⟨_,rfl⟩
 rw [he] at qu AH ly nJ;have hb:=fun hd=>zh8 l za aP hd;rw [zrw] at hb;change yE l→xA _ _ _ _ (m4 l) at hb;have nQ:=fun key v u h1 h2 h3=>zqh l key v u hl aP h1 h2 h3;obtain ⟨I,hI⟩:∃ I,I=yB l l.length:=⟨_,rfl⟩
 have MU:I.length≤l.length:=by rw [hI];exact UB l l.length
 have qt:∀ j,j<I.length→nth I j<l.length:=fun j hj=>by have:=zu hj;rw [hI] at this ⊢;exact Xx this
 have bu:e=0→∀ j r m,j<I.length→(∀ i,i<j→UM l (nth I i)=none)→(nth l (nth I j)).k=0→(r=0∨(r=1∧∀ i,i<I.length→mX l (nth I j) 0 (nth I i)=false))→m<I.length→(∀ i,i<m→mX l (nth I j) r (nth I i)=false)→mX l (nth I j) r (nth I m)=true→R=.bd [.agg (ix 6 (9+r) (nth l (nth I j)).key [nth I m,nth I j] []),.int .i64 0]:=fun h0 j r m h1 h2 h3 h4 h5 h6 h7=>by
  have h8:UM l (nth I j)=some (r,nth I m,nth I j):=by
   unfold UM;rw [if_neg (by simpa using h3),← hI];rcases h4 with rfl|⟨rfl,h4⟩
   ·rw [HH h6 h5 h7]
   ·rw [DL h4,HH h6 h5 h7];rfl
  rw [ly h0];unfold DU Cw;rw [← hI,Pl h2 h1 h8]
 have bl:e=0→(∀ i,i<I.length→UM l (nth I i)=none)→R=.bd [.agg (ix 6 0 0 [] []),.int .i64 0]:=fun h0 h=>by
  rw [ly h0];unfold DU Cw;rw [← hI,Pt h]
 have gy:∀ i,(nth l i).k≠0→UM l i=none:=fun i h=>by unfold UM;rw [if_pos h]
 have gR:∀ i,(∀ m,m<I.length→mX l i 0 (nth I m)=false)→(∀ m,m<I.length→mX l i 1 (nth I m)=false)→UM l i=none:=fun i h2 h3=>by
  unfold UM;split
  ·rfl
  ·rw [← hI,DL h2,DL h3];rfl
 unfold m4 at hb nQ;rw [← hI] at hb nQ;obtain ⟨r2,fb⟩:∃ r2,r2=FV.smap (Zq l l.length):=⟨_,rfl⟩
 obtain ⟨C,hC⟩:∃ C,C=List.map (fun q=>[YA (KC l q)]) (List.range l.length):=⟨_,rfl⟩
 unfold qk at hb nQ;rw [← fb,← hC] at hb nQ;clear fb hC;refine ym 109 Tryz.func28 Tryz.ntmps28 rh ?_;change FW _ _ _ ⟨[(0,.list 8 (l.map aq.fv))],[]⟩;refine zb ?_;refine yP qu (by repeat (first|exact zH.nil|refine zH.cons zB ?_)) rfl rfl ?_;refine zb ?_;refine FW.cond rfl (fun h=>?_) (fun h=>?_)
 ·rw [AH (by simpa using h)];refine zb ?_;exact FW.ret ⟨.inl rfl,.sh (.cons (yD rfl rfl rfl rfl rfl rfl zd) (.cons (.tmp 3 rfl rfl) .nil)) rfl rfl⟩
 have Fz:e=0:=by simpa using h
 subst Fz;have ly:=ly rfl;have hb:=hb (nJ rfl);have bu:=bu rfl;have bl:=bl rfl;clear h AH nJ;refine zb ?_;refine Zg hb (by repeat (first|exact zH.nil|refine zH.cons zB ?_)) rfl rfl ?_;refine zb ?_;refine FW.loop (fun j:Nat=>⟨[(0,.list 8 (l.map aq.fv)),(2,.ptr 102 0 0 0),(5,.ax 4 [[.list 8 (l.map aq.fv),.list 1 (I.map yx),r2,.list 1 C]] 0 0),(26,.list 1 (I.map yx)),(27,.int .i64 I.length),(28,.int .i64 j)],[(102,⟨0,.own,31,5,[[.int .i64 0,.int .i64 0,.int .i64 0,.nil,.nil]]⟩)]⟩) (fun j=>j≤I.length∧∀ i,i<j→UM l (nth I i)=none) (fun j=>I.length - j) 0 ⟨zp _,fun i hi=>absurd hi (ZH _)⟩ ?_ ?_
 ·exact (ar.cv [⟨102,some 2,0+1,⟨0,.own,31,5,[[.int .i64 0,.int .i64 0,.int .i64 0,.nil,.nil]]⟩⟩] zh zf)
 rintro j ⟨hj,dJ⟩;refine zb ?_;refine FW.cond rfl (fun h=>?_) (fun h=>?_)
 ·have cN:j<I.length:=by simpa using h
  clear h;have bu:=fun r m=>bu j r m cN dJ;have cD:UM l (nth I j)=none→∀ i,i<j+1→UM l (nth I i)=none:=fun h i hi=>by
   rcases Wg.1 hi with h'|rfl
   ·exact dJ i h'
   ·exact h
  have cy:=qt j cN;have pH:=aP _ (zu cy);obtain ⟨i,hi⟩:∃ i,nth I j=i:=⟨_,rfl⟩
  rw [hi] at cy bu cD pH;have gy:=gy i;have gR:=gR i;have T5:∀ r k,mX l i r k=(decide (k<i) && decide ((nth l k).p=(nth l i).p) && decide ((nth l k).key=(nth l i).key) && (decide ((nth l k).k=1) == decide (r=0)) && Co l (nth l i).key (nth l i).res (if (nth l k).k=1 then (nth l k).arg else (nth l k).res)):=fun r k=>rfl;obtain ⟨o,er⟩:∃ o,nth l i=o:=⟨_,rfl⟩
  rw [er] at bu gy pH;rw [er] at T5;refine zb ?_;rw [hi];skip;rw [er];skip;refine FW.cond rfl (fun h1=>?_) (fun h1=>?_)
  ·refine zb ?_;refine ⟨j+1,⟨by omega,cD (gy (by simpa using h1))⟩,by omega,?_⟩;exact (ar.cv [⟨102,some 102,0,⟨0,.own,31,5,[[.int .i64 0,.int .i64 0,.int .i64 0,.nil,.nil]]⟩⟩] zh zf)
  have dS:o.k=0:=by simpa using h1
  have bu:=fun r m=>bu r m dS
  (repeat (first|refine FW.seq ?_|refine FW.region ?_|refine FW.skip ?_))
  refine UK (es:=([9,10]:List Int).map zJ) rfl rfl rfl (by refine Xi.int rfl rfl ?_;refine Xi.int rfl rfl ?_;exact Xi.nil) rfl rfl rfl rfl rfl ?_;refine zb ?_;refine FW.loop (fun r:Nat=>⟨[(0,.list 8 (l.map aq.fv)),(2,.ptr 102 0 0 0),(5,.ax 4 [[.list 8 (l.map aq.fv),.list 1 (I.map yx),r2,.list 1 C]] 0 0),(26,.list 1 (I.map yx)),(27,.int .i64 I.length),(28,.int .i64 j),(7,.int .i64 i),(8,.ptr 108 0 0 0),(39,.list 1 (([9,10]:List Int).map zJ)),(40,.int .i64 2),(41,.int .i64 r)],[(102,⟨0,.own,31,5,[[.int .i64 0,.int .i64 0,.int .i64 0,.nil,.nil]]⟩),(108,⟨0,.own,43,8,[o.fv]⟩)]⟩) (fun r=>r≤2∧(1≤r→∀ m,m<I.length→mX l i 0 (nth I m)=false)∧(2≤r→∀ m,m<I.length→mX l i 1 (nth I m)=false)) (fun r=>2 - r) 0 ⟨zp _,by omega,by omega⟩ ?_ ?_
  ·exact (ar.cv [⟨102,some 102,0,⟨0,.own,31,5,[[.int .i64 0,.int .i64 0,.int .i64 0,.nil,.nil]]⟩⟩,⟨108,some 8,0+1,⟨0,.own,43,8,[o.fv]⟩⟩] zh zf)
  rintro r ⟨hr,pJ,fb⟩;refine zb ?_;refine FW.cond rfl (fun h=>?_) (fun h=>?_)
  ·have bK:r<2:=by simp at h;omega
   clear h;obtain ⟨cl,ch⟩:∃ cl:Int,nth [9,10] r=cl:=⟨_,rfl⟩
   have Fp:cl=9+(r:Int):=by
    have:r=0∨r=1:=by omega
    rcases this with rfl|rfl <;> (rw [← ch];rfl)
   have fS:([9,10]:List Int).length=2:=rfl;refine zb ?_;rw [ch];skip;refine FW.loop (fun m:Nat=>⟨[(0,.list 8 (l.map aq.fv)),(2,.ptr 102 0 0 0),(5,.ax 4 [[.list 8 (l.map aq.fv),.list 1 (I.map yx),r2,.list 1 C]] 0 0),(26,.list 1 (I.map yx)),(27,.int .i64 I.length),(28,.int .i64 j),(7,.int .i64 i),(8,.ptr 108 0 0 0),(39,.list 1 (([9,10]:List Int).map zJ)),(40,.int .i64 2),(41,.int .i64 r),(10,.int .i64 cl),(48,.list 1 (I.map yx)),(49,.int .i64 I.length),(50,.int .i64 m)],[(102,⟨0,.own,31,5,[[.int .i64 0,.int .i64 0,.int .i64 0,.nil,.nil]]⟩),(108,⟨0,.own,43,8,[o.fv]⟩)]⟩) (fun m=>m≤I.length∧∀ q,q<m→mX l i r (nth I q)=false) (fun m=>I.length - m) 0 ⟨zp _,fun i hi=>absurd hi (ZH _)⟩ ?_ ?_
   ·exact (ar.cv [⟨102,some 102,0,⟨0,.own,31,5,[[.int .i64 0,.int .i64 0,.int .i64 0,.nil,.nil]]⟩⟩,⟨108,some 108,0,⟨0,.own,43,8,[o.fv]⟩⟩] zh zf)
   rintro m ⟨hm,oP⟩;refine zb ?_;refine FW.cond rfl (fun h=>?_) (fun h=>?_)
   ·have iZ:m<I.length:=by simpa using h
    clear h;have bu:=bu r m (by
     have:r=0∨r=1:=by omega
     rcases this with rfl|rfl
     ·exact .inl rfl
     ·exact .inr ⟨rfl,pJ za⟩) iZ oP
    rw [← Fp] at bu;have fT:mX l i r (nth I m)=false→∀ q,q<m+1→mX l i r (nth I q)=false:=fun h q hq=>by
     rcases Wg.1 hq with h'|rfl
     ·exact oP q h'
     ·exact h
    have gU:=qt m iZ;have uI:=aP _ (zu gU);obtain ⟨k,hk⟩:∃ k,nth I m=k:=⟨_,rfl⟩
    rw [hk] at gU bu fT uI;have mF:=T5 r k;obtain ⟨p,pI⟩:∃ p,nth l k=p:=⟨_,rfl⟩
    rw [pI] at mF uI;refine zb ?_;rw [hk];skip;rw [pI];skip;refine yR (fun h2=>?_) (fun h2=>?_)
    ·refine zb ?_;refine ⟨m+1,⟨by omega,fT ?_⟩,by omega,(ar.cv [⟨102,some 102,0,⟨0,.own,31,5,[[.int .i64 0,.int .i64 0,.int .i64 0,.nil,.nil]]⟩⟩,⟨108,some 108,0,⟨0,.own,43,8,[o.fv]⟩⟩] zh zf)⟩;rw [mF,decide_eq_false (show ¬ k<i by simp at h2;omega)];simp
    have rC:k<i:=by simp at h2;omega
    rw [decide_eq_true rC,yN] at mF;refine zb ?_;refine yR (fun h3=>?_) (fun h3=>?_)
    ·refine zb ?_;refine ⟨m+1,⟨by omega,fT ?_⟩,by omega,(ar.cv [⟨102,some 102,0,⟨0,.own,31,5,[[.int .i64 0,.int .i64 0,.int .i64 0,.nil,.nil]]⟩⟩,⟨108,some 108,0,⟨0,.own,43,8,[o.fv]⟩⟩] zh zf)⟩;rw [mF,decide_eq_false (show ¬ p.p=o.p by simpa using h3)];simp
    rw [decide_eq_true (show p.p=o.p by simpa using h3),yN] at mF;refine zb ?_;refine yR (fun h4=>?_) (fun h4=>?_)
    ·refine zb ?_;refine ⟨m+1,⟨by omega,fT ?_⟩,by omega,(ar.cv [⟨102,some 102,0,⟨0,.own,31,5,[[.int .i64 0,.int .i64 0,.int .i64 0,.nil,.nil]]⟩⟩,⟨108,some 108,0,⟨0,.own,43,8,[o.fv]⟩⟩] zh zf)⟩;rw [mF,decide_eq_false (show ¬ p.key=o.key by simpa using h4)];simp
    rw [decide_eq_true (show p.key=o.key by simpa using h4),yN] at mF;refine zb ?_;have hc9:decide (cl=9)=decide (r=0):=by rw [Fp];exact decide_eq_decide.2 za
    rw [hc9];refine FW.cond rfl (fun h5=>?_) (fun h5=>?_)
    ·refine zb ?_;refine ⟨m+1,⟨by omega,fT ?_⟩,by omega,(ar.cv [⟨102,some 102,0,⟨0,.own,31,5,[[.int .i64 0,.int .i64 0,.int .i64 0,.nil,.nil]]⟩⟩,⟨108,some 108,0,⟨0,.own,43,8,[o.fv]⟩⟩] zh zf)⟩;rw [mF,show (decide (p.k=1) == decide (r=0))=false by simpa using h5,Zo]
    rw [show (decide (p.k=1) == decide (r=0))=true by simpa using h5,yN] at mF;refine zb ?_;refine FW.cond rfl (fun h7=>?_) (fun h7=>?_)
    ·have h7:p.k=1:=by simpa using h7
     rw [if_pos h7] at mF;have hold:=nQ o.key o.res p.arg pH.2.2.1 pH.2.2.2.2.1 uI.2.2.2.1;generalize Co l o.key o.res p.arg=ob at hold mF;refine zb ?_;refine yP hold (by repeat (first|exact zH.nil|refine zH.cons zB ?_)) rfl rfl ?_;refine zb ?_;refine FW.cond rfl (fun h6=>?_) (fun h6=>?_)
     ·rw [bu (by rw [mF,h6])]
      (repeat (first|refine FW.seq ?_|refine FW.region ?_|refine zt.ai (zD rfl) rfl rfl ?_|refine zt.ai (Zl rfl rfl rfl rfl rfl rfl zd) rfl rfl ?_|refine zt.ai (xC rfl rfl rfl rfl rfl Zp rfl rfl rfl) rfl rfl ?_))
      refine UK (es:=[yx k,yx i]) rfl rfl rfl (by refine Xi.int rfl rfl ?_;refine Xi.int rfl rfl ?_;exact Xi.nil) rfl rfl rfl rfl rfl ?_;refine zb ?_;exact FW.ret ⟨.inl rfl,.sh (.cons (yD rfl rfl rfl rfl rfl rfl zd) (.cons (.tmp 3 rfl rfl) .nil)) rfl rfl⟩
     ·refine zb ?_;refine ⟨m+1,⟨by omega,fT ?_⟩,by omega,(ar.cv [⟨102,some 102,0,⟨0,.own,31,5,[[.int .i64 0,.int .i64 0,.int .i64 0,.nil,.nil]]⟩⟩,⟨108,some 108,0,⟨0,.own,43,8,[o.fv]⟩⟩] zh zf)⟩;rw [mF,h6]
    ·have h7:¬ p.k=1:=by simpa using h7
     rw [if_neg h7] at mF;have hold:=nQ o.key o.res p.res pH.2.2.1 pH.2.2.2.2.1 uI.2.2.2.2.1;generalize Co l o.key o.res p.res=ob at hold mF;refine zb ?_;refine yP hold (by repeat (first|exact zH.nil|refine zH.cons zB ?_)) rfl rfl ?_;refine zb ?_;refine FW.cond rfl (fun h6=>?_) (fun h6=>?_)
     ·rw [bu (by rw [mF,h6])]
      (repeat (first|refine FW.seq ?_|refine FW.region ?_|refine zt.ai (zD rfl) rfl rfl ?_|refine zt.ai (Zl rfl rfl rfl rfl rfl rfl zd) rfl rfl ?_|refine zt.ai (xC rfl rfl rfl rfl rfl Zp rfl rfl rfl) rfl rfl ?_))
      refine UK (es:=[yx k,yx i]) rfl rfl rfl (by refine Xi.int rfl rfl ?_;refine Xi.int rfl rfl ?_;exact Xi.nil) rfl rfl rfl rfl rfl ?_;refine zb ?_;exact FW.ret ⟨.inl rfl,.sh (.cons (yD rfl rfl rfl rfl rfl rfl zd) (.cons (.tmp 3 rfl rfl) .nil)) rfl rfl⟩
     ·refine zb ?_;refine ⟨m+1,⟨by omega,fT ?_⟩,by omega,(ar.cv [⟨102,some 102,0,⟨0,.own,31,5,[[.int .i64 0,.int .i64 0,.int .i64 0,.nil,.nil]]⟩⟩,⟨108,some 108,0,⟨0,.own,43,8,[o.fv]⟩⟩] zh zf)⟩;rw [mF,h6]
   ·have F7:m=I.length:=by simp at h;omega
    subst F7;refine zb ?_;refine ⟨r+1,⟨by omega,fun _=>?_,fun h=>?_⟩,by omega,?_⟩
    ·have:r=0∨r=1:=by omega
     rcases this with rfl|rfl
     ·exact oP
     ·exact pJ za
    ·have:r=1:=by omega
     subst this;exact oP
    ·exact (ar.cv [⟨102,some 102,0,⟨0,.own,31,5,[[.int .i64 0,.int .i64 0,.int .i64 0,.nil,.nil]]⟩⟩,⟨108,some 108,0,⟨0,.own,43,8,[o.fv]⟩⟩] zh zf)
  ·have mC:r=2:=by simp at h;omega
   subst mC;refine zb ?_;refine ⟨j+1,⟨by omega,cD (gR (pJ za) (fb za))⟩,by omega,?_⟩;exact (ar.cv [⟨102,some 102,0,⟨0,.own,31,5,[[.int .i64 0,.int .i64 0,.int .i64 0,.nil,.nil]]⟩⟩] zh zf)
 ·have kr:j=I.length:=by simp at h;omega
  subst kr;rw [bl dJ];refine zb ?_;exact FW.ret ⟨.inl rfl,.sh (.cons (yD rfl rfl rfl rfl rfl rfl zd) (.cons (.tmp 3 rfl rfl) .nil)) rfl rfl⟩
end
section
open Go.RowKit
attribute [local go_sem ↓] Go.wp_at_zero Go.wp_at_succ
theorem yO {e:TypeId} {sz n:Nat} {v:Value} (h:w.ownsRow base e sz v n xs) {p:Addr} (hp:some p.block≠v.ownBlock) (u:Value):(w.setCell p u).ownsRow base e sz v n xs:=by
 refine ⟨h.1,?_⟩;rcases h.2 with hn|⟨g,cap,cur,rfl,cb,ec,rest⟩
 ·exact .inl hn
 ·exact .inr ⟨g,cap,cur,rfl,cb,(Below.heap_setCell w p u g (fun e=>hp (by simp [Value.ownBlock,e]))).trans ec,rest⟩
end
section
open Go.RowKit
attribute [local go_sem ↓] Go.wp_at_zero Go.wp_at_succ
structure cY where
 p:Int
 inv:Bool
 n:Int
 deriving DecidableEq,Inhabited
def cY.aE (o:cY):List Value:=[.int .i64 o.p,.bool o.inv,.int .i64 o.n]
theorem cY.wide:El 3 cY.aE:=fun _=>rfl
theorem zyf:L1 Tryz.prog 37 41 3 24:=⟨Tryz.underlying37,by
 obtain ⟨i,h0,h1,h2,h3⟩:=info_parts (P:=Tryz.prog) (e:=41) (z:=.agg #[.int .i64 0,.bool false,.int .i64 0]) (size:=3) (bytes:=24) zw;exact ⟨i,_,h0,h1,h2,h3,rfl⟩,by omega⟩
section
variable {w:World} {B:Nat} {A:Option Addr}
theorem Sl.ev {l:List cY} (h:Sl cY.aE w B A l) (hi:i<l.length):∃ b off,A=some ⟨b,off,none⟩∧b<B∧
  w.cell? ⟨b,off+i * 3,none⟩=some (.int .i64 (nth l i).p)∧w.cell? ⟨b,off+i * 3+1,none⟩=some (.bool (nth l i).inv)∧w.cell? ⟨b,off+i * 3+2,none⟩=some (.int .i64 (nth l i).n):=by
 obtain ⟨b,off,rfl,hb,hc⟩:=h.get cY.wide hi;rw [← ak hi] at hc;exact ⟨b,off,rfl,hb,hc 0 _ za rfl,hc 1 _ za rfl,hc 2 _ za rfl⟩
end
structure qc where
 out:List cY
 bt:List Int
 calls:Nat
def Mb:qc:=⟨[],[0,0,0,0],0⟩
def qa (az n:Int) (p:Nat) (s:qc):qc:=
 if nth s.bt p=0∧(s.calls:Int)<az then ⟨s.out++[⟨p,true,n / 4⟩],s.bt.set p 1,s.calls+1⟩
 else if nth s.bt p=1∧n / 4 % 11=10 then { s with bt:=s.bt.set p 2 }
 else if nth s.bt p=1 then { s with bt:=s.bt.set p 0,out:=s.out++[⟨p,false,n / 4⟩] }
 else s
def x9 (l:List Int) (az:Int) (i:Nat) (s:qc):qc:=qa az (WZ (nth l i) 1000000) (WZ (nth l i) 1000000 % 4).toNat s
def kh (l:List Int) (az:Int) (k:Nat):qc:=sH (x9 l az) Mb k
def Yy (l:List Int) (az:Int):List cY:=(kh l az (min l.length 40)).out
structure zyi (k:Nat) (s:qc):Prop where
 lo:s.out.length≤k
 lp:s.bt.length=4
 lc:s.calls≤k
theorem zrM (l:List Int) (az:Int) (k:Nat):zyi k (kh l az k):=by
 induction k with
 | zero => exact ⟨by simp [kh, sH, Mb], rfl, by simp [kh, sH, Mb]⟩
 | succ k ih=>
  have hs:kh l az (k+1)=x9 l az k (kh l az k):=rfl;rw [hs];generalize kh l az k=s at ih;obtain ⟨h1,h2,h3⟩:=ih;unfold x9 qa;split
  ·exact ⟨by simp;omega,by simp;omega,by simp;omega⟩
  ·split
   ·exact ⟨by simp;omega,by simp;omega,by simp;omega⟩
   ·split
    ·exact ⟨by simp;omega,by simp;omega,by simp;omega⟩
    ·exact ⟨by omega,h2,by omega⟩
theorem zir {n:Int} {p:Nat} {s:qc} (h:nth s.bt p=0) (h2:(s.calls:Int)<az):qa az n p s=⟨s.out++[⟨p,true,n / 4⟩],s.bt.set p 1,s.calls+1⟩:=by simp [qa,h,h2]
theorem ziu {n:Int} {p:Nat} {s:qc} (h:nth s.bt p=1) (h2:n / 4 % 11=10):qa az n p s={ s with bt:=s.bt.set p 2 }:=by simp [qa,h,h2]
theorem zk8 {n:Int} {p:Nat} {s:qc} (h:nth s.bt p=1) (h2:¬ n / 4 % 11=10):qa az n p s={ s with bt:=s.bt.set p 0,out:=s.out++[⟨p,false,n / 4⟩] }:=by simp [qa,h,h2]
theorem zis {n:Int} {p:Nat} {s:qc} (h:nth s.bt p=0) (h2:¬ (s.calls:Int)<az):qa az n p s=s:=by simp [qa,h,h2]
theorem zit {n:Int} {p:Nat} {s:qc} (h:¬ nth s.bt p=0) (h2:¬ nth s.bt p=1):qa az n p s=s:=by simp [qa,h,h2]
theorem Cf {e:TypeId} {sz n c:Nat} {A:Option Addr} (h:w.ownsRow base e sz (.slice A n c) n xs) {p:Addr} (hp:p.block<base) (u:Value):(w.setCell p u).ownsRow base e sz (.slice A n c) n xs:=by
 refine yO h ?_ u;rcases h.2 with ⟨hv,_⟩|⟨g,cap,cur,hv,hb,_⟩
 ·rw [hv];simp [Value.ownBlock]
 ·rw [hv];simp [Value.ownBlock];omega
set_option maxRecDepth 100000 in
theorem zpJ (A:Option Addr) (c:Nat) (l:List Int) (az:Int) (w:World) (h1:Sl jm w w.heap.size A l) (hl:∀ x∈l,bU x) (hlen:l.length≤9223372036854775807) (wh:bU az) :
  Calls Tryz.prog 9 #[.slice A l.length c,.int .i64 az] w fun e w'=>∃ A1 c1,e=.returned (.slice A1 (Yy l az).length c1)∧
   w'.ownsRow w.heap.size 41 3 (.slice A1 (Yy l az).length c1) (Yy l az).length (flat cY.aE (Yy l az))∧Below w.heap.size w w':=by
 have F8:∀ w,(Instr.makeSlice 22 (.int .i64 4) (.int .i64 4)).run Tryz.prog w=.ok (.slice (some ⟨w.heap.size,0,none⟩) 4 4) (w.alloc (.cells #[.int .i64 0,.int .i64 0,.int .i64 0,.int .i64 0] 3)):=fun _=>by kernel_rfl
 go_enter Tryz.func9,Tryz.ntmps9
 go_wp2_with fail
 go_loopw [5,7,8] (fun v5 v7 i wr=>∃ (k:Nat) (A1:Option Addr) (c1:Nat),k≤l.length∧k≤40∧i=.int .i64 k∧v5=.slice A1 (kh l az k).out.length c1∧v7=.int .i64 (kh l az k).calls∧
   wr.ownsRow (w.heap.size+1) 41 3 (.slice A1 (kh l az k).out.length c1) (kh l az k).out.length (flat cY.aE (kh l az k).out)∧
   cI wr w.heap.size 3 (flat jm (kh l az k).bt)∧Below w.heap.size w wr∧w.heap.size+1≤wr.heap.size) (fun _ _ i _=>40 - (intOf i).toNat)
 case atStart=>
  exact ⟨0,none,0,by omega,by omega,rfl,rfl,rfl,Wj _ _ _ _,cI.new w 3 [.int .i64 0,.int .i64 0,.int .i64 0,.int .i64 0],(Zc _ _).alloc (zg _) _,by simp⟩
 case round=>
  obtain ⟨k,A1,c1,dI,gl,rfl,rfl,rfl,lF,lz,hb,aY⟩:=hrel;by_cases aA:k<l.length∧k<40
  ·obtain ⟨rG,eM⟩:=aA;obtain ⟨s,hs⟩:∃ s,s=kh l az k:=⟨_,rfl⟩
   have ok:=zrM l az k;have Hs:=yd (show kh l az (k+1)=x9 l az k (kh l az k) from rfl);rw [← hs] at lF lz ok Hs;rw [← hs];have hI:=hl _ (zu rG);obtain ⟨n,hn⟩:∃ n,WZ (nth l k) 1000000=n:=⟨_,rfl⟩
   have ja:0≤n:=hn▸Qk za;have Dd:n<1000000:=hn▸Qj za;obtain ⟨p,hp⟩:∃ p:Nat,n % 4=p:=⟨(n % 4).toNat,by omega⟩
   have Oq:p<4:=by omega
   have hp3:(0:Int)≤(p:Int):=by omega
   have Gn:(p:Int)<4:=by omega
   have bT:x9 l az k s=qa az n p s:=by unfold x9;rw [hn,hp];rfl
   rw [bT] at Hs;clear bT hs;obtain ⟨b,o,rfl,ij,q0⟩:=(h1.below hb).int rG;have gA:=ok.lo;have NY:=ok.lc;have hp5:p<s.bt.length:=by have:=ok.lp;omega
   have x1:=lz.int (i:=p) hp5;have z1:=lz.frozen p;clear ok;by_cases sV : nth s.bt p=0
   ·rw [sV] at x1;by_cases c2:(s.calls:Int)<az
    ·have iM:=yd (Hs.out.trans (zir sV c2));clear sV Hs;have AQ:=lz.setInt p 1;have jX:=Cf lF (p:=⟨w.heap.size,p,none⟩) zc (.int .i64 1);have dZ:=hb.setCell (p:=⟨w.heap.size,p,none⟩) zc (.int .i64 1);have pL:(wr.setCell ⟨w.heap.size,p,none⟩ (.int .i64 1)).heap.size=wr.heap.size:=by simp
     go_wp2_with (first|(go_at_call 30;refine (WO _ _ _ hI za za).mono ?_;rintro e w' ⟨rfl,rfl⟩;rw [hn])|(at_builtin;go_loud (refine VF zyf jX rfl (.tmp 44) (.tmp 49) rfl rfl (by rw [pL];rfl) rfl (by simp [Value.oneCell']) za za za ?_;intro A3 c3 w2 De kN uz uF)))
     go_roundw
     case rel=>
      refine ⟨k+1,A3,c3,by omega,by omega,by go_num,by rw [iM.out];simp,by rw [iM.out];simp,?_,?_,?_,?_⟩
      ·rw [iM.out,Vq,H8];simpa [cY.aE] using De
      ·rw [iM.out];exact AQ.below kN zc
      ·exact dZ.trans (kN.mono za)
      ·have:=kN.size;omega
     case measure=>simp [intOf];omega
    ·have iM:=yd (Hs.out.trans (zis sV c2));clear sV Hs
     go_wp2_with (go_at_call 30;refine (WO _ _ _ hI za za).mono ?_;rintro e w' ⟨rfl,rfl⟩;rw [hn])
     go_roundw
     case rel=>exact ⟨k+1,A1,c1,by omega,by omega,by go_num,by rw [iM.out],by rw [iM.out],by rw [iM.out];exact lF,by rw [iM.out];exact lz,hb,aY⟩
     case measure=>simp [intOf];omega
   ·by_cases c3:nth s.bt p=1
    ·rw [c3] at x1;by_cases c4:n / 4 % 11=10
     ·have iM:=yd (Hs.out.trans (ziu c3 c4));have c4' : (n / 4 % 11 == 10)=true:=by simpa using c4
      clear sV c3 c4 Hs
      go_wp2_with (go_at_call 30;refine (WO _ _ _ hI za za).mono ?_;rintro e w' ⟨rfl,rfl⟩;rw [hn])
      go_roundw
      case rel=>exact ⟨k+1,A1,c1,by omega,by omega,by go_num,by rw [iM.out],by rw [iM.out],by rw [iM.out];exact Cf lF zc _,by rw [iM.out];exact lz.setInt p _,hb.setCell zc _,by simpa using aY⟩
      case measure=>simp [intOf];omega
     ·have iM:=yd (Hs.out.trans (zk8 c3 c4));have c4' : (n / 4 % 11 == 10)=false:=by simpa using c4
      clear sV c3 c4 Hs;have AQ:=lz.setInt p 0;have jX:=Cf lF (p:=⟨w.heap.size,p,none⟩) zc (.int .i64 0);have dZ:=hb.setCell (p:=⟨w.heap.size,p,none⟩) zc (.int .i64 0);have pL:(wr.setCell ⟨w.heap.size,p,none⟩ (.int .i64 0)).heap.size=wr.heap.size:=by simp
      go_wp2_with (first|(go_at_call 30;refine (WO _ _ _ hI za za).mono ?_;rintro e w' ⟨rfl,rfl⟩;rw [hn])|(at_builtin;go_loud (refine VF zyf jX rfl (.tmp 73) (.tmp 78) rfl rfl (by rw [pL];rfl) rfl (by simp [Value.oneCell']) za za za ?_;intro A3 c3 w2 De kN uz uF)))
      go_roundw
      case rel=>
       refine ⟨k+1,A3,c3,by omega,by omega,by go_num,by rw [iM.out];simp,by rw [iM.out],?_,?_,?_,?_⟩
       ·rw [iM.out,Vq,H8];simpa [cY.aE] using De
       ·rw [iM.out];exact AQ.below kN zc
       ·exact dZ.trans (kN.mono za)
       ·have:=kN.size;omega
      case measure=>simp [intOf];omega
    ·have iM:=yd (Hs.out.trans (zit sV c3));have c1'' : (nth s.bt p == 0)=false:=by simpa using sV
     have c3' : (nth s.bt p == 1)=false:=by simpa using c3
     clear sV c3 Hs
     go_wp2_with (go_at_call 30;refine (WO _ _ _ hI za za).mono ?_;rintro e w' ⟨rfl,rfl⟩;rw [hn])
     go_roundw
     case rel=>exact ⟨k+1,A1,c1,by omega,by omega,by go_num,by rw [iM.out],by rw [iM.out],by rw [iM.out];exact lF,by rw [iM.out];exact lz,hb,aY⟩
     case measure=>simp [intOf];omega
  ·have e:k=min l.length 40:=by omega
   by_cases rG:k<l.length
   ·have NP:¬ k<40:=fun h=>aA ⟨rG,h⟩
    go_wp2_with fail
    go_ret
    subst e;exact ⟨A1,c1,rfl,Ic lF za,hb⟩
   ·go_wp2_with fail
    go_ret
    subst e;exact ⟨A1,c1,rfl,Ic lF za,hb⟩
end
section
open Go.RowKit
attribute [local go_sem ↓] Go.wp_at_zero Go.wp_at_succ
end
section
open Go.RowKit
attribute [local go_sem ↓] Go.wp_at_zero Go.wp_at_succ
end
/-! ### the observations made from numbers are of sequential processes -/
/-! ### replies and invocations of observations made from numbers -/
/-! ### what an operation looks like -/
/-! ### how many are done -/
def bt (ev:List cY):Nat→Int→Bool
 | 0, _ => false
 | k+1, p => if (nth ev k).p=p then (nth ev k).inv else bt ev k p
def o3 (ev:List cY):Nat→Nat
 | 0 => 0
 | k+1 => o3 ev k+if (nth ev k).inv then 1 else 0
def sA (ev:List cY):Prop:=∀ k,k<ev.length→(0≤(nth ev k).p∧(nth ev k).p<4)∧(0≤(nth ev k).n∧(nth ev k).n≤250000)∧(nth ev k).inv=!bt ev k (nth ev k).p
theorem Lz (ev:List cY) (a:cY):∀ k p,k≤ev.length→bt (ev++[a]) k p=bt ev k p
 | 0, _, _ => rfl
 | k+1, p, h => by
  unfold bt;rw [xQ za,Lz ev a k p za]
theorem zlw (ev:List cY) (a:cY):∀ k,k≤ev.length→o3 (ev++[a]) k=o3 ev k
 | 0, _ => rfl
 | k+1, h => by
  unfold o3;rw [xQ za,zlw ev a k za]
theorem zoK (ev:List cY) (a:cY) (p:Int):bt (ev++[a]) (ev++[a]).length p=if a.p=p then a.inv else bt ev ev.length p:=by
 rw [zN,Wb,bt,ZA,Lz ev a _ _ (zg _)]
theorem zlx (ev:List cY) (a:cY):o3 (ev++[a]) (ev++[a]).length=o3 ev ev.length+if a.inv then 1 else 0:=by
 rw [zN,Wb,o3,ZA,zlw ev a _ (zg _)]
theorem sA.app {ev:List cY} (h:sA ev) {a:cY} (h1:0≤a.p∧a.p<4) (h2:0≤a.n∧a.n≤250000) (h3:a.inv=!bt ev ev.length a.p):sA (ev++[a]):=by
 intro k hk;rw [zN,Wb] at hk;by_cases e:k<ev.length
 ·rw [xQ e,Lz ev a k _ za];exact h k e
 ·have:k=ev.length:=by omega
  subst this;rw [ZA,Lz ev a _ _ (zg _)];exact ⟨h1,h2,h3⟩
structure zxQ (az:Int) (s:qc):Prop where
 MG:sA s.out
 lp:s.bt.length=4
 pe:∀ p:Nat,p<4→(nth s.bt p=0∧bt s.out s.out.length p=false∨(nth s.bt p=1∨nth s.bt p=2)∧bt s.out s.out.length p=true)
 cnt:o3 s.out s.out.length=s.calls
 le:s.calls=0∨(s.calls:Int)≤az
theorem Q7 (l:List Int) (az:Int) (k:Nat):zxQ az (kh l az k):=by
 induction k with
 | zero =>
  refine ⟨fun k hk=>by simp [kh,sH,Mb] at hk,rfl,fun p hp=>.inl ⟨?_,rfl⟩,rfl,.inl rfl⟩
  match p,hp with
  | 0, _ => rfl
  | 1, _ => rfl
  | 2, _ => rfl
  | 3, _ => rfl
 | succ k ih=>
  have hs:kh l az (k+1)=x9 l az k (kh l az k):=rfl;rw [hs];generalize kh l az k=s at ih;unfold x9;have ja:=Qk (n:=nth l k) (az:=1000000) za;have Dd:=Qj (n:=nth l k) (az:=1000000) za;generalize WZ (nth l k) 1000000=n at ja Dd;obtain ⟨p,hp⟩:∃ p:Nat,(n % 4).toNat=p:=⟨_,rfl⟩
  rw [hp];have Gn:p<4:=by omega
  obtain ⟨h1,h2,h3,h4,h5⟩:=ih;have hq:∀ (x:Int) (q:Nat),q<4→nth (s.bt.set p x) q=if q=p then x else nth s.bt q:=by
   intro x q uJ;by_cases e:q=p
   ·subst e;rw [if_pos rfl,yf za]
   ·rw [if_neg e,yn (fun h=>e h.symm)]
  by_cases c1:nth s.bt p=0
  ·have pI:bt s.out s.out.length p=false:=by rcases h3 p Gn with ⟨_,h⟩|⟨h,_⟩;exact h;omega
   by_cases c2:(s.calls:Int)<az
   ·rw [zir c1 c2];refine ⟨h1.app ⟨by dsimp only;omega,by dsimp only;omega⟩ ⟨by dsimp only;omega,by dsimp only;omega⟩ (by dsimp only;rw [pI];rfl),by simpa using h2,fun q uJ=>?_,?_,.inr (by dsimp only;omega)⟩
    ·dsimp only;rw [hq _ _ uJ,zoK];by_cases e:q=p
     ·subst e;right;simp
     ·have e2:¬ ((p:Int)=(q:Int)):=by omega
      simp only [if_neg e,if_neg e2];exact h3 q uJ
    ·dsimp only;rw [zlx,h4];rfl
   ·rw [zis c1 c2];exact ⟨h1,h2,h3,h4,h5⟩
  ·by_cases c3:nth s.bt p=1
   ·have pI:bt s.out s.out.length p=true:=by rcases h3 p Gn with ⟨h,_⟩|⟨_,h⟩;omega;exact h
    by_cases c4:n / 4 % 11=10
    ·rw [ziu c3 c4];refine ⟨h1,by simpa using h2,fun q uJ=>?_,h4,h5⟩;dsimp only;rw [hq _ _ uJ];by_cases e:q=p
     ·subst e;right;simp [pI]
     ·simp only [if_neg e];exact h3 q uJ
    ·rw [zk8 c3 c4];refine ⟨h1.app ⟨by dsimp only;omega,by dsimp only;omega⟩ ⟨by dsimp only;omega,by dsimp only;omega⟩ (by dsimp only;rw [pI];rfl),by simpa using h2,fun q uJ=>?_,?_,h5⟩
     ·dsimp only;rw [hq _ _ uJ,zoK];by_cases e:q=p
      ·subst e;left;simp
      ·have e2:¬ ((p:Int)=(q:Int)):=by omega
       simp only [if_neg e,if_neg e2];exact h3 q uJ
     ·dsimp only;rw [zlx,h4];rfl
   ·rw [zit c1 c3];exact ⟨h1,h2,h3,h4,h5⟩
theorem Pr (l:List Int) (az:Int):sA (Yy l az):=(Q7 l az _).MG
theorem PB (l:List Int) (az:Int):(Yy l az).length≤40:=by have:=(zrM l az (min l.length 40)).lo;unfold Yy;omega
theorem zm3 (l:List Int) (h:0≤az):(o3 (Yy l az) (Yy l az).length:Int)≤az:=by
 have h1:=(Q7 l az (min l.length 40)).cnt;have h2:=(Q7 l az (min l.length 40)).le;unfold Yy;omega
structure nk (ev:List cY) (k:Nat) (out:List aq) (opn:List Int):Prop where
 J4:opn.length=4
 len:out.length=o3 ev k
 call:∀ j,j<out.length→∃ c:Nat,(nth out j).call=c∧c<k∧(nth ev c).inv=true∧(nth out j).p=(nth ev c).p
 mono:∀ i j,i<j→j<out.length→(nth out i).call<(nth out j).call
 ret:∀ j,j<out.length→(nth out j).done=true→∃ r:Nat,(nth out j).ret=r∧r<k∧(nth ev r).inv=false∧(nth out j).call<r
 stay:∀ j,j<out.length→(nth out j).done=false→(nth out j).ret=ev.length∧(nth out j).res=0∧bt ev k (nth out j).p=true
 one:∀ i j,i<j→j<out.length→(nth out i).done=true→(nth out j).done=true→(nth out i).ret≠(nth out j).ret
 seq:∀ i j,i<j→j<out.length→(nth out i).p=(nth out j).p→(nth out i).done=true∧(nth out i).ret<(nth out j).call
 opn:∀ p:Nat,p<4→bt ev k p=true→∃ j:Nat,nth opn p=j∧j<out.length∧(nth out j).p=p∧(nth out j).done=false
theorem nk.zero (ev:List cY):nk ev 0 [] [0,0,0,0]:=
 ⟨rfl,rfl,fun _ h=>by simp at h,fun _ _ _ h=>by simp at h,fun _ h=>by simp at h,fun _ h=>by simp at h,fun _ _ _ h=>by simp at h,fun _ _ _ h=>by simp at h,fun _ _ h=>by simp [bt] at h⟩
theorem nk.add {ev:List cY} {out:List aq} {opn:List Int} (h:nk ev k out opn) (hg:sA ev) (hk:k<ev.length) (hi:(nth ev k).inv=true) (h1:o.p=(nth ev k).p) (h2:o.call=k) (h3:o.ret=ev.length) (h4:o.done=false) (h5:o.res=0) {p:Nat} (hp:(nth ev k).p=p) :
  nk ev (k+1) (out++[o]) (opn.set p out.length):=by
 obtain ⟨⟨g1,g2⟩,_,g3⟩:=hg k hk;have Gp:bt ev k (nth ev k).p=false:=by rw [hi] at g3;simpa using g3
 have Gn:p<4:=by omega
 have bL:∀ i,i<out.length→nth (out++[o]) i=nth out i:=fun i hi=>xQ hi;have new:nth (out++[o]) out.length=o:=ZA;have hlen:(out++[o]).length=out.length+1:=by simp
 have free:∀ j,j<out.length→(nth out j).p=(nth ev k).p→(nth out j).done=true:=by
  intro j hj he;cases hd:(nth out j).done with
  | true => rfl
  | false => have := (h.stay j hj hd).2.2; rw [he, Gp] at this; cases this
 refine ⟨by simpa using h.J4,?_,fun j hj=>?_,fun i j dc hj=>?_,fun j hj hd=>?_,fun j hj hd=>?_,fun i j dc hj vP JD=>?_,fun i j dc hj he=>?_,fun q hq nT=>?_⟩
 ·rw [hlen,h.len,o3,hi];rfl
 ·by_cases e:j<out.length
  ·rw [bL j e];obtain ⟨c,a1,a2,a3,a4⟩:=h.call j e;exact ⟨c,a1,by omega,a3,a4⟩
  ·obtain rfl:j=out.length:=by omega
   rw [new];exact ⟨k,h2,by omega,hi,h1⟩
 ·rw [bL i za];by_cases e:j<out.length
  ·rw [bL j e];exact h.mono i j dc e
  ·obtain rfl:j=out.length:=by omega
   rw [new,h2];obtain ⟨c,a1,a2,_⟩:=h.call i dc;omega
 ·by_cases e:j<out.length
  ·rw [bL j e] at hd ⊢;obtain ⟨r,a1,a2,a3,a4⟩:=h.ret j e hd;exact ⟨r,a1,by omega,a3,a4⟩
  ·obtain rfl:j=out.length:=by omega
   rw [new,h4] at hd;cases hd
 ·by_cases e:j<out.length
  ·rw [bL j e] at hd ⊢;obtain ⟨a1,a2,a3⟩:=h.stay j e hd;refine ⟨a1,a2,?_⟩;rw [bt];split
   ·exact hi
   ·exact a3
  ·obtain rfl:j=out.length:=by omega
   rw [new];exact ⟨h3,h5,by rw [bt,h1,if_pos rfl,hi]⟩
 ·rw [bL i za] at vP ⊢;by_cases e:j<out.length
  ·rw [bL j e] at JD ⊢;exact h.one i j dc e vP JD
  ·obtain rfl:j=out.length:=by omega
   rw [new,h4] at JD;cases JD
 ·rw [bL i za] at he ⊢;by_cases e:j<out.length
  ·rw [bL j e] at he ⊢;exact h.seq i j dc e he
  ·obtain rfl:j=out.length:=by omega
   rw [new] at he ⊢;have hd:=free i dc (he.trans h1);obtain ⟨r,a1,a2,_⟩:=h.ret i dc hd;exact ⟨hd,by omega⟩
 ·rw [bt] at nT;by_cases e:q=p
  ·subst e;exact ⟨out.length,yf (by rw [h.J4];exact hq),by omega,by rw [new,h1,hp],by rw [new,h4]⟩
  ·rw [if_neg za] at nT;obtain ⟨j,a1,a2,a3,a4⟩:=h.opn q hq nT;exact ⟨j,by rw [yn (fun e2=>e e2.symm)];exact a1,by omega,by rw [bL j a2];exact a3,by rw [bL j a2];exact a4⟩
theorem nk.at_ {ev:List cY} {out:List aq} {opn:List Int} (h:nk ev k out opn) (hg:sA ev) (hk:k<ev.length) (hi:(nth ev k).inv=false) {p:Nat} (hp:(nth ev k).p=p) :
  ∃ j:Nat,nth opn p=j∧j<out.length∧(nth out j).p=p∧(nth out j).done=false:=by
 obtain ⟨⟨g1,g2⟩,_,g3⟩:=hg k hk;refine h.opn p za ?_;rw [hi,hp] at g3;simpa using g3
theorem nk.put {ev:List cY} {out:List aq} {opn:List Int} (h:nk ev k out opn) (hk:k<ev.length) (hi:(nth ev k).inv=false) (hj:j<out.length) (C9:(nth out j).p=(nth ev k).p) (TG:(nth out j).done=false)
(h1 : o.p=(nth out j).p) (h2:o.call=(nth out j).call) (h3:o.ret=k) (h4:o.done=true):nk ev (k+1) (out.set j o) opn:=by
 have other:∀ i,i≠j→nth (out.set j o) i=nth out i:=fun i hi=>yn (fun e=>hi e.symm);have here:nth (out.set j o) j=o:=yf hj;have hlen:(out.set j o).length=out.length:=by simp
 have pc:∀ i,(nth (out.set j o) i).p=(nth out i).p∧(nth (out.set j o) i).call=(nth out i).call:=by
  intro i;by_cases e:i=j
  ·subst e;rw [here];exact ⟨h1,h2⟩
  ·rw [other i e];exact ⟨rfl,rfl⟩
 have uniq:∀ i,i<out.length→i≠j→(nth out i).p=(nth out j).p→(nth out i).done=true:=by
  intro i hi he pI;rcases yg i j with e|e
  ·exact (h.seq i j e hj pI).1
  ·have:=(h.seq j i za hi pI.symm).1;rw [TG] at this;cases this
 have wP:∀ i,i<out.length→(nth out i).done=true→(nth out i).ret<k:=by
  intro i hi hd;obtain ⟨r,a1,a2,_⟩:=h.ret i hi hd;omega
 refine ⟨h.J4,?_,fun i iE=>?_,fun a b eX hb=>?_,fun i iE hd=>?_,fun i iE hd=>?_,fun a b eX hb Fu Fw=>?_,fun a b eX hb he=>?_,fun q hq nT=>?_⟩
 ·rw [hlen,h.len,o3,hi];rfl
 ·rw [hlen] at iE;obtain ⟨c,a1,a2,a3,a4⟩:=h.call i iE;exact ⟨c,by rw [(pc i).2];exact a1,by omega,a3,by rw [(pc i).1];exact a4⟩
 ·rw [hlen] at hb;rw [(pc a).2,(pc b).2];exact h.mono a b eX hb
 ·rw [hlen] at iE;by_cases e:i=j
  ·subst e;rw [here];obtain ⟨c,a1,a2,_⟩:=h.call i iE;exact ⟨k,h3,by omega,hi,by omega⟩
  ·rw [other i e] at hd ⊢;obtain ⟨r,a1,a2,a3,a4⟩:=h.ret i iE hd;exact ⟨r,a1,by omega,a3,a4⟩
 ·rw [hlen] at iE;by_cases e:i=j
  ·subst e;rw [here,h4] at hd;cases hd
  ·rw [other i e] at hd ⊢;obtain ⟨a1,a2,a3⟩:=h.stay i iE hd;refine ⟨a1,a2,?_⟩;rw [bt,if_neg]
   ·exact a3
   ·intro e2;have:=uniq i iE e (e2.symm.trans C9.symm);rw [hd] at this;cases this
 ·rw [hlen] at hb;by_cases ea:a=j
  ·subst ea;rw [other b za] at Fw ⊢;rw [here,h3];have:=wP b hb Fw;omega
  ·rw [other a ea] at Fu ⊢;by_cases eb:b=j
   ·subst eb;rw [here,h3];have:=wP a za Fu;omega
   ·rw [other b eb] at Fw ⊢;exact h.one a b eX hb Fu Fw
 ·rw [hlen] at hb;rw [(pc a).1,(pc b).1] at he;rw [(pc b).2];obtain ⟨s1,s2⟩:=h.seq a b eX hb he;by_cases ea:a=j
  ·subst ea;rw [TG] at s1;cases s1
  ·rw [other a ea];exact ⟨s1,s2⟩
 ·rw [bt] at nT;split at nT
  ·rw [hi] at nT;cases nT
  ·rename_i aN;obtain ⟨i,a1,a2,a3,a4⟩:=h.opn q hq nT;have dc:i≠j:=by
    intro e;subst e;exact aN (by rw [← C9,a3])
   exact ⟨i,a1,by rw [hlen];exact a2,by rw [other i dc];exact a3,by rw [other i dc];exact a4⟩
theorem nk.uB {ev:List cY} {out:List aq} {opn:List Int} (h:nk ev k out opn) (hg:sA ev) (hk:k≤ev.length) (hlen:out.length≤300) (FO:∀ o∈out,0≤o.k∧o.k≤4):Zj out=0:=by
 rw [Zj,if_neg za];refine Vr _ _ fun j _ hj=>?_;have hj:j<out.length:=by omega
 obtain ⟨c,c1,c2,c3,c4⟩:=h.call j hj;have TN:=FO _ (zu hj);have hgc:=(hg c za).1;have BD:iH (nth out j)=true:=by
  simp only [iH,zx,decide_eq_true_eq,xB];cases hd:(nth out j).done with
  | true =>
   obtain ⟨r,a1,a2,a3,a4⟩:=h.ret j hj hd;exact ⟨⟨⟨⟨⟨by omega,by omega⟩,by omega⟩,by omega⟩,by omega⟩,.inl rfl⟩
  | false =>
   obtain ⟨a1,a2,a3⟩:=h.stay j hj hd;exact ⟨⟨⟨⟨⟨by omega,by omega⟩,by omega⟩,by omega⟩,by omega⟩,.inr a2⟩
 unfold kg;rw [if_neg (by rw [BD];simp),if_neg,if_neg,if_neg]
 ·rintro ⟨rU,AO⟩;obtain ⟨o,ho⟩:=Option.isSome_iff_exists.1 rU;rw [ho] at AO;simp only [Zy] at AO;obtain ⟨m,hm,hmo,N9⟩:=Pv ho;subst hmo;obtain ⟨s1,s2⟩:=h.seq m j hm hj N9;rcases AO with e|e
  ·rw [s1] at e;cases e
  ·omega
 ·intro Fy;simp only [xB,zx] at Fy;rcases Fy with e|⟨hd,e|e⟩
  ·obtain ⟨m,h1,h2,h3⟩:=HP e;simp only [zx,beq_iff_eq] at h3;obtain ⟨r,a1,a2,a3,a4⟩:=h.ret m h2 h3.1;have:r=c:=by omega
   subst this;rw [a3] at c3;cases c3
  ·obtain ⟨m,h1,h2,h3⟩:=HP e;simp only [zx,beq_iff_eq] at h3;exact h.one m j h1 hj h3.1 hd h3.2
  ·obtain ⟨m,h1,h2,h3⟩:=HP e;simp only [beq_iff_eq] at h3;obtain ⟨r,a1,a2,a3,a4⟩:=h.ret j hj hd;obtain ⟨c',b1,b2,b3,b4⟩:=h.call m h2;have:r=c':=by omega
   subst this;rw [a3] at b3;cases b3
 ·rintro ⟨h0,hle⟩;have:=h.mono (j - 1) j za hj;omega
section
open Go.RowKit
end
section
open Go.RowKit
attribute [local go_sem ↓] Go.wp_at_zero Go.wp_at_succ
def tR (l:List Int) (az:Int):Int:=if l.length=0 then 0 else WZ (nth l 0) az
theorem zuO (l:List Int) (h:0<az):0≤tR l az∧tR l az<az:=by
 unfold tR;split
 ·omega
 ·exact ⟨Qk h,Qj h⟩
set_option maxRecDepth 100000 in
theorem zsN (A:Option Addr) (c:Nat) (l:List Int) (az:Int) (w:World) (h1:Sl jm w w.heap.size A l) (hl:∀ x∈l,bU x) (hlen:l.length≤9223372036854775807) (h2:1≤az) (h3:az≤4611686018427387904) :
  Calls Tryz.prog 10 #[.slice A l.length c,.int .i64 0,.int .i64 az] w fun e w'=>e=.returned (.int .i64 (tR l az))∧w=w':=by
 by_cases h:0<l.length
 ·obtain ⟨b,o,rfl,ij,q0⟩:=h1.int h;simp only [ZZ] at q0;have hI:=hl _ (zu h);have e:tR l az=WZ (nth l 0) az:=by rw [tR,if_neg za]
  rw [e];have aA:(0:Int)<(l.length:Int):=by omega
  have aN:decide (l=[])=false:=by cases l with|nil=>simp at h|cons a t=>simp
  go_enter Tryz.func10,Tryz.ntmps10
  go_wp2_with (go_at_call 30;refine (WO _ _ _ hI za za).mono ?_;rintro e w' ⟨rfl,rfl⟩)
  go_ret
  exact ⟨rfl,rfl⟩
 ·have e:tR l az=0:=by rw [tR,if_pos za]
  rw [e];obtain rfl:l=[]:=by cases l with|nil=>rfl|cons a t=>simp at h
  go_enter Tryz.func10,Tryz.ntmps10
  go_wp2_with fail
  go_ret
  exact ⟨rfl,rfl⟩
/-! ### chosen -/
def XM (ws:List Int) (key:Int):Nat→List Int
 | 0 => [0]
 | k+1 => if nth ws k=key then XM ws key k ++ [(k:Int)+1] else XM ws key k
theorem Qx (ws:List Int) (key:Int):∀ k,0<(XM ws key k).length∧(XM ws key k).length≤k+1
 | 0 => by simp [XM]
 | k+1 => by
  have:=Qx ws key k;unfold XM;split
  ·simp;omega
  ·omega
theorem Q3 (ws:List Int) (key:Int):∀ k,∀ x∈XM ws key k,0≤x∧x≤k
 | 0, x, h => by simp [XM] at h; omega
 | k+1,x,h=>by
  unfold XM at h;split at h
  ·rcases zC.1 h with h|h
   ·have:=Q3 ws key k x h;omega
   ·simp at h;omega
  ·have:=Q3 ws key k x h;omega
def Xj (ws:List Int) (key n cV:Int) (fresh:Bool):Int:=
 if fresh=true∧0<n % 7 then cV
 else if n % 13=12 then 1+n / 13 % 12
 else nth (XM ws key ws.length) (n / 2 % (XM ws key ws.length).length).toNat
theorem zpm (ws:List Int) (key n cV:Int) (fresh:Bool) (h:0≤cV):0≤Xj ws key n cV fresh∧(Xj ws key n cV fresh≤cV∨Xj ws key n cV fresh≤12∨Xj ws key n cV fresh≤ws.length):=by
 unfold Xj;split
 ·omega
 ·split
  ·omega
  ·have h1:=Qx ws key ws.length;have h2:(n / 2 % ((XM ws key ws.length).length:Int)).toNat<(XM ws key ws.length).length:=by
    have:=Rn (n / 2) (show (0:Int)<((XM ws key ws.length).length:Int) by omega);have:=Ro (n / 2) (show ((XM ws key ws.length).length:Int)≠0 by omega);omega
   have:=Q3 ws key ws.length _ (zu h2);omega
set_option maxRecDepth 100000 in
theorem zpn (A:Option Addr) (c:Nat) (ws:List Int) (key n cV:Int) (fresh:Bool) (w:World) (h1:Sl jm w w.heap.size A ws) (hlen:ws.length≤1000000) (ja:0≤n) (Dd:n≤1000000) :
  Calls Tryz.prog 11 #[.slice A ws.length c,.int .i64 key,.int .i64 n,.int .i64 cV,.bool fresh] w fun e w'=>e=.returned (.int .i64 (Xj ws key n cV fresh))∧Below w.heap.size w w':=by
 by_cases hf:fresh=true∧0<n % 7
 ·have e:Xj ws key n cV fresh=cV:=by rw [Xj,if_pos hf]
  rw [e];obtain ⟨rfl,mj⟩:=hf
  go_enter Tryz.func11,Tryz.ntmps11
  go_wp2_with fail
  go_ret
  exact ⟨rfl,Zc _ _⟩
 ·obtain ⟨V,hV⟩:∃ V,Xj ws key n cV fresh=V:=⟨_,rfl⟩
  have CU:=hV;rw [Xj,if_neg hf] at CU;rw [hV];clear hV
  go_enter Tryz.func11,Tryz.ntmps11
  go_upto_region 1 with fail
  go_cut [18] (fun s wx=>s=.bool false∧w=wx)
  case first=>
   cases fresh with
   | false =>
    go_wp2_with fail
    go_meet
    case rel=>exact ⟨rfl,rfl⟩
   | true =>
    have mj:¬ 0<n % 7:=fun h=>hf ⟨rfl,h⟩
    go_wp2_with fail
    go_meet
    case rel=>exact ⟨by simp,rfl⟩
  case rest=>
   obtain ⟨rfl,rfl⟩:=hcut;clear hf;by_cases hc:n % 13=12
   ·rw [if_pos hc] at CU;have fK : (n % 13 == 12)=true:=by simpa using hc
    clear hc;subst CU
    go_wp2_with fail
    go_ret
    exact ⟨rfl,Zc _ _⟩
   ·rw [if_neg hc] at CU;have fK : (n % 13 == 12)=false:=by simpa using hc
    clear hc;have HV:=yd CU;clear CU
    go_wp2_with fail
    go_loopw [11,12] (fun v i wr=>∃ (k:Nat) (A1:Option Addr) (c1:Nat),k≤ws.length∧i=.int .i64 k∧v=.slice A1 (XM ws key k).length c1∧
     wr.ownsRow w.heap.size 3 1 (.slice A1 (XM ws key k).length c1) (XM ws key k).length (flat jm (XM ws key k))∧Below w.heap.size w wr) (fun _ i _=>ws.length - (intOf i).toNat)
    case atStart=>
     refine ⟨0,some ⟨w.heap.size,0,none⟩,1,by omega,rfl,rfl,?_,(Zc _ _).alloc (zg _) _⟩;refine ⟨by rfl,.inr ⟨w.heap.size,1,#[.int .i64 0],rfl,zg _,heap_alloc_new w _,?_⟩⟩;simp [XM,flat,jm,maxLen]
    case round=>
     obtain ⟨k,A1,c1,hk,rfl,rfl,ho,hb⟩:=hrel;have aY:=hb.size;obtain ⟨qA,bA⟩:=Qx ws key k;by_cases aA:k<ws.length
     ·obtain ⟨b,o,rfl,ij,q0⟩:=(h1.below hb).int aA;cases hc:(nth ws k == key) with
      | true=>
       have Hs:=yd (show XM ws key (k+1)=XM ws key k++[(k:Int)+1] by rw [XM,if_pos (by simpa using hc)])
       go_wp2_with (at_builtin;go_loud (refine VF zxB ho rfl (.tmp 40) (.tmp 43) rfl rfl rfl rfl (by simp [Value.oneCell']) za za za ?_;intro A3 c3 w2 De kN uz uF))
       go_roundw
       case rel=>
        refine ⟨k+1,A3,c3,by omega,by go_num,by rw [Hs.out];simp,?_,hb.trans kN⟩;rw [Hs.out,Vq,H8];simpa [jm] using De
       case measure=>simp [intOf];omega
      | false =>
       have Hs:=yd (show XM ws key (k+1)=XM ws key k by rw [XM,if_neg (by simpa using hc)])
       go_wp2_with fail
       go_roundw
       case rel=>exact ⟨k+1,A1,c1,by omega,by go_num,by rw [Hs.out],by rw [Hs.out];exact ho,hb⟩
       case measure=>simp [intOf];omega
     ·obtain rfl:k=ws.length:=by omega
      obtain ⟨m,hm⟩:∃ m:Nat,m=(XM ws key ws.length).length:=⟨_,rfl⟩
      obtain ⟨q,hq⟩:∃ q:Nat,n / 2 % (m:Int)=q:=⟨(n / 2 % (m:Int)).toNat,by have:=Ro (n / 2) (show (m:Int)≠0 by omega);omega⟩
      have hqm:q<m:=by have:=Rn (n / 2) (show (0:Int)<(m:Int) by omega);omega
      obtain ⟨b2,o2,rfl,hbl2,q2⟩:=(Sl.jB ho rfl).int (i:=q) za;have mB:=HV.out;rw [← hm,hq] at mB;simp only [zK] at mB;rw [mB] at q2;rw [← hm] at qA bA ⊢;have Hq:=yd hq;have kV:(0:Int)<(m:Int):=by omega
      have Bj:(m:Int)≤1000001:=by omega
      have JO:(0:Int)≤(q:Int):=by omega
      have hqm' : (q:Int)<(m:Int):=by omega
      clear hm mB ho
      go_wp2_with fail
      go_ret
      exact ⟨rfl,hb⟩
/-! ### popped -/
def zsO (jC taken:List Int) (key:Int) (k:Nat):Nat→Int
 | 0 => 0
 | m+1 => if nth jC k=key ∧ ¬ ((k:Int)+1) ∈ taken then (k:Int)+1 else zsO jC taken key (k+1) m
def zsP (jC taken:List Int) (key n:Int):Int:=
 if n % 9=8 then n / 9 % 9 else if 0<n % 5 then zsO jC taken key 0 jC.length else 0
end
section
open Go.RowKit
end
end Go.Proofs.YtphidhljdcledaaGreat
