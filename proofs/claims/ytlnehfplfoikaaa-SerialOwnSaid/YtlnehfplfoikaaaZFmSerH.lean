/-
  Some texts as one: FmSerH, FmSer7, FmSer8.
-/
import Derived.Test.YtlnehfplfoikaaaZD
import Derived.Test.YtlnehfplfoikaaaZFmSer2
import Derived.Test.YtlnehfplfoikaaaZFmTopoL
import Derived.Test.YtlnehfplfoikaaaZG
namespace Go.Proofs.Ytlnehfplfoikaaa
set_option linter.unusedVariables false
set_option maxHeartbeats 16000000
open Go.RowKit
def vfv (v:List Int):List FV:=[.list 1 (v.map zj)]
def WZ (t:Nat) (o:OpV):OpV:=xk.hsFix22 t o
def Wt (t:Nat) (l:List OpV) (j:Nat):List OpV:=(l.map (WZ t)).take j++l.drop j
theorem zfK (t:Nat) (l:List OpV) (j:Nat) (hj:j≤l.length):(Wt t l j).length=l.length:=by unfold Wt;simp;omega
theorem zfL {t:Nat} {l:List OpV} {j:Nat} (hj:j<l.length):nth (Wt t l j) j=nth l j:=by
 unfold Wt;have hl:((l.map (WZ t)).take j).length=j:=by simp;omega
 rw [nth_eq zI,nth_eq hj,List.getElem_append_right zb];simp only [hl,List.getElem_drop];congr 1;omega
theorem zek {t:Nat} {l:List OpV} {j:Nat} (hj:j<l.length):Wt t l (j+1)=(Wt t l j).set j (WZ t (nth l j)):=by
 unfold Wt;have hl:((l.map (WZ t)).take j).length=j:=by simp;omega
 have hd:l.drop j=l[j]::l.drop (j+1):=List.drop_eq_getElem_cons hj;rw [List.set_append_right _ _ zb,hl,Nat.sub_self,List.take_succ_eq_append_getElem (by simpa using hj),List.append_assoc,hd];simp only [List.set_cons_zero,List.getElem_map,nth_eq hj,List.singleton_append]
theorem zfJ (t:Nat) (l:List OpV):Wt t l l.length=l.map (WZ t):=by
 unfold Wt;rw [List.drop_length,List.append_nil,List.take_of_length_le zc]
theorem zi9 {L:List OpV} {k:Nat} (hk:k<L.length) (X:List FV) (o' : OpV) (hX:X=o'.fv):∃ L2:List OpV,(L.map OpV.fv).set k X=L2.map OpV.fv∧L2.length=L.length∧nth L2 k=o'∧L2=L.set k o':=
 ⟨L.set k o',by rw [hX,List.map_set],by simp,by rw [nth_eq (by simpa using hk),List.getElem_set_self],rfl⟩
theorem zex (most:Nat) (f:Bool) (l:List Int) (h12:most≤12) (hl:∀ x∈l,I64 x) (hlen:l.length≤9223372036854775807):zY Try.prog 4 [.list 1 (l.map zj),.int .i64 most,.bool f] (.ow 37 8) (.list 8 ((xk most f l).map OpV.fv)):=by
 refine zY.of_body (c:=(xa Try.prog zD zq 177)) ⟨Try.func4,rfl,Try.ntmps4,by kernel_rfl⟩ zC zp rfl ?_;change FW _ _ _ ⟨[(0,.list 1 (l.map zj)),(1,.int .i64 most),(2,.bool f)],[]⟩
 (repeat (first|refine FW.seq ?_|refine FW.region ?_|refine zi.nil ?_|refine zO rfl rfl rfl ?_))
 refine zeY rfl rfl rfl rfl rfl rfl rfl rfl rfl ?_
 (repeat (first|refine FW.seq ?_|refine FW.region ?_|refine zi.nil ?_|refine zO rfl rfl rfl ?_|refine zhQ.nil ?_|refine zhQ.one rfl rfl rfl ?_))
 refine UV (es:=[[.int .i64 0]]) rfl rfl rfl (by refine xw.int rfl rfl ?_;exact xw.nil) rfl rfl rfl rfl rfl ?_;refine UV (es:=[[.int .i64 0]]) rfl rfl rfl (by refine xw.int rfl rfl ?_;exact xw.nil) rfl rfl rfl rfl rfl ?_;refine Xq (es:=[[0],[0]].map vfv) rfl rfl rfl (by refine xw.list rfl rfl ?_;refine xw.list rfl rfl ?_;exact xw.nil) rfl rfl rfl rfl rfl rfl ?_;refine za ?_;refine FW.loop (fun i:Nat=>⟨[(0,.list 1 (l.map zj)),(1,.int .i64 most),(2,.bool f),(7,.own 101 0 0 (zaZ most f l i).out.length),(8,.own 102 0 0 3),(9,.own 103 0 0 2),(10,.int .i64 (zaZ most f l i).time),(11,.int .i64 i)],[(101,⟨0,.own,37,8,(zaZ most f l i).out.map OpV.fv⟩),(102,⟨0,.own,3,1,(zaZ most f l i).op.map zj⟩),(103,⟨0,.own,22,1,(zaZ most f l i).vs.map vfv⟩)]⟩) (fun i=>i≤l.length) (fun i=>l.length - i) 0 (Nat.zero_le _) ?_ ?_
 ·show FLe _ ⟨[(0,.list 1 (l.map zj)),(1,.int .i64 most),(2,.bool f),(7,.own 101 0 0 0),(8,.own 102 0 0 3),(9,.own 103 0 0 2),(10,.int .i64 0),(11,.int .i64 0)],[(101,⟨0,.own,37,8,[]⟩),(102,⟨0,.own,3,1,([-1,-1,-1]:List Int).map zj⟩),(103,⟨0,.own,22,1,[[0],[0]].map vfv⟩)]⟩;obtain ⟨Z,hZ⟩:∃ Z,([-1,-1,-1]:List Int).map zj=Z:=⟨_,rfl⟩
  rw [hZ,show ([[FV.int .i64 (-1)],[FV.int .i64 (-1)],[FV.int .i64 (-1)]]:List (List FV))=Z from hZ];exact (FLe.cv [⟨101,none,0,⟨0,.own,37,8,[]⟩⟩,⟨102,some 18,0+1,⟨0,.own,3,1,Z⟩⟩,⟨103,some 21,0+1,⟨0,.own,22,1,[[0],[0]].map vfv⟩⟩] zf zd)
 intro i hi;have hI:=WD most f l h12 i;have hnext:∀ s',UI most f (nth l i) (zaZ most f l i)=s'→zaZ most f l (i+1)=s':=fun s' h=>h;have hlast:i=l.length→xk most f l=(zaZ most f l i).out.map (WZ (zaZ most f l i).time):=fun e=>by subst e;rfl
 generalize zaZ most f l i=s at hI hnext hlast;have ho3:=hI.o3;have hv2:=hI.v2;have hli:=hI.li;have hti:=hI.time;refine za ?_;refine FW.cond rfl (fun hc=>?_) (fun hc=>?_)
 ·have hlt:i<l.length:=by simpa using hc
  clear hc hlast;have hx:=hl _ (zL hlt);obtain ⟨n,hn⟩:∃ n,xA (nth l i) 1000000=n:=⟨_,rfl⟩
  have hn0:0≤n∧n<1000000:=hn▸⟨za3 zg,zfC zg⟩
  have hA:=zcy (nth l i) 1000000 hx zg zg;have hstep:UI most f (nth l i) s=if nth s.op (n % 3).toNat<0 then (if most≤s.out.length then s else xp n (n % 3).toNat s) else xW f n (n % 3).toNat s:=by unfold UI;rw [hn]
  rw [hn] at hA;refine za ?_;refine zV hA (by repeat (first|exact zx.nil|refine zx.cons zt ?_)) rfl rfl ?_;refine za ?_;have hp3:n % 3=((n % 3).toNat:Int):=by omega
  refine FW.cond rfl (fun hop=>?_) (fun hop=>?_)
  ·have hop:nth s.op (n % 3).toNat<0:=by simpa using hop
   rw [if_pos hop] at hstep;refine za ?_;refine FW.cond rfl (fun hm=>?_) (fun hm=>?_)
   ·have hm:most≤s.out.length:=by simpa using hm
    rw [if_pos hm] at hstep;have hnext:=hnext _ hstep;refine za ?_;refine ⟨i+1,by omega,by omega,?_⟩;rw [hnext];exact (FLe.cv [⟨101,some 101,0,⟨0,.own,37,8,s.out.map OpV.fv⟩⟩,⟨102,some 102,0,⟨0,.own,3,1,s.op.map zj⟩⟩,⟨103,some 103,0,⟨0,.own,22,1,s.vs.map vfv⟩⟩] zf zd)
   ·have hm:¬ most≤s.out.length:=by simp at hm;omega
    rw [if_neg hm] at hstep;have hnext:=hnext _ hstep;refine za ?_;refine FW.cond rfl (fun hk=>?_) (fun hk=>?_)
    ·have hk:1<n / 6 % 5:=by simp at hk;omega
     have H:xp n (n % 3).toNat s=⟨s.out++[⟨n % 3,2,n / 3 % 2,(s.out.length:Int)+1,0,s.time,0,false⟩],s.op.set (n % 3).toNat (s.out.length:Int),s.vs,s.time+1⟩:=by
      unfold xp ZO Wl;rw [if_pos hk,if_pos hk,← hp3]
     rw [H] at hnext;refine za ?_;refine ⟨i+1,by omega,by omega,?_⟩;rw [hnext];dsimp only;rw [List.map_append,List.map_set,List.length_append];exact (FLe.cv [⟨101,some 67,0+1,⟨0,.own,37,8,s.out.map OpV.fv++[⟨n % 3,2,n / 3 % 2,(s.out.length:Int)+1,0,s.time,0,false⟩].map OpV.fv⟩⟩,⟨102,some 102,0,⟨0,.own,3,1,(s.op.map zj).set (n % 3).toNat (zj s.out.length)⟩⟩,⟨103,some 103,0,⟨0,.own,22,1,s.vs.map vfv⟩⟩] zf zd)
    ·have hk:¬ 1<n / 6 % 5:=by simp at hk;omega
     have H:xp n (n % 3).toNat s=⟨s.out++[⟨n % 3,0,n / 3 % 2,0,0,s.time,0,false⟩],s.op.set (n % 3).toNat (s.out.length:Int),s.vs,s.time+1⟩:=by
      unfold xp ZO Wl;rw [if_neg hk,if_neg hk,← hp3]
     rw [H] at hnext;refine za ?_;refine ⟨i+1,by omega,by omega,?_⟩;rw [hnext];dsimp only;rw [List.map_append,List.map_set,List.length_append];exact (FLe.cv [⟨101,some 67,0+1,⟨0,.own,37,8,s.out.map OpV.fv++[⟨n % 3,0,n / 3 % 2,0,0,s.time,0,false⟩].map OpV.fv⟩⟩,⟨102,some 102,0,⟨0,.own,3,1,(s.op.map zj).set (n % 3).toNat (zj s.out.length)⟩⟩,⟨103,some 103,0,⟨0,.own,22,1,s.vs.map vfv⟩⟩] zf zd)
  ·have hop:¬ nth s.op (n % 3).toNat<0:=by simp at hop;omega
   rw [if_neg hop] at hstep;have hnext:=hnext _ hstep;obtain ⟨k,hk⟩:∃ k:Nat,nth s.op (n % 3).toNat=k:=⟨(nth s.op (n % 3).toNat).toNat,by omega⟩
   obtain ⟨hkl,_,hkd⟩:=hI.opn (n % 3).toNat zb zb;rw [hk,Int.toNat_natCast] at hkl hkd;have hO:=hI.ops k hkl;obtain ⟨c,hc⟩:∃ c:Nat,(nth s.out k).key=c:=⟨(nth s.out k).key.toNat,by have:=hO.key;omega⟩
   have hc2:c<2:=by have:=hO.key;omega
   have hV:=hI.val c hc2;have hVl:0<(nth s.vs c).length:=List.length_pos_iff.2 hV.ne;have hVm:=hV.len;have hE:xW f n (n % 3).toNat s=⟨s.out.set k { nth s.out k with res:=ZW f n (nth s.vs c),ret:=(s.time:Int),done:=true },s.op.set (n % 3).toNat (-1),if (nth s.out k).k=2 then s.vs.set c (nth s.vs c++[(nth s.out k).arg]) else s.vs,s.time+1⟩:=by
    unfold xW;dsimp only;rw [hk,Int.toNat_natCast,hc,Int.toNat_natCast]
   rw [hE] at hnext;have hcv:c<s.vs.length:=by omega
   obtain ⟨V,hVV⟩:∃ V,nth s.vs c=V:=⟨_,rfl⟩
   rw [hVV] at hVl hVm hnext;obtain ⟨o,ho⟩:∃ o,nth s.out k=o:=⟨_,rfl⟩
   rw [ho] at hkd hO hc hnext;have hmo:s.out.length≤12:=by omega
   clear hE hstep hV hI;have hp:(n % 3).toNat<3:=by omega
   refine za ?_;rw [hk];skip;simp only [Int.toNat_natCast];rw [ho,hc];refine za ?_;rw [hVV];refine YW ?_;rw [show ((V.length:Int) - 1).toNat=V.length - 1 by omega];refine FW.seq ?_;refine FW.join (fun _:Unit=>⟨[(0,.list 1 (l.map zj)),(1,.int .i64 most),(2,.bool f),(7,.own 101 0 0 (s.out.set k { o with res:=ZW f n V }).length),(8,.own 102 0 0 3),(9,.own 103 0 0 2),(10,.int .i64 s.time),(11,.int .i64 i),(13,.int .i64 (n % 3)),(15,.int .i64 k),(16,.list 1 (V.map zj))],[(101,⟨0,.own,37,8,(s.out.set k { o with res:=ZW f n V }).map OpV.fv⟩),(102,⟨0,.own,3,1,s.op.map zj⟩),(103,⟨0,.own,22,1,s.vs.map vfv⟩)]⟩) (fun _=>True) ?_ ?_
   ·rw [ho];obtain ⟨L1,e1,l1,n1,s1⟩:=zi9 hkl (o.fv.set (0+4) (.int .i64 (nth V (V.length - 1)))) { o with res:=nth V (V.length - 1) } rfl;rw [e1];have hk1:k<L1.length:=by omega
    cases f with
    | false =>
     have hg:ZW false n V=nth V (V.length - 1):=by unfold ZW;rw [if_neg zc]
     refine za ?_;refine ⟨rfl,(),trivial,?_⟩;rw [hg,← s1,l1];exact (FLe.cv [⟨101,some 101,0,⟨0,.own,37,8,L1.map OpV.fv⟩⟩,⟨102,some 102,0,⟨0,.own,3,1,s.op.map zj⟩⟩,⟨103,some 103,0,⟨0,.own,22,1,s.vs.map vfv⟩⟩] zf zd)
    | true=>
     refine za ?_;refine FW.cond rfl (fun hf=>?_) (fun hf=>?_)
     ·have hf:n / 3 % 4=0:=by simpa using hf
      refine za ?_;obtain ⟨q,hq⟩:∃ q:Nat,n / 12 % (V.length:Int)=q:=⟨(n / 12 % (V.length:Int)).toNat,by have:=Int.emod_nonneg (n / 12) (show (V.length:Int)≠0 by omega);omega⟩
      have hq2:q<V.length:=by have:=Int.emod_lt_of_pos (n / 12) (show (0:Int)<(V.length:Int) by omega);omega
      rw [hq];refine YW ?_;obtain ⟨L2,e2,l2,n2,s2⟩:=zi9 hk1 ((nth L1 k).fv.set (0+4) (.int .i64 (nth V q))) { nth L1 k with res:=nth V q } rfl;rw [e2];rw [n1,s1,List.set_set] at s2;rw [n1] at n2;have hk2:k<L2.length:=by omega
      refine za ?_;refine FW.cond rfl (fun h12=>?_) (fun h12=>?_)
      ·have h12:n / 12 % 13=12:=by simpa using h12
       have hg:ZW true n V=n / 156 % 9:=by unfold ZW;rw [if_pos ⟨rfl,hf⟩,if_pos h12]
       refine za ?_;obtain ⟨L3,e3,l3,n3,s3⟩:=zi9 hk2 ((nth L2 k).fv.set (0+4) (.int .i64 (n / 156 % 9))) { nth L2 k with res:=n / 156 % 9 } rfl;refine ⟨rfl,(),trivial,?_⟩;rw [e3];rw [n2,s2,List.set_set] at s3;rw [hg,show s.out.set k { o with res:=n / 156 % 9 }=L3 from s3.symm,l3,l2,l1];exact (FLe.cv [⟨101,some 101,0,⟨0,.own,37,8,L3.map OpV.fv⟩⟩,⟨102,some 102,0,⟨0,.own,3,1,s.op.map zj⟩⟩,⟨103,some 103,0,⟨0,.own,22,1,s.vs.map vfv⟩⟩] zf zd)
      ·have h12:¬ n / 12 % 13=12:=by simpa using h12
       have hg:ZW true n V=nth V q:=by unfold ZW;rw [if_pos ⟨rfl,hf⟩,if_neg h12,hq,Int.toNat_natCast]
       refine za ?_;refine ⟨rfl,(),trivial,?_⟩;rw [hg,show s.out.set k { o with res:=nth V q }=L2 from s2.symm,l2,l1];exact (FLe.cv [⟨101,some 101,0,⟨0,.own,37,8,L2.map OpV.fv⟩⟩,⟨102,some 102,0,⟨0,.own,3,1,s.op.map zj⟩⟩,⟨103,some 103,0,⟨0,.own,22,1,s.vs.map vfv⟩⟩] zf zd)
     ·have hf:¬ n / 3 % 4=0:=by simpa using hf
      have hg:ZW true n V=nth V (V.length - 1):=by unfold ZW;rw [if_neg (by simp [hf])]
      refine za ?_;refine ⟨rfl,(),trivial,?_⟩;rw [hg,← s1,l1];exact (FLe.cv [⟨101,some 101,0,⟨0,.own,37,8,L1.map OpV.fv⟩⟩,⟨102,some 102,0,⟨0,.own,3,1,s.op.map zj⟩⟩,⟨103,some 103,0,⟨0,.own,22,1,s.vs.map vfv⟩⟩] zf zd)
   ·rintro _ _;obtain ⟨r,hr⟩:∃ r,ZW f n V=r:=⟨_,rfl⟩
    rw [hr] at hnext ⊢;obtain ⟨L,hL⟩:∃ L,(s.out.set k { o with res:=r })=L:=⟨_,rfl⟩
    have hLl:L.length=s.out.length:=by rw [← hL];simp
    have hkL:k<L.length:=by omega
    have hLk:nth L k={ o with res:=r }:=by rw [← hL,nth_eq (by simpa using hkl),List.getElem_set_self]
    rw [hL];refine FW.seq ?_;refine FW.join (fun _:Unit=>⟨[(0,.list 1 (l.map zj)),(1,.int .i64 most),(2,.bool f),(7,.own 101 0 0 L.length),(8,.own 102 0 0 3),(9,.own 103 0 0 2),(10,.int .i64 s.time),(11,.int .i64 i),(13,.int .i64 (n % 3)),(15,.int .i64 k)],[(101,⟨0,.own,37,8,L.map OpV.fv⟩),(102,⟨0,.own,3,1,s.op.map zj⟩),(103,⟨0,.own,22,1,(if o.k=2 then s.vs.set c (V++[o.arg]) else s.vs).map vfv⟩)]⟩) (fun _=>True) ?_ ?_
    ·refine za ?_;rw [hLk];skip;refine FW.cond rfl (fun hk2=>?_) (fun hk2=>?_)
     ·have hk2:o.k=2:=by simpa using hk2
      (repeat (first|refine FW.draw ?_|refine zeN rfl rfl rfl rfl rfl rfl ?_|refine Zh rfl rfl rfl ?_|refine Zq rfl rfl rfl rfl rfl rfl zg rfl yv rfl rfl ?_|refine xE rfl rfl rfl rfl rfl yv xZ rfl rfl rfl rfl ?_|refine Zp rfl rfl rfl rfl rfl rfl zg rfl rfl ?_))
      rw [hLk];dsimp only;rw [hc];refine zhu ?_;refine zaH rfl rfl (by first|exact List.length_map _|exact (List.length_map _).symm|exact List.length_replicate|rfl|(simp;done)|omega|(simp;omega)) rfl rfl rfl zg (by first|exact xV.own rfl rfl zg (by first|exact List.length_map _|exact (List.length_map _).symm|exact List.length_replicate|rfl|(simp;done)|omega|(simp;omega))|exact xV.list rfl|exact xV.nil rfl|exact xV.part rfl rfl zg) Yk Yk rfl rfl rfl ?_
      (repeat (first|refine Zo rfl rfl rfl rfl rfl rfl rfl rfl ?_|refine Zh rfl rfl rfl ?_|refine Zq rfl rfl rfl rfl rfl rfl zg rfl Yk rfl rfl ?_|refine xE rfl rfl rfl rfl rfl Yk xZ rfl rfl rfl rfl ?_|refine Zp rfl rfl rfl rfl rfl rfl zg rfl rfl ?_))
      rw [hLk];dsimp only;refine zhu ?_;refine zhq rfl rfl (by first|exact List.length_map _|exact (List.length_map _).symm|exact List.length_replicate|rfl|(simp;done)|omega|(simp;omega)) rfl rfl rfl zg (by first|exact xV.own rfl rfl zg (by first|exact List.length_map _|exact (List.length_map _).symm|exact List.length_replicate|rfl|(simp;done)|omega|(simp;omega))|exact xV.list rfl|exact xV.nil rfl|exact xV.part rfl rfl zg) Yk Yk rfl rfl rfl ?_;refine zw ?_;refine ⟨by kernel_rfl,?_⟩;skip;refine ⟨rfl,(),trivial,?_⟩;rw [if_pos hk2,List.map_set,show ([]++List.map zj V++[[FV.int IntKind.i64 o.arg]])=(V++[o.arg]).map zj by rw [List.nil_append,List.map_append];rfl];exact (FLe.cv [⟨101,some 101,0,⟨0,.own,37,8,L.map OpV.fv⟩⟩,⟨102,some 102,0,⟨0,.own,3,1,s.op.map zj⟩⟩,⟨103,some 103,0,⟨0,.own,22,1,(s.vs.map vfv).set c (vfv (V++[o.arg]))⟩⟩] zf zd)
     ·have hk2:¬ o.k=2:=by simpa using hk2
      refine za ?_;refine ⟨rfl,(),trivial,?_⟩;show FLe _ _;rw [if_neg hk2];exact (FLe.cv [⟨101,some 101,0,⟨0,.own,37,8,L.map OpV.fv⟩⟩,⟨102,some 102,0,⟨0,.own,3,1,s.op.map zj⟩⟩,⟨103,some 103,0,⟨0,.own,22,1,s.vs.map vfv⟩⟩] zf zd)
    ·rintro _ _;obtain ⟨W,hW⟩:∃ W,(if o.k=2 then s.vs.set c (V++[o.arg]) else s.vs)=W:=⟨_,rfl⟩
     have hWl:W.length=2:=by rw [← hW];split <;> simp [hv2]
     rw [hW] at hnext ⊢;refine FW.seq ?_;refine FW.region ?_;refine YW ?_;obtain ⟨L4,e4,l4,n4,s4⟩:=zi9 hkL ((nth L k).fv.set (0+7) (.bool true)) { nth L k with done:=true } rfl;rw [e4];have hk4:k<L4.length:=by omega
     refine FW.seq ?_;refine FW.region ?_;refine YW ?_;obtain ⟨L5,e5,l5,n5,s5⟩:=zi9 hk4 ((nth L4 k).fv.set (0+6) (.int .i64 s.time)) { nth L4 k with ret:=(s.time:Int) } rfl;rw [e5];refine za ?_;refine ⟨i+1,by omega,by omega,?_⟩;have hL5:L5=s.out.set k { o with res:=r,ret:=(s.time:Int),done:=true }:=by
      rw [s5,n4,s4,hLk,← hL];simp only [List.set_set]
     rw [hnext];dsimp only;rw [← hL5,List.map_set,l5,l4];exact (FLe.cv [⟨101,some 101,0,⟨0,.own,37,8,L5.map OpV.fv⟩⟩,⟨102,some 102,0,⟨0,.own,3,1,(s.op.map zj).set (n % 3).toNat (zj (-1))⟩⟩,⟨103,some 103,0,⟨0,.own,22,1,W.map vfv⟩⟩] zf zd)
 ·have:i=l.length:=by simp at hc;omega
  rw [hlast this];obtain ⟨tm,htm⟩:∃ tm,s.time=tm:=⟨_,rfl⟩
  obtain ⟨L,hL⟩:∃ L,s.out=L:=⟨_,rfl⟩
  rw [htm,hL];rw [hL] at hli;rw [htm] at hti;clear hI hnext hlast ho3 hv2 htm hL hc;refine za ?_;refine FW.loop (fun j:Nat=>⟨[(7,.own 101 0 0 L.length),(10,.int .i64 tm),(17,.int .i64 j)],[(101,⟨0,.own,37,8,(Wt tm L j).map OpV.fv⟩)]⟩) (fun j=>j≤L.length) (fun j=>L.length - j) 0 (Nat.zero_le _) ?_ ?_
  ·show FLe _ ⟨[(7,.own 101 0 0 L.length),(10,.int .i64 tm),(17,.int .i64 0)],[(101,⟨0,.own,37,8,L.map OpV.fv⟩)]⟩;exact (FLe.cv [⟨101,some 101,0,⟨0,.own,37,8,L.map OpV.fv⟩⟩] zf zd)
  intro j hj;have hfl:=zfK tm L j hj;have hfn:=fun h=>zfL (t:=tm) (l:=L) (j:=j) h;have hfs:=fun h=>zek (t:=tm) (l:=L) (j:=j) h;have hfa:j=L.length→Wt tm L j=L.map (WZ tm):=fun e=>by rw [e];exact zfJ tm L
  generalize Wt tm L j=F at hfl hfn hfs hfa;refine za ?_;refine FW.cond rfl (fun hc=>?_) (fun hc=>?_)
  ·have hlt:j<L.length:=by simpa using hc
   have hfn:=hfn hlt;have hfs:=hfs hlt;have hjF:j<F.length:=by omega
   clear hc hfa;refine za ?_;rw [hfn];skip;cases hd:(nth L j).done with
   | true =>
    have e:WZ tm (nth L j)=nth L j:=by unfold WZ xk.hsFix22;rw [if_pos hd]
    have e2:F.set j (nth L j)=F:=by rw [← hfn,nth_eq hjF,List.set_getElem_self]
    rw [e,e2] at hfs;refine za ?_;refine ⟨j+1,by omega,by omega,?_⟩;rw [hfs];exact (FLe.cv [⟨101,some 101,0,⟨0,.own,37,8,F.map OpV.fv⟩⟩] zf zd)
   | false =>
    have e:WZ tm (nth L j)={ nth L j with ret:=(tm:Int) }:=by unfold WZ xk.hsFix22;rw [if_neg (by rw [hd];decide)]
    rw [e,← hfn] at hfs;refine za ?_;refine ⟨j+1,by omega,by omega,?_⟩;rw [hfs,List.map_set];exact (FLe.cv [⟨101,some 101,0,⟨0,.own,37,8,(F.map OpV.fv).set j (OpV.fv { nth F j with ret:=(tm:Int) })⟩⟩] zf zd)
  ·have:j=L.length:=by simp at hc;omega
   rw [hfa this];refine za ?_;exact FW.ret ⟨.inl rfl,VG rfl rfl rfl zc zg rfl (opT.flatsM _)⟩
theorem zhd {most:Nat} {f:Bool} {l:List Int} (h12:most≤12):∀ o∈xk most f l,zgU o:=fun o ho=>by
 obtain ⟨j,hj,rfl⟩:=List.getElem_of_mem ho;have hm:=zbH (f:=f) (l:=l) h12;have g:=zhe (f:=f) (l:=l) h12 hj;rw [nth_eq hj] at g;obtain ⟨g1,g2,g3,g4,g5,g6,g7,g8,_⟩:=g;unfold zgU I64;have g4' : (0:Int)≤(xk most f l)[j].arg∧(xk most f l)[j].arg≤13:=by
  rw [g4];split <;> omega
 refine ⟨?_,?_,?_,?_,?_,?_,?_⟩ <;> omega
theorem Yv (o:OpV):zY Try.prog 20 [.agg o.fv] .fr (.bool (zS o)):=by
 refine zY.of_body (c:=(xa Try.prog zD zq 15)) ⟨Try.func20,rfl,Try.ntmps20,by kernel_rfl⟩ zC zp rfl ?_;change FW _ _ _ ⟨[(0,.agg o.fv)],[]⟩;refine za ?_;refine zJ (fun h1=>?_) (fun h1=>?_)
 ·refine za ?_;refine zJ (fun h2=>?_) (fun h2=>?_)
  ·refine za ?_;refine FW.ret ⟨.inl rfl,zm rfl rfl ?_ rfl⟩;simp at h1 h2;simp [zS,h1,h2];rfl
  ·refine za ?_;refine FW.ret ⟨.inl rfl,zm rfl rfl ?_ rfl⟩;simp at h1 h2;simp [zS,h1,h2];rfl
 ·refine za ?_;refine FW.ret ⟨.inl rfl,zm rfl rfl ?_ rfl⟩;simp [zS,h1];rfl
def zi8 (X Y:List EdV) (j:Nat):Prop:=∀ i,i<j→nth X i=nth Y i
theorem Ux (X Y:List EdV) (hX:X.length≤1000000000) (hY:Y.length≤1000000000):zY Try.prog 27 [.list 3 (X.map EdV.fv),.list 3 (Y.map EdV.fv)] .fr (.bool (decide (X=Y))):=by
 refine zY.of_body (c:=(xa Try.prog zD zq 26)) ⟨Try.func27,rfl,Try.ntmps27,by kernel_rfl⟩ zC zp rfl ?_;change FW _ _ _ ⟨[(0,.list 3 (X.map EdV.fv)),(1,.list 3 (Y.map EdV.fv))],[]⟩;refine za ?_;refine FW.cond rfl (fun h=>?_) (fun h=>?_)
 ·refine za ?_;refine FW.ret ⟨.inl rfl,zm rfl rfl ?_ rfl⟩;have:X≠Y:=by rintro rfl;simp at h
  rw [decide_eq_false this];rfl
 ·have hl:X.length=Y.length:=by simp at h;omega
  clear h;refine za ?_;refine FW.loop (fun j:Nat=>⟨[(0,.list 3 (X.map EdV.fv)),(1,.list 3 (Y.map EdV.fv)),(5,.int .i64 j)],[]⟩) (fun j=>j≤X.length∧zi8 X Y j) (fun j=>X.length - j) 0 ⟨Nat.zero_le _,fun i hi=>absurd hi (Nat.not_lt_zero _)⟩ ?_ ?_
  ·show FLe _ ⟨[(0,.list 3 (X.map EdV.fv)),(1,.list 3 (Y.map EdV.fv)),(5,.int .i64 0)],[]⟩;exact (FLe.cv [] zu zd)
  rintro j ⟨hj,hs⟩;refine za ?_;refine FW.cond rfl (fun hc=>?_) (fun hc=>?_)
  ·have hlt:j<X.length:=by simpa using hc
   refine yf ?_;refine zdT rfl rfl rfl rfl (zdx (nth X j) (nth Y j)) rfl rfl ?_;refine zw ?_;refine ⟨by kernel_rfl,?_⟩;skip;refine FW.cond rfl (fun h=>?_) (fun h=>?_)
   ·refine za ?_;refine FW.ret ⟨.inl rfl,zm rfl rfl ?_ rfl⟩;have:X≠Y:=by rintro rfl;simp at h
    rw [decide_eq_false this];rfl
   ·have h:nth X j=nth Y j:=by simpa using h
    refine za ?_;refine ⟨j+1,⟨by omega,fun i hi=>?_⟩,by omega,?_⟩
    ·rcases Nat.lt_succ_iff_lt_or_eq.1 hi with h'|rfl
     ·exact hs i h'
     ·exact h
    ·exact (FLe.cv [] zu zd)
  ·have e:j=X.length:=by simp at hc;omega
   subst e;refine za ?_;refine FW.ret ⟨.inl rfl,zm rfl rfl ?_ rfl⟩;have:X=Y:=List.ext_getElem hl fun i h1 h2=>by have:=hs i h1;rwa [nth_eq h1,nth_eq h2] at this
   rw [decide_eq_true this];rfl
theorem zbT (l:List OpV) (s:Bool) (i k:Nat) (hi:i<l.length) (hk:k<l.length) (hl:l.length≤1000000000):zY Try.prog 25 [.list 8 (l.map OpV.fv),.int .i64 i,.int .i64 k,.bool s] (.ow 3 1) (.list 1 ((xy l s i k).map zj)):=by
 obtain ⟨a,ha⟩:∃ a,nth l i=a:=⟨_,rfl⟩
 obtain ⟨b,hb⟩:∃ b,nth l k=b:=⟨_,rfl⟩
 have hbs:=Uw l i k hl;rw [zcA hi hk] at hbs;have hIa:=Yv a;have hIb:=Yv b;have hw:xy l s i k=if (zS a && zS b)=true then xP (xg a b 0) 2++(xP (xg a b 2) 3++(xP (YP i k a b) 4++xP (s && bef l i k) 5)) else []:=by unfold xy zh7;rw [ha,hb]
 rw [hw];clear hw;obtain ⟨bf,hbf⟩:∃ q,bef l i k=q:=⟨_,rfl⟩
 rw [hbf] at hbs ⊢;refine zY.of_body (c:=(xa Try.prog zD zq 100)) ⟨Try.func25,rfl,Try.ntmps25,by kernel_rfl⟩ zC zp rfl ?_;change FW _ _ _ ⟨[(0,.list 8 (l.map OpV.fv)),(1,.int .i64 i),(2,.int .i64 k),(3,.bool s)],[]⟩;refine za ?_;rw [ha];skip;rw [hb];skip;refine zV hIa yN rfl rfl ?_;cases hA:zS a with
 | false =>
  rw [Bool.false_and,if_neg zg];refine za ?_;exact FW.ret ⟨.inl rfl,.owNil _ _ rfl rfl⟩
 | true =>
 refine za ?_;refine zV hIb yN rfl ⟨_,_,rfl,rfl,rfl⟩ ?_;cases hB:zS b with
 | false =>
  rw [Bool.true_and,if_neg zg];refine za ?_;exact FW.ret ⟨.inl rfl,.owNil _ _ rfl rfl⟩
 | true =>
 rw [Bool.true_and,if_pos rfl];refine YW ?_;refine FW.condF rfl ?_;refine FW.skip ?_;refine FW.seq ?_;obtain ⟨W,hW⟩:∃ W,(decide (a.k=2) && decide (a.key=b.key) && decide (a.arg=b.res))=W:=⟨_,rfl⟩
 have hw0:xg a b 0=(W && decide (b.k=0)):=by unfold xg;rw [hW]
 have hw2:xg a b 2=(W && decide (b.k=2)):=by unfold xg;rw [hW]
 rw [hw0,hw2];clear hw0 hw2;refine FW.join (fun _:Unit=>⟨[(0,.list 8 (l.map OpV.fv)),(1,.int .i64 i),(2,.int .i64 k),(3,.bool s),(9,.ptr 109 0 0 0),(10,.ptr 110 0 0 0),(11,.own 100 0 0 ([]:List Int).length),(12,.bool W)],[(100,⟨0,.own,3,1,([]:List Int).map zj⟩),(109,⟨0,.own,37,8,[a.fv]⟩),(110,⟨0,.own,37,8,[b.fv]⟩)]⟩) (fun _=>True) ?_ ?_
 ·refine za ?_;refine zJ (fun h1=>?_) (fun h1=>?_)
  ·refine za ?_;refine zJ (fun h2=>?_) (fun h2=>?_)
   ·refine za ?_;rw [h1,h2,Bool.true_and,Bool.true_and] at hW;rw [hW];refine ⟨rfl,(),trivial,?_⟩;exact (FLe.cv [⟨100,none,0,⟨0,.own,3,1,[]⟩⟩,⟨109,some 9,0+1,⟨0,.own,37,8,[a.fv]⟩⟩,⟨110,some 10,0+1,⟨0,.own,37,8,[b.fv]⟩⟩] zf zd)
   ·refine za ?_;rw [h1,h2,Bool.true_and,Bool.false_and] at hW;subst hW;refine ⟨rfl,(),trivial,?_⟩;exact (FLe.cv [⟨100,none,0,⟨0,.own,3,1,[]⟩⟩,⟨109,some 9,0+1,⟨0,.own,37,8,[a.fv]⟩⟩,⟨110,some 10,0+1,⟨0,.own,37,8,[b.fv]⟩⟩] zf zd)
  ·refine za ?_;rw [h1,Bool.false_and,Bool.false_and] at hW;subst hW;refine ⟨rfl,(),trivial,?_⟩;exact (FLe.cv [⟨100,none,0,⟨0,.own,3,1,[]⟩⟩,⟨109,some 9,0+1,⟨0,.own,37,8,[a.fv]⟩⟩,⟨110,some 10,0+1,⟨0,.own,37,8,[b.fv]⟩⟩] zf zd)
 rintro _ _;obtain ⟨r0,hr0⟩:∃ r:List Int,r=[]:=⟨_,rfl⟩
 have hl0:r0.length=0:=by rw [hr0];rfl
 rw [← hr0];refine FW.seq ?_;refine FW.join (fun _:Unit=>⟨[(0,.list 8 (l.map OpV.fv)),(1,.int .i64 i),(2,.int .i64 k),(3,.bool s),(9,.ptr 109 0 0 0),(10,.ptr 110 0 0 0),(11,.own 100 0 0 (r0++xP (W && decide (b.k=0)) 2).length),(12,.bool W)],[(100,⟨0,.own,3,1,(r0++xP (W && decide (b.k=0)) 2).map zj⟩),(109,⟨0,.own,37,8,[a.fv]⟩),(110,⟨0,.own,37,8,[b.fv]⟩)]⟩) (fun _=>True) ?_ ?_
 ·clear hW;cases W with
  | false =>
   refine za ?_;refine ⟨rfl,(),trivial,?_⟩;rw [Bool.false_and,show xP false 2=[] from rfl,List.append_nil];exact (FLe.cv [⟨100,some 100,0,⟨0,.own,3,1,r0.map zj⟩⟩,⟨109,some 109,0,⟨0,.own,37,8,[a.fv]⟩⟩,⟨110,some 110,0,⟨0,.own,37,8,[b.fv]⟩⟩] zf zd)
  | true=>
   refine za ?_;refine FW.cond rfl (fun h=>?_) (fun h=>?_)
   ·have h:decide (b.k=0)=true:=h;refine za ?_;refine ⟨rfl,(),trivial,?_⟩;rw [Bool.true_and,h,show xP true 2=[2] from rfl,List.length_append,List.map_append];exact (FLe.cv [⟨100,some 54,0+1,⟨0,.own,3,1,r0.map zj++[2].map zj⟩⟩,⟨109,some 109,0,⟨0,.own,37,8,[a.fv]⟩⟩,⟨110,some 110,0,⟨0,.own,37,8,[b.fv]⟩⟩] zf zd)
   ·have h:decide (b.k=0)=false:=h;refine za ?_;refine ⟨rfl,(),trivial,?_⟩;rw [Bool.true_and,h,show xP false 2=[] from rfl,List.append_nil];exact (FLe.cv [⟨100,some 100,0,⟨0,.own,3,1,r0.map zj⟩⟩,⟨109,some 109,0,⟨0,.own,37,8,[a.fv]⟩⟩,⟨110,some 110,0,⟨0,.own,37,8,[b.fv]⟩⟩] zf zd)
 rintro _ _;have hb1:=xD (W && decide (b.k=0)) 2;obtain ⟨r1,hr1⟩:∃ r,(r0++xP (W && decide (b.k=0)) 2)=r:=⟨_,rfl⟩
 have hl1:r1.length≤1:=by rw [← hr1,List.length_append];omega
 rw [hr1];refine FW.seq ?_;refine FW.join (fun _:Unit=>⟨[(0,.list 8 (l.map OpV.fv)),(1,.int .i64 i),(2,.int .i64 k),(3,.bool s),(9,.ptr 109 0 0 0),(10,.ptr 110 0 0 0),(11,.own 100 0 0 (r1++xP (W && decide (b.k=2)) 3).length),(12,.bool W)],[(100,⟨0,.own,3,1,(r1++xP (W && decide (b.k=2)) 3).map zj⟩),(109,⟨0,.own,37,8,[a.fv]⟩),(110,⟨0,.own,37,8,[b.fv]⟩)]⟩) (fun _=>True) ?_ ?_
 ·clear hW;cases W with
  | false =>
   refine za ?_;refine ⟨rfl,(),trivial,?_⟩;rw [Bool.false_and,show xP false 3=[] from rfl,List.append_nil];exact (FLe.cv [⟨100,some 100,0,⟨0,.own,3,1,r1.map zj⟩⟩,⟨109,some 109,0,⟨0,.own,37,8,[a.fv]⟩⟩,⟨110,some 110,0,⟨0,.own,37,8,[b.fv]⟩⟩] zf zd)
  | true=>
   refine za ?_;refine FW.cond rfl (fun h=>?_) (fun h=>?_)
   ·have h:decide (b.k=2)=true:=h;refine za ?_;refine ⟨rfl,(),trivial,?_⟩;rw [Bool.true_and,h,show xP true 3=[3] from rfl,List.length_append,List.map_append];exact (FLe.cv [⟨100,some 63,0+1,⟨0,.own,3,1,r1.map zj++[3].map zj⟩⟩,⟨109,some 109,0,⟨0,.own,37,8,[a.fv]⟩⟩,⟨110,some 110,0,⟨0,.own,37,8,[b.fv]⟩⟩] zf zd)
   ·have h:decide (b.k=2)=false:=h;refine za ?_;refine ⟨rfl,(),trivial,?_⟩;rw [Bool.true_and,h,show xP false 3=[] from rfl,List.append_nil];exact (FLe.cv [⟨100,some 100,0,⟨0,.own,3,1,r1.map zj⟩⟩,⟨109,some 109,0,⟨0,.own,37,8,[a.fv]⟩⟩,⟨110,some 110,0,⟨0,.own,37,8,[b.fv]⟩⟩] zf zd)
 rintro _ _;have hb2:=xD (W && decide (b.k=2)) 3;obtain ⟨r2,hr2⟩:∃ r,(r1++xP (W && decide (b.k=2)) 3)=r:=⟨_,rfl⟩
 have hl2:r2.length≤2:=by rw [← hr2,List.length_append];omega
 rw [hr2];refine FW.seq ?_;refine FW.join (fun _:Unit=>⟨[(0,.list 8 (l.map OpV.fv)),(1,.int .i64 i),(2,.int .i64 k),(3,.bool s),(9,.ptr 109 0 0 0),(10,.ptr 110 0 0 0),(11,.own 100 0 0 (r2++xP (YP i k a b) 4).length),(12,.bool W)],[(100,⟨0,.own,3,1,(r2++xP (YP i k a b) 4).map zj⟩),(109,⟨0,.own,37,8,[a.fv]⟩),(110,⟨0,.own,37,8,[b.fv]⟩)]⟩) (fun _=>True) ?_ ?_
 ·have hp:YP i k a b=(decide (i≠k) && decide (a.key=b.key) && decide (a.res=b.res) && decide (b.k=2)):=rfl;refine za ?_;refine zJ (fun h1=>?_) (fun h1=>?_)
  ·have h1:decide (i≠k)=true:=by simp at h1 ⊢;omega
   refine za ?_;refine zJ (fun h2=>?_) (fun h2=>?_)
   ·refine za ?_;refine zJ (fun h3=>?_) (fun h3=>?_)
    ·rw [h1,h2,h3,Bool.true_and,Bool.true_and,Bool.true_and] at hp;refine za ?_;refine FW.cond rfl (fun h=>?_) (fun h=>?_)
     ·have h:decide (b.k=2)=true:=h;refine za ?_;refine ⟨rfl,(),trivial,?_⟩;rw [hp,h,show xP true 4=[4] from rfl,List.length_append,List.map_append];exact (FLe.cv [⟨100,some 88,0+1,⟨0,.own,3,1,r2.map zj++[4].map zj⟩⟩,⟨109,some 109,0,⟨0,.own,37,8,[a.fv]⟩⟩,⟨110,some 110,0,⟨0,.own,37,8,[b.fv]⟩⟩] zf zd)
     ·have h:decide (b.k=2)=false:=h;refine za ?_;refine ⟨rfl,(),trivial,?_⟩;rw [hp,h,show xP false 4=[] from rfl,List.append_nil];exact (FLe.cv [⟨100,some 100,0,⟨0,.own,3,1,r2.map zj⟩⟩,⟨109,some 109,0,⟨0,.own,37,8,[a.fv]⟩⟩,⟨110,some 110,0,⟨0,.own,37,8,[b.fv]⟩⟩] zf zd)
    ·rw [h1,h2,h3,Bool.true_and,Bool.true_and,Bool.false_and] at hp;refine za ?_;refine ⟨rfl,(),trivial,?_⟩;rw [hp,show xP false 4=[] from rfl,List.append_nil];exact (FLe.cv [⟨100,some 100,0,⟨0,.own,3,1,r2.map zj⟩⟩,⟨109,some 109,0,⟨0,.own,37,8,[a.fv]⟩⟩,⟨110,some 110,0,⟨0,.own,37,8,[b.fv]⟩⟩] zf zd)
   ·rw [h1,h2,Bool.true_and,Bool.false_and,Bool.false_and] at hp;refine za ?_;refine ⟨rfl,(),trivial,?_⟩;rw [hp,show xP false 4=[] from rfl,List.append_nil];exact (FLe.cv [⟨100,some 100,0,⟨0,.own,3,1,r2.map zj⟩⟩,⟨109,some 109,0,⟨0,.own,37,8,[a.fv]⟩⟩,⟨110,some 110,0,⟨0,.own,37,8,[b.fv]⟩⟩] zf zd)
  ·have h1:decide (i≠k)=false:=by simp at h1 ⊢;omega
   rw [h1,Bool.false_and,Bool.false_and,Bool.false_and] at hp;refine za ?_;refine ⟨rfl,(),trivial,?_⟩;rw [hp,show xP false 4=[] from rfl,List.append_nil];exact (FLe.cv [⟨100,some 100,0,⟨0,.own,3,1,r2.map zj⟩⟩,⟨109,some 109,0,⟨0,.own,37,8,[a.fv]⟩⟩,⟨110,some 110,0,⟨0,.own,37,8,[b.fv]⟩⟩] zf zd)
 rintro _ _;have hb3:=xD (YP i k a b) 4;obtain ⟨r3,hr3⟩:∃ r,(r2++xP (YP i k a b) 4)=r:=⟨_,rfl⟩
 have hl3:r3.length≤3:=by rw [← hr3,List.length_append];omega
 rw [hr3];refine FW.seq ?_;refine FW.join (fun _:Unit=>⟨[(0,.list 8 (l.map OpV.fv)),(1,.int .i64 i),(2,.int .i64 k),(3,.bool s),(9,.ptr 109 0 0 0),(10,.ptr 110 0 0 0),(11,.own 100 0 0 (r3++xP (s && bf) 5).length),(12,.bool W)],[(100,⟨0,.own,3,1,(r3++xP (s && bf) 5).map zj⟩),(109,⟨0,.own,37,8,[a.fv]⟩),(110,⟨0,.own,37,8,[b.fv]⟩)]⟩) (fun _=>True) ?_ ?_
 ·cases s with
  | false =>
   refine za ?_;refine ⟨rfl,(),trivial,?_⟩;rw [Bool.false_and,show xP false 5=[] from rfl,List.append_nil];exact (FLe.cv [⟨100,some 100,0,⟨0,.own,3,1,r3.map zj⟩⟩,⟨109,some 109,0,⟨0,.own,37,8,[a.fv]⟩⟩,⟨110,some 110,0,⟨0,.own,37,8,[b.fv]⟩⟩] zf zd)
  | true=>
   refine za ?_;refine zV hbs yN rfl ⟨_,_,rfl,rfl,rfl⟩ ?_;cases bf with
   | true =>
    refine za ?_;refine ⟨rfl,(),trivial,?_⟩;rw [Bool.true_and,show xP true 5=[5] from rfl,List.length_append,List.map_append];exact (FLe.cv [⟨100,some 98,0+1,⟨0,.own,3,1,r3.map zj++[5].map zj⟩⟩,⟨109,some 109,0,⟨0,.own,37,8,[a.fv]⟩⟩,⟨110,some 110,0,⟨0,.own,37,8,[b.fv]⟩⟩] zf zd)
   | false =>
    refine za ?_;refine ⟨rfl,(),trivial,?_⟩;rw [Bool.true_and,show xP false 5=[] from rfl,List.append_nil];exact (FLe.cv [⟨100,some 100,0,⟨0,.own,3,1,r3.map zj⟩⟩,⟨109,some 109,0,⟨0,.own,37,8,[a.fv]⟩⟩,⟨110,some 110,0,⟨0,.own,37,8,[b.fv]⟩⟩] zf zd)
 rintro _ _;have hb4:=xD (s && bf) 5;obtain ⟨r4,hr4⟩:∃ r,(r3++xP (s && bf) 5)=r:=⟨_,rfl⟩
 have hl4:r4.length≤4:=by rw [← hr4,List.length_append];omega
 rw [hr4];have hfin:xP (W && decide (b.k=0)) 2++(xP (W && decide (b.k=2)) 3++(xP (YP i k a b) 4++xP (s && bf) 5))=r4:=by
  rw [← hr4,← hr3,← hr2,← hr1,hr0];simp only [List.nil_append,List.append_assoc]
 rw [hfin];refine za ?_;exact FW.ret ⟨.inl rfl,VG rfl rfl rfl zc zg rfl (fun e he=>by obtain ⟨x,_,rfl⟩:=List.mem_map.1 he;rfl)⟩
end Go.Proofs.Ytlnehfplfoikaaa
