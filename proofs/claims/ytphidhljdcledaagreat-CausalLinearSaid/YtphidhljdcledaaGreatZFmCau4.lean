/-
  Lemmas, in parts.
-/
import Derived.Test.YtphidhljdcledaaGreatZFmLinear
import Derived.Test.YtphidhljdcledaaGreatZFmViol
import Derived.Test.YtphidhljdcledaaGreatZB
import Derived.Maps.RangeRun
import Derived.Test.YtphidhljdcledaaGreatZJ
import Derived.Conc.LoneCalls
import Derived.Test.YtphidhljdcledaaGreatZFmLin2
import Derived.Test.YtphidhljdcledaaGreatZA
namespace Go.Proofs.YtphidhljdcledaaGreat
set_option linter.unusedVariables false
set_option maxHeartbeats 16000000
variable {A E:List (Nat×Nat)} {c:Ctx} {v:Value} {d1 d2 i j k m n nj lJ Hk ae x:Nat} {α:Type} {t:List (Nat×FV)} {ob:List (Nat×zE)} {p1 p2 p3:String} {m6 lW I5:Array Edge} {kz:List Oper} {body code:Code} {es ba : List (List FV)} {β:Nat→Option Nat} {w w' : World} {y:Operand} {s:ah} {buf:Array Value} {ag tm:Bool} {dir:ChanDir} {a:Act} {kf vf:FV} {S:List Nat}
section
open Go.RowKit
theorem zkF {A:List (Int×Int)} {c v:Int} (hc:bU c) (h:∀ p∈A,bU p.1):∀ p∈lR A c v,bU p.1:=by
 induction A with
 | nil => intro p hp; unfold lR at hp; rw [zq.1 hp]; exact hc
 | cons a A ih=>
  intro p hp;unfold lR at hp;split at hp
  ·rcases zA.1 hp with rfl|hp
   ·exact hc
   ·exact h p (xW _ hp)
  ·rcases zA.1 hp with rfl|hp
   ·exact h _ (Yu ..)
   ·exact ih (fun q hq=>h q (xW _ hq)) p hp
theorem znS {c v d:Int}:∀ (A:List (Int×Int)),((lR A c v).any fun p=>decide (p.1=d))=(decide (c=d) || A.any fun p=>decide (p.1=d))
 | [] => by simp [lR]
 | p::A=>by
  unfold lR;by_cases h:p.1=c
  ·rw [if_pos h];subst h;simp []
  ·rw [if_neg h,Dz,znS A,Dz];cases decide (p.1=d) <;> cases decide (c=d) <;> simp
theorem zxh {x:FV} {f:Nat→FV}:(fun j=>if j=i then [x] else [f j])=fun j=>[if j=i then x else f j]:=funext fun j=>by split <;> rfl
theorem zh8 (l:List aq) (hl:l.length≤1000) (aP:∀ o∈l,Ue o) (hd:yE l):xA Tryz.prog 19 [.list 8 (l.map aq.fv)] .sh (qk l (.list 1 ((yB l l.length).map yx)) (En l (yB l l.length) (yB l l.length) l.length)):=by
 obtain ⟨n,hn⟩:∃ n,l.length=n:=⟨_,rfl⟩
 have Ow:Ws l 0=[]:=rfl;refine ym 180 Tryz.func19 Tryz.ntmps19 rfl ?_;change FW _ _ _ ⟨[(0,.list 8 (l.map aq.fv))],[]⟩;obtain ⟨R,hR⟩:∃ R,qk l (.list 1 ((yB l l.length).map yx)) (En l (yB l l.length) (yB l l.length) l.length)=R:=⟨_,rfl⟩
 rw [hR]
 (repeat (first|refine FW.seq ?_|refine FW.region ?_|refine zt.nil ?_|refine zt.ai (yj rfl) rfl rfl ?_|refine zt.ai (zD rfl) rfl rfl ?_|refine zt.cL (PK rfl) rfl rfl ?_|refine zt.ai (XJ rfl rfl (by first|exact zj _|rfl|omega)) rfl rfl ?_|refine zt.cL (LP rfl rfl rfl rfl rfl rfl rfl rfl za za rfl) rfl rfl ?_))
 rw [hn];refine zta (cs:=[.list 8 (l.map aq.fv),.nil,.omap 22 (0+1),.own 25 (0+1) 0 n]) rfl (by refine sD.cons rfl (.inl rfl) rfl rfl ?_;refine sD.cons rfl (.inr (.inr (.inr (.inr ⟨_,_,rfl,yI rfl zd⟩)))) rfl rfl ?_;refine sD.cons rfl (.inr (.inl ⟨_,_,_,_,rfl,yI rfl zd⟩)) rfl rfl ?_;exact sD.nil) rfl rfl rfl rfl rfl rfl ?_;refine zwn rfl rfl rfl rfl rfl ?_;refine zb ?_;rw [hn];refine FW.loop (fun i:Nat=>⟨[(0,.list 8 (l.map aq.fv)),(3,.ptr 100 0 0 0),(4,.omap 104 0),(29,.list 8 (l.map aq.fv)),(30,.int .i64 n),(31,.int .i64 i)],[(100,⟨0,.aj,68,4,[[.list 8 (l.map aq.fv),.own 101 0 0 0,.omap 102 0,.own 103 0 0 n]]⟩),(101,⟨0,.own,3,1,[]⟩),(102,⟨0,.aC,65,0,[]⟩),(103,⟨0,.own,64,1,List.replicate n [.bR]⟩),(104,⟨0,.aC,98,0,Ws l i⟩)]⟩) (fun i=>i≤n) (fun i=>n - i) 0 (zp _) ?_ ?_
 ·exact (ar.cv [⟨100,some 27,0+1,⟨0,.aj,68,4,[[.list 8 (l.map aq.fv),.own 101 0 0 0,.omap 102 0,.own 103 0 0 n]]⟩⟩,⟨101,none,0,⟨0,.own,3,1,[]⟩⟩,⟨102,some 22,0+1,⟨0,.aC,65,0,[]⟩⟩,⟨103,some 25,0+1,⟨0,.own,64,1,List.replicate n [.bR]⟩⟩,⟨104,some 28,0+1,⟨0,.aC,98,0,[]⟩⟩] zh zf)
 intro i hi;refine zb ?_;refine FW.cond rfl (fun h=>?_) (fun h=>?_)
 ·have aA:i<n:=by simpa using h
  clear h;have eM:i<l.length:=by omega
  have ho:=aP _ (zu eM);have eN:=zsU (l:=l) (i:=i);have fw:=zqq (l:=l) (i:=i);obtain ⟨o,er⟩:∃ o,nth l i=o:=⟨_,rfl⟩
  rw [er] at ho eN fw;refine zb ?_;rw [er];skip;refine yR (fun h1=>?_) (fun h1=>?_)
  ·have h1:o.k=0:=by simpa using h1
   refine zb ?_;refine FW.cond rfl (fun h2=>?_) (fun h2=>?_)
   ·refine zb ?_;refine YD u7 (zlW za aP) (qJ ho.2.2.1 ho.2.2.2.2.1) (eN h1 h2) rfl rfl rfl rfl rfl rfl rfl ?_;refine zb ?_;exact ⟨i+1,by omega,by omega,(ar.cv [⟨100,some 100,0,⟨0,.aj,68,4,[[.list 8 (l.map aq.fv),.own 101 0 0 0,.omap 102 0,.own 103 0 0 n]]⟩⟩,⟨101,some 101,0,⟨0,.own,3,1,[]⟩⟩,⟨102,some 102,0,⟨0,.aC,65,0,[]⟩⟩,⟨103,some 103,0,⟨0,.own,64,1,List.replicate n [.bR]⟩⟩,⟨104,some 104,0,⟨0,.aC,98,0,Ws l (i+1)⟩⟩] zh zf)⟩
   ·refine zb ?_;refine ⟨i+1,by omega,by omega,?_⟩;rw [fw (fun q=>by rw [q.2] at h2;cases h2)];exact (ar.cv [⟨100,some 100,0,⟨0,.aj,68,4,[[.list 8 (l.map aq.fv),.own 101 0 0 0,.omap 102 0,.own 103 0 0 n]]⟩⟩,⟨101,some 101,0,⟨0,.own,3,1,[]⟩⟩,⟨102,some 102,0,⟨0,.aC,65,0,[]⟩⟩,⟨103,some 103,0,⟨0,.own,64,1,List.replicate n [.bR]⟩⟩,⟨104,some 104,0,⟨0,.aC,98,0,Ws l i⟩⟩] zh zf)
  ·have h1:o.k≠0:=by simpa using h1
   refine zb ?_;refine ⟨i+1,by omega,by omega,?_⟩;rw [fw (fun q=>h1 q.1)];exact (ar.cv [⟨100,some 100,0,⟨0,.aj,68,4,[[.list 8 (l.map aq.fv),.own 101 0 0 0,.omap 102 0,.own 103 0 0 n]]⟩⟩,⟨101,some 101,0,⟨0,.own,3,1,[]⟩⟩,⟨102,some 102,0,⟨0,.aC,65,0,[]⟩⟩,⟨103,some 103,0,⟨0,.own,64,1,List.replicate n [.bR]⟩⟩,⟨104,some 104,0,⟨0,.aC,98,0,Ws l i⟩⟩] zh zf)
 have oJ:i=n:=by simp at h;omega
 rw [oJ];clear h hi oJ;refine zb ?_;rw [hn];refine FW.loop (fun i:Nat=>⟨[(0,.list 8 (l.map aq.fv)),(3,.ptr 100 0 0 0),(4,.omap 104 0),(50,.list 8 (l.map aq.fv)),(51,.int .i64 n),(52,.int .i64 i)],[(100,⟨0,.aj,68,4,[[.list 8 (l.map aq.fv),.own 101 0 0 (yB l i).length,.omap 102 0,.own 103 0 0 n]]⟩),(101,⟨0,.own,3,1,(yB l i).map yx⟩),(102,⟨0,.aC,65,0,Zq l i⟩),(103,⟨0,.own,64,1,List.replicate n [.bR]⟩),(104,⟨0,.aC,98,0,Ws l n⟩)]⟩) (fun i=>i≤n) (fun i=>n - i) 0 (zp _) ?_ ?_
 ·exact (ar.cv [⟨100,some 100,0,⟨0,.aj,68,4,[[.list 8 (l.map aq.fv),.own 101 0 0 0,.omap 102 0,.own 103 0 0 n]]⟩⟩,⟨101,some 101,0,⟨0,.own,3,1,[]⟩⟩,⟨102,some 102,0,⟨0,.aC,65,0,[]⟩⟩,⟨103,some 103,0,⟨0,.own,64,1,List.replicate n [.bR]⟩⟩,⟨104,some 104,0,⟨0,.aC,98,0,Ws l n⟩⟩] zh zf)
 intro i hi;have eZ:=UB l i;refine zb ?_;refine FW.cond rfl (fun h=>?_) (fun h=>?_)
 ·have aA:i<n:=by simpa using h
  clear h;have eM:i<l.length:=by omega
  have ho:=aP _ (zu eM);have Ny:=hd i eM;have iv:=zph l i;have pB:=zpZ l i;have TF:=zng l (nth l i);have dp:=zv7 l n (nth l i).key (nth l i).arg;have e8:yC l i=((nth l i).done || (decide ((nth l i).k=1) && l.any (jJ (nth l i).key (nth l i).arg))):=rfl;rw [← TF,hn] at e8;clear TF;unfold okW at Ny;unfold Er at iv;obtain ⟨o,er⟩:∃ o,nth l i=o:=⟨_,rfl⟩
  rw [er] at ho Ny iv dp e8;generalize decide ((o.key,o.arg)∈XG l n)=wt at dp e8;generalize yC l i=ic at iv pB e8;refine zb ?_;rw [er];skip;refine Vz (e:=75) u7 (zlW za aP) (qJ ho.2.2.1 ho.2.2.2.1) dp rfl rfl zd rfl rfl rfl rfl rfl rfl ?_;refine Ua ?_;refine FW.seq ?_;refine FW.join (fun _:Unit=>⟨[(0,.list 8 (l.map aq.fv)),(3,.ptr 100 0 0 0),(4,.omap 104 0),(50,.list 8 (l.map aq.fv)),(51,.int .i64 n),(52,.int .i64 i),(7,.int .i64 i),(8,.ptr 105 0 0 0),(9,.ptr 106 0 0 0),(77,.bool ic)],[(100,⟨0,.aj,68,4,[[.list 8 (l.map aq.fv),.own 101 0 0 (yB l i).length,.omap 102 0,.own 103 0 0 n]]⟩),(101,⟨0,.own,3,1,(yB l i).map yx⟩),(102,⟨0,.aC,65,0,Zq l i⟩),(103,⟨0,.own,64,1,List.replicate n [.bR]⟩),(104,⟨0,.aC,98,0,Ws l n⟩),(105,⟨0,.own,43,8,[o.fv]⟩),(106,⟨0,.own,100,2,[[.int .i64 o.key,.int .i64 o.arg]]⟩)]⟩) (fun _=>True) ?_ ?_
  ·refine zb ?_;refine yR (fun h1=>?_) (fun h1=>?_)
   ·rw [e8,h1,HR];refine zb ?_;exact ⟨rfl,(),trivial,(ar.cv [⟨100,some 100,0,⟨0,.aj,68,4,[[.list 8 (l.map aq.fv),.own 101 0 0 (yB l i).length,.omap 102 0,.own 103 0 0 n]]⟩⟩,⟨101,some 101,0,⟨0,.own,3,1,(yB l i).map yx⟩⟩,⟨102,some 102,0,⟨0,.aC,65,0,Zq l i⟩⟩,⟨103,some 103,0,⟨0,.own,64,1,List.replicate n [.bR]⟩⟩,⟨104,some 104,0,⟨0,.aC,98,0,Ws l n⟩⟩,⟨105,some 8,0+1,⟨0,.own,43,8,[o.fv]⟩⟩,⟨106,some 9,0+1,⟨0,.own,100,2,[[.int .i64 o.key,.int .i64 o.arg]]⟩⟩] zh zf)⟩
   ·rw [h1,ZR] at e8;refine zb ?_;refine yR (fun h2=>?_) (fun h2=>?_)
    ·rw [h2,yN] at e8;rw [e8];refine zb ?_;exact ⟨rfl,(),trivial,(ar.cv [⟨100,some 100,0,⟨0,.aj,68,4,[[.list 8 (l.map aq.fv),.own 101 0 0 (yB l i).length,.omap 102 0,.own 103 0 0 n]]⟩⟩,⟨101,some 101,0,⟨0,.own,3,1,(yB l i).map yx⟩⟩,⟨102,some 102,0,⟨0,.aC,65,0,Zq l i⟩⟩,⟨103,some 103,0,⟨0,.own,64,1,List.replicate n [.bR]⟩⟩,⟨104,some 104,0,⟨0,.aC,98,0,Ws l n⟩⟩,⟨105,some 8,0+1,⟨0,.own,43,8,[o.fv]⟩⟩,⟨106,some 9,0+1,⟨0,.own,100,2,[[.int .i64 o.key,.int .i64 o.arg]]⟩⟩] zh zf)⟩
    ·rw [h2,Zo] at e8;rw [e8];refine zb ?_;exact ⟨rfl,(),trivial,(ar.cv [⟨100,some 100,0,⟨0,.aj,68,4,[[.list 8 (l.map aq.fv),.own 101 0 0 (yB l i).length,.omap 102 0,.own 103 0 0 n]]⟩⟩,⟨101,some 101,0,⟨0,.own,3,1,(yB l i).map yx⟩⟩,⟨102,some 102,0,⟨0,.aC,65,0,Zq l i⟩⟩,⟨103,some 103,0,⟨0,.own,64,1,List.replicate n [.bR]⟩⟩,⟨104,some 104,0,⟨0,.aC,98,0,Ws l n⟩⟩,⟨105,some 8,0+1,⟨0,.own,43,8,[o.fv]⟩⟩,⟨106,some 9,0+1,⟨0,.own,100,2,[[.int .i64 o.key,.int .i64 o.arg]]⟩⟩] zh zf)⟩
  rintro _ _;refine FW.cond rfl (fun h1=>?_) (fun h1=>?_)
  ·subst h1;rw [if_pos rfl] at pB;rw [Bool.and_true] at iv;have FE:(yB l i).length≤1000:=by omega
   refine zb ?_;refine XC rfl rfl rfl rfl rfl rfl rfl ?_;refine zb ?_;refine ziZ rfl rfl (.inr (.inl ⟨_,_,_,_,rfl,yI rfl zd⟩)) rfl rfl rfl rfl (by show 1<4;decide) rfl ?_;refine zb ?_;refine FW.cond rfl (fun h3=>?_) (fun h3=>?_)
   ·have h3:o.k=1:=by simpa using h3
    rw [if_pos (by simpa using h3)] at iv;have bl:∀ j,j<i→gm o.key o.arg (nth l j)=false:=by
     rcases Ny with q|q
     ·omega
     ·exact q.2.2
    refine Zf ?_;refine Hu rfl rfl rfl rfl rfl rfl rfl ?_;refine yH ?_;refine zsZ u7 (Qe za aP) (qJ ho.2.2.1 ho.2.2.2.1) (.inr ⟨zia (fun j hj _=>bl j hj),rfl⟩) rfl rfl rfl rfl rfl rfl rfl ?_;refine zR.nil ⟨by kernel_rfl,?_⟩;refine zb ?_;refine ⟨i+1,by omega,by omega,?_⟩;rw [iv,pB,show (yB l i++[i]).length=(yB l i).length+1 by simp,zF];exact (ar.cv [⟨100,some 100,0,⟨0,.aj,68,4,[[.list 8 (l.map aq.fv),.own 101 0 0 ((yB l i).length+1),.omap 102 0,.own 103 0 0 n]]⟩⟩,⟨101,some 85,0+1,⟨0,.own,3,1,(yB l i).map yx++[i].map yx⟩⟩,⟨102,some 102,0,⟨0,.aC,65,0,Zq l i++[[UV o.key o.arg,.int .i64 (i:Int)]]⟩⟩,⟨103,some 103,0,⟨0,.own,64,1,List.replicate n [.bR]⟩⟩,⟨104,some 104,0,⟨0,.aC,98,0,Ws l n⟩⟩] zh zf)
   ·have h3:o.k≠1:=by simpa using h3
    rw [if_neg (by simpa using h3),zT] at iv;refine zb ?_;refine ⟨i+1,by omega,by omega,?_⟩;rw [iv,pB,show (yB l i++[i]).length=(yB l i).length+1 by simp,zF];exact (ar.cv [⟨100,some 100,0,⟨0,.aj,68,4,[[.list 8 (l.map aq.fv),.own 101 0 0 ((yB l i).length+1),.omap 102 0,.own 103 0 0 n]]⟩⟩,⟨101,some 85,0+1,⟨0,.own,3,1,(yB l i).map yx++[i].map yx⟩⟩,⟨102,some 102,0,⟨0,.aC,65,0,Zq l i⟩⟩,⟨103,some 103,0,⟨0,.own,64,1,List.replicate n [.bR]⟩⟩,⟨104,some 104,0,⟨0,.aC,98,0,Ws l n⟩⟩] zh zf)
  ·subst h1;rw [if_neg zc] at iv pB;rw [zT] at iv pB;refine zb ?_;refine ⟨i+1,by omega,by omega,?_⟩;rw [iv,pB];exact (ar.cv [⟨100,some 100,0,⟨0,.aj,68,4,[[.list 8 (l.map aq.fv),.own 101 0 0 (yB l i).length,.omap 102 0,.own 103 0 0 n]]⟩⟩,⟨101,some 101,0,⟨0,.own,3,1,(yB l i).map yx⟩⟩,⟨102,some 102,0,⟨0,.aC,65,0,Zq l i⟩⟩,⟨103,some 103,0,⟨0,.own,64,1,List.replicate n [.bR]⟩⟩,⟨104,some 104,0,⟨0,.aC,98,0,Ws l n⟩⟩] zh zf)
 have oJ:i=n:=by simp at h;omega
 rw [oJ];clear h hi oJ eZ;obtain ⟨I,hI⟩:∃ I,yB l n=I:=⟨_,rfl⟩
 obtain ⟨m,hm⟩:∃ m,I.length=m:=⟨_,rfl⟩
 have iZ:m≤n:=by rw [← hm,← hI];exact UB l n
 have MT:I.Pairwise (· < ·):=by rw [← hI];exact zlv l n
 have hIn:∀ j∈I,j<n:=fun j hj=>Xx (by rw [hI];exact hj);rw [hI,hm];refine zb ?_;refine XC rfl rfl rfl rfl rfl rfl rfl ?_;refine zb ?_;rw [KU];refine FW.loop (fun x:Nat×List (Int×Int)=>⟨[(0,.list 8 (l.map aq.fv)),(3,.ptr 100 0 0 0),(12,.omap 105 0),(102,.own 101 0 0 m),(103,.int .i64 m),(104,.int .i64 x.1)],[(100,⟨0,.aj,68,4,[[.list 8 (l.map aq.fv),.own 101 0 0 m,.omap 102 0,.own 103 0 0 n]]⟩),(101,⟨0,.own,3,1,I.map yx⟩),(102,⟨0,.aC,65,0,Zq l n⟩),(103,⟨0,.aj,64,1,(List.range n).map fun q=>[gM (I.take x.1) q]⟩),(105,⟨0,.aC,64,0,(x.2).map o6⟩)]++(Xk 200++VT 1000 n (gq l (I.take x.1)))⟩) (fun x=>x.1≤m∧(∀ p∈x.2,bU p.1)∧∀ c,sG x.2 c=((lL l (I.take x.1) c).getD 0:Nat)∧(x.2.any fun p=>decide (p.1=c))=(lL l (I.take x.1) c).isSome) (fun x=>m - x.1) (0,[]) ⟨zp _,fun p hp=>(by cases hp),fun c=>⟨rfl,rfl⟩⟩ ?_ ?_
 ·exact (ar.wR (i:=103) rfl).trans (ar.jr [⟨100,some 100,0,⟨0,.aj,68,4,[[.list 8 (l.map aq.fv),.own 101 0 0 m,.omap 102 0,.own 103 0 0 n]]⟩⟩,⟨101,some 101,0,⟨0,.own,3,1,I.map yx⟩⟩,⟨102,some 102,0,⟨0,.aC,65,0,Zq l n⟩⟩,⟨103,some 103,0,⟨0,.aj,64,1,(List.range n).map fun q=>[gM ([]) q]⟩⟩,⟨105,some 98,1,⟨0,.aC,64,0,([]).map o6⟩⟩] 1000 n (gq l []) rfl (by unfold zm;omega) rfl zc zc (by repeat (first|exact aT.nil|exact aT.dH rfl (by unfold zm;omega)|refine aT.cons rfl ?_)) (fun j _=>⟨rfl,rfl⟩) (.eA rfl (eU.cons (.cons (.plain rfl rfl) (.cons (.own (.tail _ (.head _)) rfl rfl rfl) (.cons (.omap (.tail _ (.tail _ (.head _))) rfl) (.cons (.own (.tail _ (.tail _ (.tail _ (.head _)))) rfl rfl rfl) .nil)))) rfl eU.nil) (.bL rfl zd rfl (.bL rfl zd rfl (.cP rfl (gp.of fun q hq=>.plain rfl rfl) (.bL rfl zd rfl .nil))))) zf)
 rintro ⟨j,A⟩ ⟨hj,ph,hA⟩;dsimp only at hj ph hA ⊢;refine zb ?_;refine FW.cond rfl (fun h=>?_) (fun h=>?_)
 ·have aA:j<m:=by simpa using h
  clear h;have nN:j<I.length:=by omega
  obtain ⟨i,hi⟩:∃ i,nth I j=i:=⟨_,rfl⟩
  have NK:i<n:=by rw [← hi];exact hIn _ (zu nN)
  have fz:I.take (j+1)=I.take j++[i]:=by rw [xe nN,← ak nN,hi]
  obtain ⟨X,hX⟩:∃ X,I.take j=X:=⟨_,rfl⟩
  have Jx:X.Pairwise (· < ·):=by rw [← hX];exact MT.sublist (HC _ _)
  have AK:∀ k∈X,k<i:=by
   have h2:(X++[i]).Pairwise (· < ·):=by rw [← hX,← fz];exact MT.sublist (HC _ _)
   exact fun k hk=>(Xq.1 h2).2.2 k hk i zc
  have CV:∀ k∈X,k<n:=fun k hk=>by have:=AK k hk;omega
  rw [hX] at hA fz ⊢;have ho:=aP _ (zu (show i<l.length by omega));have SX:=hA (nth l i).p;have MK : ∀ c,sG (lR A (nth l i).p (i:Int)) c=((lL l (X++[i]) c).getD 0:Nat)∧((lR A (nth l i).p (i:Int)).any fun p=>decide (p.1=c))=(lL l (X++[i]) c).isSome:=fun c=>by
   rw [zp4,zkE,znS];by_cases hc:(nth l i).p=c
   ·rw [if_pos hc,if_pos hc,decide_eq_true hc];exact ⟨rfl,by simp⟩
   ·rw [if_neg hc,if_neg hc,decide_eq_false hc,ZR];exact hA c
  have dp:=zh6 (c:=(nth l i).p) A;rw [SX.1,SX.2] at dp;refine zb ?_;rw [hi];skip;refine XC rfl rfl rfl rfl rfl rfl rfl ?_;refine zb ?_;rw [Vw,zxh];refine Vz (e:=3) YJ (Rj ph) (WB ho.1) dp rfl rfl zd rfl rfl rfl rfl rfl rfl ?_;cases FZ:lL l X (nth l i).p with
  | none=>
   refine zb ?_;refine YD YJ (Rj ph) (WB ho.1) (Ri (c:=(nth l i).p) (v:=(i:Int)) A) rfl rfl rfl rfl rfl rfl rfl ?_;refine zb ?_;refine ⟨(j+1,lR A (nth l i).p i),⟨by show j+1≤m;omega,?_,?_⟩,by show m - (j+1)<m - j;omega,?_⟩
   ·exact zkF (by simpa using ho.1) ph
   ·dsimp only;rw [fz];exact fun c=>MK c
   ·dsimp only;rw [fz];have hE:∀ q∈X,e3 l (X++[i]) q=e3 l X q:=fun q hq=>by rw [RQ Jx AK hq,FZ,if_neg zc]
    refine ar.cZ [⟨100,some 100,0,⟨0,.aj,68,4,[[.list 8 (l.map aq.fv),.own 101 0 0 m,.omap 102 0,.own 103 0 0 n]]⟩⟩,⟨101,some 101,0,⟨0,.own,3,1,I.map yx⟩⟩,⟨102,some 102,0,⟨0,.aC,65,0,Zq l n⟩⟩,⟨103,some 103,0,⟨0,.aj,64,1,(List.range n).map fun q=>[gM (X++[i]) q]⟩⟩,⟨105,some 105,0,⟨0,.aC,64,0,(lR A (nth l i).p i).map o6⟩⟩] 1000 n i (some 113) (fun q=>if q=i then 1 else 0) (gq l (X++[i])) rfl (by unfold zm;omega) rfl zc zc zc (by repeat (first|exact aT.nil|exact aT.dH rfl (by unfold zm;omega)|refine aT.cons rfl ?_)) ?_ ?_ zf
    ·intro q hq;by_cases fU:q=i
     ·subst fU;rw [if_pos rfl,if_pos rfl];refine .inr ⟨113,rfl,?_,?_⟩
      ·unfold gq;rw [if_pos zc,zrt AK];rfl
      ·unfold gq;rw [if_pos zc];rfl
     ·rw [if_neg fU,if_neg fU];refine .inr ⟨_,rfl,(yb (C:=[(105,_),(103,_),(113,_),(100,_),(101,_),(102,_),(103,_),(105,_)]) rfl zd hq).trans ?_,?_⟩
      ·unfold gq;by_cases cJ:q∈X
       ·rw [if_pos cJ,if_pos (xm _ cJ),hE q cJ]
       ·rw [if_neg cJ,if_neg (by simp [cJ,fU])]
      ·unfold gq;split <;> rfl
    ·refine (.eA rfl (eU.cons (.cons (.plain rfl rfl) (.cons (.own (.tail _ (.head _)) rfl rfl rfl) (.cons (.omap (.tail _ (.tail _ (.head _))) rfl) (.cons (.own (.tail _ (.tail _ (.tail _ (.head _)))) rfl rfl rfl) .nil)))) rfl eU.nil) (.bL rfl zd rfl (.bL rfl zd rfl (.cP rfl (gp.of fun q hq=>?_) (.bL rfl zd rfl .nil)))));have cH:=xv (B:=1000) (s:=fun q=>if q=i then some 113 else some (1000+q)) (vo:=fun q=>if q=i then 1 else 0) (f:=gq l (X++[i])) hq;unfold gM;unfold gq at cH;by_cases fU:q=i
     ·subst fU;rw [if_pos rfl,if_pos rfl,if_pos zc] at cH;rw [if_pos rfl,if_pos zc];exact .omap (zX _ cH) rfl
     ·rw [if_neg fU,if_neg fU] at cH;rw [if_neg fU];by_cases cJ:q∈X
      ·rw [if_pos (xm _ cJ)] at cH;rw [if_pos cJ,if_pos (xm _ cJ)];exact .omap (zX _ cH) rfl
      ·rw [if_neg cJ,if_neg (by simp [cJ,fU])];exact .plain rfl rfl
  | some k=>
   obtain ⟨uD,hkp⟩:=Kg FZ;have rC:k<i:=AK k uD;have gU:k<n:=CV k uD;have Tz:e3 l X k=[]:=by unfold e3;rw [Z9 Jx FZ];rfl
   refine zb ?_;refine zt.le (s':=⟨[(0,.list 8 (l.map aq.fv)),(3,.ptr 100 0 0 0),(12,.omap 105 0),(14,.int .i64 i),(15,.int .i64 k),(102,.own 101 0 0 m),(103,.int .i64 m),(104,.int .i64 j),(128,.ptr 100 0 0 3)],[(100,⟨0,.aj,68,4,[[.list 8 (l.map aq.fv),.own 101 0 0 m,.omap 102 0,.own 103 0 0 n]]⟩),(101,⟨0,.own,3,1,I.map yx⟩),(102,⟨0,.aC,65,0,Zq l n⟩),(103,⟨0,.aj,64,1,(List.range n).map fun q=>[if q=k then .omap 150 0 else gM (X++[i]) q]⟩),(105,⟨0,.aC,64,0,(A).map o6⟩),(150,⟨0,.aC,64,0,[]⟩)]++(Xk 200++VT 1000 n (fun q=>if q=k then (⟨0,.own,64,1,[]⟩:zE) else if q=i then ⟨0,.aC,64,0,[]⟩ else gq l X q))⟩) ?_ ?_
   ·refine XC rfl rfl rfl rfl rfl rfl rfl ?_;refine zb ?_;refine zt.ai (Zz rfl rfl rfl rfl (xR n k _ gU)) rfl rfl ?_;rw [if_pos rfl];refine zb ?_;refine YD YJ (fun row hr=>by cases hr) (WB (by unfold bU;omega)) (.inr ⟨fun row hr=>(by cases hr),rfl⟩) rfl rfl rfl rfl rfl rfl rfl ?_;refine zb ?_;refine YD YJ (Rj ph) (WB ho.1) (Ri (c:=(nth l i).p) (v:=(i:Int)) A) rfl rfl rfl rfl rfl rfl rfl ?_;refine zb ?_;refine ⟨(j+1,lR A (nth l i).p i),⟨by show j+1≤m;omega,zkF (by simpa using ho.1) ph,by dsimp only;rw [fz];exact fun c=>MK c⟩,by show m - (j+1)<m - j;omega,?_⟩;dsimp only;rw [fz];refine ar.cZ [⟨100,some 100,0,⟨0,.aj,68,4,[[.list 8 (l.map aq.fv),.own 101 0 0 m,.omap 102 0,.own 103 0 0 n]]⟩⟩,⟨101,some 101,0,⟨0,.own,3,1,I.map yx⟩⟩,⟨102,some 102,0,⟨0,.aC,65,0,Zq l n⟩⟩,⟨103,some 103,0,⟨0,.aj,64,1,(List.range n).map fun q=>[gM (X++[i]) q]⟩⟩,⟨105,some 105,0,⟨0,.aC,64,0,(lR A (nth l i).p i).map o6⟩⟩] 1000 n k (some 150) (fun _=>0) (gq l (X++[i])) rfl (by unfold zm;omega) rfl zc zc zc (by repeat (first|exact aT.nil|exact aT.dH rfl (by unfold zm;omega)|refine aT.cons rfl ?_)) ?_ ?_ zf
    ·intro q hq;by_cases bX:q=k
     ·subst bX;rw [if_pos rfl];refine .inr ⟨150,rfl,?_,?_⟩
      ·unfold gq;rw [if_pos (xm _ uD),RQ Jx AK uD,FZ,if_pos rfl,Tz];rfl
      ·unfold gq;rw [if_pos (xm _ uD)];rfl
     ·rw [if_neg bX];refine .inr ⟨_,rfl,(yb (C:=[(105,_),(150,_),(100,_),(101,_),(102,_),(103,_),(105,_),(150,_)]) rfl zd hq).trans ?_,?_⟩
      ·rw [if_neg bX];by_cases fU:q=i
       ·subst fU;rw [if_pos rfl];unfold gq;rw [if_pos zc,zrt AK]
       ·rw [if_neg fU];unfold gq;by_cases cJ:q∈X
        ·rw [if_pos cJ,if_pos (xm _ cJ),RQ Jx AK cJ,FZ,if_neg (fun e=>bX (by injection e with e;exact e.symm))]
        ·rw [if_neg cJ,if_neg (by simp [cJ,fU])]
      ·unfold gq;split <;> rfl
    ·refine (.eA rfl (eU.cons (.cons (.plain rfl rfl) (.cons (.own (.tail _ (.head _)) rfl rfl rfl) (.cons (.omap (.tail _ (.tail _ (.head _))) rfl) (.cons (.own (.tail _ (.tail _ (.tail _ (.head _)))) rfl rfl rfl) .nil)))) rfl eU.nil) (.bL rfl zd rfl (.bL rfl zd rfl (.cP rfl (gp.of fun q hq=>?_) (.bL rfl zd rfl .nil)))));have cH:=xv (B:=1000) (s:=fun q=>if q=k then some 150 else some (1000+q)) (vo:=fun _=>0) (f:=gq l (X++[i])) hq;unfold gq at cH;by_cases bX:q=k
     ·subst bX;rw [if_pos rfl,if_pos (xm _ uD)] at cH;unfold gM;rw [if_pos rfl,if_pos (xm _ uD)];exact .omap (zX _ cH) rfl
     ·rw [if_neg bX] at cH;rw [if_neg bX];unfold gM;by_cases cJ:q∈X++[i]
      ·rw [if_pos cJ] at cH;rw [if_pos cJ];exact .omap (zX _ cH) rfl
      ·rw [if_neg cJ];exact .plain rfl rfl
   ·refine ar.trans (ar.cZ (t':=[(0,.list 8 (l.map aq.fv)),(3,.ptr 100 0 0 0),(12,.omap 105 0),(14,.int .i64 i),(15,.int .i64 k),(102,.own 101 0 0 m),(103,.int .i64 m),(104,.int .i64 j),(128,.ptr 100 0 0 3)]) [⟨100,some 100,0,⟨0,.aj,68,4,[[.list 8 (l.map aq.fv),.own 101 0 0 m,.omap 102 0,.own 103 0 0 n]]⟩⟩,⟨101,some 101,0,⟨0,.own,3,1,I.map yx⟩⟩,⟨102,some 102,0,⟨0,.aC,65,0,Zq l n⟩⟩,⟨103,some 103,0,⟨0,.aj,64,1,(List.range n).map fun q=>[gM (X++[i]) q]⟩⟩,⟨105,some 105,0,⟨0,.aC,64,0,(A).map o6⟩⟩] 1000 n i (some 113) (fun q=>if q=i then 1 else 0) (fun q=>if q=i then (⟨0,.aC,64,0,[]⟩:zE) else gq l X q) rfl (by unfold zm;omega) rfl zc zc zc (by repeat (first|exact aT.nil|exact aT.dH rfl (by unfold zm;omega)|refine aT.cons rfl ?_)) ?_ ?_ zf) (ar.cZ [⟨100,some 100,0,⟨0,.aj,68,4,[[.list 8 (l.map aq.fv),.own 101 0 0 m,.omap 102 0,.own 103 0 0 n]]⟩⟩,⟨101,some 101,0,⟨0,.own,3,1,I.map yx⟩⟩,⟨102,some 102,0,⟨0,.aC,65,0,Zq l n⟩⟩,⟨103,some 103,0,⟨0,.aj,64,1,(List.range n).map fun q=>[if q=k then .omap 150 0 else gM (X++[i]) q]⟩⟩,⟨105,some 105,0,⟨0,.aC,64,0,(A).map o6⟩⟩,⟨150,some (1000+k),0,⟨0,.aC,64,0,[]⟩⟩] 1000 n k none (fun _=>0) (fun q=>if q=k then (⟨0,.own,64,1,[]⟩:zE) else if q=i then ⟨0,.aC,64,0,[]⟩ else gq l X q) rfl (by unfold zm;omega) rfl zc DO DO (by repeat (first|exact aT.nil|exact aT.dH rfl (by unfold zm;omega)|refine aT.cons rfl ?_)) ?_ ?_ zf)
    ·intro q hq;by_cases fU:q=i
     ·subst fU;rw [if_pos rfl,if_pos rfl,if_pos rfl];exact .inr ⟨113,rfl,rfl,rfl⟩
     ·rw [if_neg fU,if_neg fU,if_neg fU];refine .inr ⟨_,rfl,(yb (C:=[(103,_),(113,_),(100,_),(101,_),(102,_),(103,_),(105,_)]) rfl zd hq).trans (by unfold gq;split <;> rfl),?_⟩;unfold gq;split <;> rfl
    ·refine (.eA rfl (eU.cons (.cons (.plain rfl rfl) (.cons (.own (.tail _ (.head _)) rfl rfl rfl) (.cons (.omap (.tail _ (.tail _ (.head _))) rfl) (.cons (.own (.tail _ (.tail _ (.tail _ (.head _)))) rfl rfl rfl) .nil)))) rfl eU.nil) (.bL rfl zd rfl (.bL rfl zd rfl (.cP rfl (gp.of fun q hq=>?_) (.bL rfl zd rfl .nil)))));have cH:=xv (B:=1000) (s:=fun q=>if q=i then some 113 else some (1000+q)) (vo:=fun q=>if q=i then 1 else 0) (f:=(fun q=>if q=i then (⟨0,.aC,64,0,[]⟩:zE) else gq l X q)) hq;unfold gM;unfold gq at cH;by_cases fU:q=i
     ·subst fU;rw [if_pos rfl,if_pos rfl,if_pos rfl] at cH;rw [if_pos rfl,if_pos zc];exact .omap (zX _ cH) rfl
     ·rw [if_neg fU,if_neg fU,if_neg fU] at cH;rw [if_neg fU];by_cases cJ:q∈X
      ·rw [if_pos cJ] at cH;rw [if_pos cJ,if_pos (xm _ cJ)];exact .omap (zX _ cH) rfl
      ·rw [if_neg cJ,if_neg (by simp [cJ,fU])];exact .plain rfl rfl
    ·intro q hq;by_cases bX:q=k
     ·rw [if_pos bX,if_pos bX];exact .inl ⟨rfl,rfl,rfl⟩
     ·rw [if_neg bX,if_neg bX];refine .inr ⟨_,rfl,(yb (C:=[(100,_),(101,_),(102,_),(103,_),(105,_)]) rfl zd hq).trans (by split;(· rfl);(· unfold gq;split <;> rfl)),?_⟩;unfold gq;split
      ·rfl
      ·split <;> rfl
    ·refine (.eA rfl (eU.cons (.cons (.plain rfl rfl) (.cons (.own (.tail _ (.head _)) rfl rfl rfl) (.cons (.omap (.tail _ (.tail _ (.head _))) rfl) (.cons (.own (.tail _ (.tail _ (.tail _ (.head _)))) rfl rfl rfl) .nil)))) rfl eU.nil) (.bL rfl zd rfl (.bL rfl zd rfl (.cP rfl (gp.of fun q hq=>?_) (.bL rfl zd rfl (.bL ((yb (C:=[(100,_),(101,_),(102,_),(103,_),(105,_)]) rfl zd gU).trans (by rw [if_neg za];unfold gq;rw [if_pos uD,Tz])) zd rfl .nil))))));have cH:=xv (B:=1000) (s:=fun q=>if q=k then none else some (1000+q)) (vo:=fun _=>0) (f:=(fun q=>if q=k then (⟨0,.own,64,1,[]⟩:zE) else if q=i then ⟨0,.aC,64,0,[]⟩ else gq l X q)) hq;by_cases bX:q=k
     ·subst bX;unfold gM;rw [if_pos rfl,if_pos (xm _ uD)];exact .omap (.tail _ (.tail _ (.tail _ (.tail _ (.tail _ (.head _)))))) rfl
     ·rw [if_neg bX,if_neg bX] at cH;rw [if_neg bX];unfold gM;by_cases cJ:q∈X++[i]
      ·rw [if_pos cJ];refine .omap (zX _ cH) ?_;split
       ·rfl
       ·unfold gq;split <;> rfl
      ·rw [if_neg cJ];exact .plain rfl rfl
 ·have kr:j=m:=by simp at h;omega
  subst kr;clear h;rw [show I.take j=I by rw [← hm,yy]] at hA ⊢;clear hA ph;have qt:∀ q,q<l.length→yC l q=true→q∈I:=fun q hq h1=>by
   rw [← hI];exact zY.2 ⟨by simpa using (show q<n by omega),h1⟩
  obtain ⟨m,TP⟩:∃ m,m=j:=⟨_,rfl⟩
  rw [← TP] at hm iZ ⊢;clear TP hj j;refine zb ?_;refine XC rfl rfl rfl rfl rfl rfl rfl ?_;refine zb ?_;refine FW.loop (fun j:Nat=>⟨[(0,.list 8 (l.map aq.fv)),(3,.ptr 100 0 0 0),(145,.own 101 0 0 m),(146,.int .i64 m),(147,.int .i64 j)],[(100,⟨0,.aj,68,4,[[.list 8 (l.map aq.fv),.own 101 0 0 m,.omap 102 0,.own 103 0 0 n]]⟩),(101,⟨0,.own,3,1,I.map yx⟩),(102,⟨0,.aC,65,0,Zq l n⟩),(103,⟨0,.aj,64,1,(List.range n).map fun q=>[gM I q]⟩)]++(Xk 200++VT 1000 n (fI l I (I.take j)))⟩) (fun j=>j≤m) (fun j=>m - j) 0 (zp _) ?_ ?_
  ·refine ar.oF [⟨100,some 100,0,⟨0,.aj,68,4,[[.list 8 (l.map aq.fv),.own 101 0 0 m,.omap 102 0,.own 103 0 0 n]]⟩⟩,⟨101,some 101,0,⟨0,.own,3,1,I.map yx⟩⟩,⟨102,some 102,0,⟨0,.aC,65,0,Zq l n⟩⟩,⟨103,some 103,0,⟨0,.aj,64,1,(List.range n).map fun q=>[gM I q]⟩⟩] 1000 n (fun _=>0) (fI l I []) rfl (by unfold zm;omega) rfl zc zc zc (by repeat (first|exact aT.nil|exact aT.dH rfl (by unfold zm;omega)|refine aT.cons rfl ?_)) (fun q hq=>.inr ⟨_,rfl,(yb (C:=[(100,_),(101,_),(102,_),(103,_),(105,_)]) rfl zd hq).trans ?_,?_⟩) (.eA rfl (eU.cons (.cons (.plain rfl rfl) (.cons (.own (.tail _ (.head _)) rfl rfl rfl) (.cons (.omap (.tail _ (.tail _ (.head _))) rfl) (.cons (.own (.tail _ (.tail _ (.tail _ (.head _)))) rfl rfl rfl) .nil)))) rfl eU.nil) (.bL rfl zd rfl (.bL rfl zd rfl (.cP rfl (gp.of fun q hq=>?_) .nil)))) zf
   ·unfold gq fI;split
    ·rw [zw4]
    ·rfl
   ·unfold fI;split <;> rfl
   ·have cH:=xv (B:=1000) (s:=fun q=>some (1000+q)) (vo:=fun _=>0) (f:=fI l I []) hq;unfold fI at cH;unfold gM;by_cases cJ:q∈I
    ·rw [if_pos cJ] at cH ⊢;exact .omap (zX _ cH) rfl
    ·rw [if_neg cJ];exact .plain rfl rfl
  intro j hj;refine zb ?_;refine FW.cond rfl (fun h=>?_) (fun h=>?_)
  ·have aA:j<m:=by simpa using h
   clear h;have nN:j<I.length:=by omega
   obtain ⟨i,hi⟩:∃ i,nth I j=i:=⟨_,rfl⟩
   have NK:i<n:=by rw [← hi];exact hIn _ (zu nN)
   have fz:I.take (j+1)=I.take j++[i]:=by rw [xe nN,← ak nN,hi]
   obtain ⟨Y,hY⟩:∃ Y,I.take j=Y:=⟨_,rfl⟩
   have Nb:∀ k∈Y,k<i:=by
    have h2:(Y++[i]).Pairwise (· < ·):=by rw [← hY,← fz];exact MT.sublist (HC _ _)
    exact fun k hk=>(Xq.1 h2).2.2 k hk i zc
   have To:∀ k∈Y,k<n:=fun k hk=>by have:=Nb k hk;omega
   rw [hY] at fz ⊢;have iC:=QG l (.list 1 (I.map yx)) (En l I Y n) rfl rfl i za za aP;refine zb ?_;rw [hi];skip;refine ztc iC (.cons rfl (Ui.Hb rfl rfl (.cons (.plain rfl) rfl (.cons (Ui.BO rfl (by simpa using hm) (fun e he=>by obtain ⟨q,_,rfl⟩:=zi.1 he;rfl) (fun g hg=>by obtain ⟨e,he,hg⟩:=yJ.1 hg;obtain ⟨q,_,rfl⟩:=zi.1 he;rw [zq.1 hg];rfl)) rfl (.cons ?_ rfl (.cons ?_ rfl .nil))))) (.cons rfl (.plain rfl) .nil)) rfl rfl ?_
   ·rw [hn];exact Ui.mM rfl
   ·refine Ui.Ha rfl fun q hq=>?_;unfold gM IV;by_cases cJ:q∈I
    ·rw [if_pos cJ,if_pos cJ];exact ⟨Ui.mM ((yb (C:=[(100,_),(101,_),(102,_),(103,_)]) rfl zd hq).trans (by unfold fI;rw [if_pos cJ])),rfl⟩
    ·rw [if_neg cJ,if_neg cJ];exact ⟨.plain rfl,rfl⟩
   unfold D7;cases uy:YF l i with
   | none=>
    refine zb ?_;refine ⟨j+1,by omega,by omega,?_⟩;rw [fz];refine ar.oF [⟨100,some 100,0,⟨0,.aj,68,4,[[.list 8 (l.map aq.fv),.own 101 0 0 m,.omap 102 0,.own 103 0 0 n]]⟩⟩,⟨101,some 101,0,⟨0,.own,3,1,I.map yx⟩⟩,⟨102,some 102,0,⟨0,.aC,65,0,Zq l n⟩⟩,⟨103,some 103,0,⟨0,.aj,64,1,(List.range n).map fun q=>[gM I q]⟩⟩] 1000 n (fun _=>0) (fI l I (Y++[i])) rfl (by unfold zm;omega) rfl zc zc zc (by repeat (first|exact aT.nil|exact aT.dH rfl (by unfold zm;omega)|refine aT.cons rfl ?_)) (fun q hq=>.inr ⟨_,rfl,(yb (C:=[(100,_),(101,_),(102,_),(103,_)]) rfl zd hq).trans ?_,?_⟩) (.eA rfl (eU.cons (.cons (.plain rfl rfl) (.cons (.own (.tail _ (.head _)) rfl rfl rfl) (.cons (.omap (.tail _ (.tail _ (.head _))) rfl) (.cons (.own (.tail _ (.tail _ (.tail _ (.head _)))) rfl rfl rfl) .nil)))) rfl eU.nil) (.bL rfl zd rfl (.bL rfl zd rfl (.cP rfl (gp.of fun q hq=>?_) .nil)))) zf
    ·unfold fI;rw [Ie,if_neg (show ¬ (YF l i=some q∧xP l I q≠some i) from fun e=>by have:=e.1;rw [uy] at this;cases this),zT];split <;> rfl
    ·unfold fI;split <;> rfl
    ·have cH:=xv (B:=1000) (s:=fun q=>some (1000+q)) (vo:=fun _=>0) (f:=fI l I (Y++[i])) hq;unfold fI at cH;unfold gM;by_cases cJ:q∈I
     ·rw [if_pos cJ] at cH ⊢;exact .omap (zX _ cH) rfl
     ·rw [if_neg cJ];exact .plain rfl rfl
   | some w=>
    have vT:w<l.length∧yC l w=true:=by
     unfold YF at uy;split at uy
     ·cases uy
     ·exact ⟨(VP uy).1,(VP uy).2.2⟩
    have wI:w∈I:=qt w vT.1 vT.2;have pP:w<n:=by omega
    refine zb ?_;refine zt.le (s':=⟨[(0,.list 8 (l.map aq.fv)),(3,.ptr 100 0 0 0),(18,.int .i64 i),(19,.int .i64 w),(145,.own 101 0 0 m),(146,.int .i64 m),(147,.int .i64 j),(158,.bool true),(161,.ptr 100 0 0 3)],[(100,⟨0,.aj,68,4,[[.list 8 (l.map aq.fv),.own 101 0 0 m,.omap 102 0,.own 103 0 0 n]]⟩),(101,⟨0,.own,3,1,I.map yx⟩),(102,⟨0,.aC,65,0,Zq l n⟩),(103,⟨0,.aj,64,1,(List.range n).map fun q=>[if q=w then .omap 150 0 else gM I q]⟩),(150,⟨0,.aC,64,0,e4 l I Y w⟩)]++(Xk 200++VT 1000 n (fun q=>if q=w then (⟨0,.own,64,1,[]⟩:zE) else fI l I Y q))⟩) ?_ ?_
    ·refine XC rfl rfl rfl rfl rfl rfl ⟨_,_,rfl,rfl,rfl⟩ ?_;refine zb ?_;refine zt.ai (Zz rfl rfl rfl rfl (xR n w _ pP)) rfl ⟨_,_,rfl,rfl,rfl⟩ ?_;rw [if_pos rfl];refine zb ?_;refine Qo (e:=3) YJ (zvs hIn To za) (WB (by unfold bU;omega)) (zvS l Nb) rfl rfl zd rfl rfl rfl rfl rfl ⟨_,_,rfl,rfl,rfl⟩ ?_;refine zb ?_;refine FW.cond rfl (fun h=>?_) (fun h=>?_)
     ·have oN:xP l I w≠some i:=fun e=>by rw [e] at h;simp at h
      refine zb ?_;refine XC rfl rfl rfl rfl rfl rfl rfl ?_;refine zb ?_;refine zt.ai (Zz rfl rfl rfl rfl (xR n w _ pP)) rfl rfl ?_;rw [if_pos rfl];refine zb ?_;refine YD YJ (zvs hIn To za) (WB (by unfold bU;omega)) (.inr ⟨zru oN Nb,rfl⟩) rfl rfl rfl rfl rfl rfl rfl ?_;refine zb ?_;refine ⟨j+1,by omega,by omega,?_⟩;rw [fz];refine ar.cZ [⟨100,some 100,0,⟨0,.aj,68,4,[[.list 8 (l.map aq.fv),.own 101 0 0 m,.omap 102 0,.own 103 0 0 n]]⟩⟩,⟨101,some 101,0,⟨0,.own,3,1,I.map yx⟩⟩,⟨102,some 102,0,⟨0,.aC,65,0,Zq l n⟩⟩,⟨103,some 103,0,⟨0,.aj,64,1,(List.range n).map fun q=>[gM I q]⟩⟩] 1000 n w (some 150) (fun _=>0) (fI l I (Y++[i])) rfl (by unfold zm;omega) rfl zc zc zc (by repeat (first|exact aT.nil|exact aT.dH rfl (by unfold zm;omega)|refine aT.cons rfl ?_)) ?_ ?_ zf
      ·intro q hq;by_cases bX:q=w
       ·subst bX;rw [if_pos rfl];refine .inr ⟨150,rfl,?_,?_⟩
        ·unfold fI;rw [if_pos wI,Ie,if_pos (show YF l i=some q∧xP l I q≠some i from ⟨uy,oN⟩)];rfl
        ·unfold fI;rw [if_pos wI];rfl
       ·rw [if_neg bX];refine .inr ⟨_,rfl,(yb (C:=[(150,_),(100,_),(101,_),(102,_),(103,_),(150,_)]) rfl zd hq).trans ?_,?_⟩
        ·rw [if_neg bX];unfold fI;rw [Ie,if_neg (show ¬ (YF l i=some q∧xP l I q≠some i) from fun e=>bX (by have:=e.1;rw [uy] at this;injection this with this;exact this.symm)),zT];split <;> rfl
        ·unfold fI;split <;> rfl
      ·refine (.eA rfl (eU.cons (.cons (.plain rfl rfl) (.cons (.own (.tail _ (.head _)) rfl rfl rfl) (.cons (.omap (.tail _ (.tail _ (.head _))) rfl) (.cons (.own (.tail _ (.tail _ (.tail _ (.head _)))) rfl rfl rfl) .nil)))) rfl eU.nil) (.bL rfl zd rfl (.bL rfl zd rfl (.cP rfl (gp.of fun q hq=>?_) .nil))));have cH:=xv (B:=1000) (s:=fun q=>if q=w then some 150 else some (1000+q)) (vo:=fun _=>0) (f:=fI l I (Y++[i])) hq;unfold fI at cH;unfold gM;by_cases cJ:q∈I
       ·by_cases bX:q=w
        ·rw [if_pos bX,if_pos cJ] at cH;rw [if_pos bX,if_pos cJ];exact .omap (zX _ cH) rfl
        ·rw [if_neg bX,if_pos cJ] at cH;rw [if_neg bX,if_pos cJ];exact .omap (zX _ cH) rfl
       ·rw [if_neg (fun e=>cJ (by rw [e];exact wI)),if_neg cJ];exact .plain rfl rfl
     ·have oN:xP l I w=some i:=by
       by_cases e:xP l I w=some i
       ·exact e
       ·rw [if_neg e] at h;simp at h
      refine zb ?_;refine ⟨j+1,by omega,by omega,?_⟩;rw [fz];refine ar.cZ [⟨100,some 100,0,⟨0,.aj,68,4,[[.list 8 (l.map aq.fv),.own 101 0 0 m,.omap 102 0,.own 103 0 0 n]]⟩⟩,⟨101,some 101,0,⟨0,.own,3,1,I.map yx⟩⟩,⟨102,some 102,0,⟨0,.aC,65,0,Zq l n⟩⟩,⟨103,some 103,0,⟨0,.aj,64,1,(List.range n).map fun q=>[gM I q]⟩⟩] 1000 n w (some 150) (fun _=>0) (fI l I (Y++[i])) rfl (by unfold zm;omega) rfl zc zc zc (by repeat (first|exact aT.nil|exact aT.dH rfl (by unfold zm;omega)|refine aT.cons rfl ?_)) ?_ ?_ zf
      ·intro q hq;by_cases bX:q=w
       ·subst bX;rw [if_pos rfl];refine .inr ⟨150,rfl,?_,?_⟩
        ·unfold fI;rw [if_pos wI,Ie,if_neg (show ¬ (YF l i=some q∧xP l I q≠some i) from fun e=>e.2 oN),zT];rfl
        ·unfold fI;rw [if_pos wI];rfl
       ·rw [if_neg bX];refine .inr ⟨_,rfl,(yb (C:=[(100,_),(101,_),(102,_),(103,_),(150,_)]) rfl zd hq).trans ?_,?_⟩
        ·rw [if_neg bX];unfold fI;rw [Ie,if_neg (show ¬ (YF l i=some q∧xP l I q≠some i) from fun e=>bX (by have:=e.1;rw [uy] at this;injection this with this;exact this.symm)),zT];split <;> rfl
        ·unfold fI;split <;> rfl
      ·refine (.eA rfl (eU.cons (.cons (.plain rfl rfl) (.cons (.own (.tail _ (.head _)) rfl rfl rfl) (.cons (.omap (.tail _ (.tail _ (.head _))) rfl) (.cons (.own (.tail _ (.tail _ (.tail _ (.head _)))) rfl rfl rfl) .nil)))) rfl eU.nil) (.bL rfl zd rfl (.bL rfl zd rfl (.cP rfl (gp.of fun q hq=>?_) .nil))));have cH:=xv (B:=1000) (s:=fun q=>if q=w then some 150 else some (1000+q)) (vo:=fun _=>0) (f:=fI l I (Y++[i])) hq;unfold fI at cH;unfold gM;by_cases cJ:q∈I
       ·by_cases bX:q=w
        ·rw [if_pos bX,if_pos cJ] at cH;rw [if_pos bX,if_pos cJ];exact .omap (zX _ cH) rfl
        ·rw [if_neg bX,if_pos cJ] at cH;rw [if_neg bX,if_pos cJ];exact .omap (zX _ cH) rfl
       ·rw [if_neg (fun e=>cJ (by rw [e];exact wI)),if_neg cJ];exact .plain rfl rfl
    ·refine ar.cZ [⟨100,some 100,0,⟨0,.aj,68,4,[[.list 8 (l.map aq.fv),.own 101 0 0 m,.omap 102 0,.own 103 0 0 n]]⟩⟩,⟨101,some 101,0,⟨0,.own,3,1,I.map yx⟩⟩,⟨102,some 102,0,⟨0,.aC,65,0,Zq l n⟩⟩,⟨103,some 103,0,⟨0,.aj,64,1,(List.range n).map fun q=>[if q=w then .omap 150 0 else gM I q]⟩⟩,⟨150,some (1000+w),0,⟨0,.aC,64,0,e4 l I Y w⟩⟩] 1000 n w none (fun _=>0) (fun q=>if q=w then (⟨0,.own,64,1,[]⟩:zE) else fI l I Y q) rfl (by unfold zm;omega) rfl zc DO DO (by repeat (first|exact aT.nil|exact aT.dH rfl (by unfold zm;omega)|refine aT.cons rfl ?_)) ?_ ?_ zf
     ·intro q hq;by_cases bX:q=w
      ·rw [if_pos bX,if_pos bX];exact .inl ⟨rfl,rfl,rfl⟩
      ·rw [if_neg bX,if_neg bX];refine .inr ⟨_,rfl,(yb (C:=[(100,_),(101,_),(102,_),(103,_)]) rfl zd hq).trans (by unfold fI;split <;> rfl),?_⟩;unfold fI;split <;> rfl
     ·refine (.eA rfl (eU.cons (.cons (.plain rfl rfl) (.cons (.own (.tail _ (.head _)) rfl rfl rfl) (.cons (.omap (.tail _ (.tail _ (.head _))) rfl) (.cons (.own (.tail _ (.tail _ (.tail _ (.head _)))) rfl rfl rfl) .nil)))) rfl eU.nil) (.bL rfl zd rfl (.bL rfl zd rfl (.cP rfl (gp.of fun q hq=>?_) (.bL ((yb (C:=[(100,_),(101,_),(102,_),(103,_)]) rfl zd pP).trans (by unfold fI;rw [if_pos wI])) zd rfl .nil)))));have cH:=xv (B:=1000) (s:=fun q=>if q=w then none else some (1000+q)) (vo:=fun _=>0) (f:=(fun q=>if q=w then (⟨0,.own,64,1,[]⟩:zE) else fI l I Y q)) hq;by_cases bX:q=w
      ·subst bX;unfold gM;rw [if_pos rfl,if_pos wI];exact .omap (.tail _ (.tail _ (.tail _ (.tail _ (.head _))))) rfl
      ·rw [if_neg bX,if_neg bX] at cH;rw [if_neg bX];unfold gM;by_cases cJ:q∈I
       ·rw [if_pos cJ];refine .omap (zX _ cH) ?_;unfold fI;split <;> rfl
       ·rw [if_neg cJ];exact .plain rfl rfl
  ·have kr:j=m:=by simp at h;omega
   subst kr;clear h;rw [show I.take j=I by rw [← hm,yy]];refine zb ?_;have AI:R=.ax 4 [[.list 8 (l.map aq.fv),.list 1 (I.map yx),.smap (Zq l n),En l I I n]] 0 0:=by
    rw [← hR];unfold qk;rw [hn,hI]
   refine FW.le (s':=⟨[(2,R)],[]⟩) (FW.ret ⟨.inl rfl,.sh (.cons (.tmp 2 rfl (by rw [AI];rfl)) .nil) rfl (by rw [AI];rfl)⟩) ?_;refine ar.freeze (aT.gh (by repeat (first|exact aT.nil|exact aT.dH rfl (by unfold zm;omega)|refine aT.cons rfl ?_))) (.cons rfl ?_ (by rw [AI];rfl) .nil);rw [AI];refine Ui.Hb rfl rfl (.cons (.plain rfl) rfl (.cons (Ui.BO rfl (by simpa using hm) (fun e he=>by obtain ⟨q,_,rfl⟩:=zi.1 he;rfl) (fun g hg=>by obtain ⟨e,he,hg⟩:=yJ.1 hg;obtain ⟨q,_,rfl⟩:=zi.1 he;rw [zq.1 hg];rfl)) rfl (.cons (Ui.mM rfl) rfl (.cons ?_ rfl .nil))));refine Ui.Ha rfl fun q hq=>?_;unfold gM IV;by_cases cJ:q∈I
   ·rw [if_pos cJ,if_pos cJ];exact ⟨Ui.mM ((yb (C:=[(100,_),(101,_),(102,_),(103,_)]) rfl zd hq).trans (by unfold fI;rw [if_pos cJ])),rfl⟩
   ·rw [if_neg cJ,if_neg cJ];exact ⟨.plain rfl,rfl⟩
section
variable {N:Nat} {w0 w:World} {J:JJ} {s:ah} {a:Act} {β:Nat→Option Nat}
def JJ.J5 (J:JJ) (D:Nat) (o:Obj):JJ:={ J with K:=fun b=>J.K b∨b=D,h0:=fun b=>if b=D then some o else J.h0 b }
theorem FR.J5 (h:FR N w0 J s a w β) {D:Nat} {o:Obj} (hI:aF J w β s D) (bl:∀ id,(s.ob id).ao≠.dead→(s.ob id).ao.cT=true) (hD:w.heap[D]? = some o):FR N w0 (J.J5 D o) s a w β:=
 { size:=h.size,defers:=h.defers,bB:=h.bB,bP:=fun b hb=>(h.bP b hb).imp id .inl,slot:=h.slot,bE:=h.bE,obj:=h.obj,inj:=h.inj,
   kept:=fun b hb=>by
    show _∧_∧_=if b=D then some o else J.h0 b
    by_cases e:b=D
    ·subst e;rw [if_pos rfl];exact ⟨hI.1,fun id hl=>hI.2.2 id (bl id hl),hD⟩
    ·rw [if_neg e];rcases hb with hb|hb
     ·exact h.kept b hb
     ·exact absurd hb e
   gh:=h.gh }
theorem FR.wS {J' : JJ} (h:FR N w0 J' s a w β) (e9:∀ b,J'.ok b→J.ok b) (hf:∀ b,w0.heap.size≤b→J b∨J.K b) (hK:∀ b,J.K b→J'.K b∧J'.h0 b=J.h0 b) (Ba:J'.gh=J.gh) (lB:J'.ds=J.ds):FR N w0 J s a w β:=by
 have hI:∀ b,aF J' w β s b→aF J w β s b∧w.heap[b]? = w.heap[b]?:=fun b hb=>⟨⟨hb.1,e9 b hb.2.1,hb.2.2⟩,rfl⟩
 have T:∀ v f,VR w (aF J' w β s) β s v f→VR w (aF J w β s) β s v f:=fun v f hv=>
  hv.mono hI fun id ae _ h1 h2=>⟨h1,h2,rfl,rfl,rfl,fun v o n hv=>hv⟩
 exact { size:=h.size,defers:=h.defers.trans lB,bB:=h.bB,bP:=hf,slot:=fun d=>T _ _ (h.slot d),bE:=h.bE,
         obj:=fun id hl=>(h.obj id hl).mono hI (fun b hb=>rfl) (fun v f hv _=>T v f hv) (fun _=>zg _),inj:=h.inj,
         kept:=fun b hb=>by obtain ⟨h1,h2⟩:=hK b hb;rw [← h2];exact h.kept b h1,
         gh:=fun v f hg=>by rw [← Ba] at hg;exact ⟨T v f (h.gh v f hg).1,(h.gh v f hg).2⟩ }
theorem JJ.mJ (J:JJ) (D:Nat) (o o' : Obj):(J.lay D o).fN D o'=J.lay D o':=by
 unfold JJ.fN JJ.lay;congr 1;funext b;dsimp only;by_cases e:b=D <;> simp [e]
end
theorem zr9 {l:List α} (hn:l.Nodup) {x:α} (h1:l[i]? = some x) (h2:l[j]? = some x):i=j:=by
 have hp:=Zw.1 hn;obtain ⟨hi,e1⟩:=yq.1 h1;obtain ⟨hj,e2⟩:=yq.1 h2;rcases Yw i j with h|h|h
 ·exact absurd (e1.trans e2.symm) (hp i j hi hj h)
 ·exact h
 ·exact absurd (e2.trans e1.symm) (hp j i hj hi h)
section
variable {c:Ctx} {Q:Exit→ah→Prop}
theorem FW.mapRange {r5 r6 r7 B B2 dm di dn de dy T e Pg Ds:Nat} {x:Operand} {p4 p5:String} {Mx CM:Array Edge}
  (hx:(⟨t,ob⟩:ah).ev x=.smap es) (hT:(c.ty T).k=.map k e) (bl:∀ id,((⟨t,ob⟩:ah).ob id).ao≠.dead→((⟨t,ob⟩:ah).ob id).ao.cT=true)
  (TO:∀ row∈es,∀ kf,row.head? = some kf→∀ (w:World) (I:Nat→Prop),Rd w I kf.val kf) (cu:∀ row∈es,FV.flat.dY row=true)
  (hd:dm<c.N∧di<c.N∧dn<c.N∧de<c.N∧dy<c.N) (aN:di≠dn∧di≠de∧di≠dy) (inv:List Nat→ah) (h0:ar ⟨(di,.undef)::(dm,.smap es)::t,ob⟩ (inv []))
  (oL:jN (.seq (.region r7 (⟨some dy,.entry (.tmp di),Ds,p5,CM,none⟩::kz).toArray false) body) di=true)
  (round:∀ (is:List Nat) (j:Nat) (row:List FV),is.Nodup→(∀ i∈is,i<es.length)→j∉is→es[j]? = some row→
   zt c (⟨some dy,.entry (.tmp di),Ds,p5,CM,none⟩::kz).toArray kz ⟨(dy,.bd row)::(de,.bool true)::(dn,.undef)::(inv is).t,(inv is).o⟩ (FW c body (fun e s'=>e=.normal∧ar s' (inv (is++[j])))))
  (done:∀ is:List Nat,is.Nodup→(∀ i,i∈is↔i<es.length)→Q .normal ⟨(de,.bool false)::(dn,.undef)::(inv is).t,(inv is).o⟩) :
  FW c (.seq (.region r5 #[⟨some dm,.move x,nj,p1,m6,none⟩,⟨some di,.range T (.tmp dm),lJ,p2,lW,none⟩] false)
   (.block B (.loop (.seq (.region r6 #[⟨some dn,.next (.tmp di) false,Hk,p3,I5,none⟩,⟨some de,.extract (.tmp dn) 0,Pg,p4,Mx,none⟩] false)
    (.seq (.cond (.tmp de) .skip (.exit B)) (.block B2 (.seq (.region r7 (⟨some dy,.entry (.tmp di),Ds,p5,CM,none⟩::kz).toArray false) body))))))) Q ⟨t,ob⟩:=by
 intro w0 J a w β hF;obtain ⟨d,ii,z,ht⟩:=c.get hT zc;have fR:=ht.k;rw [hT] at fR;obtain rfl:=Ca fR;obtain ⟨b,clock,aw,ea,hM⟩:=hF.Pe hx;have jt:aF J w β ⟨t,ob⟩ b:=by
  have hv:=VR.rd (by have:=hF.ev x;rwa [hx] at this) rfl;rw [ea] at hv;generalize he:Value.map (some b)=v at hv;cases hv with
  | smap b' cA cB ba hI hb aO hl hk hr => injection he with he; injection he with he; subst he; exact hI
 obtain ⟨QQ,E7⟩:∃ QQ:Exit→Act→World→Prop,QQ=fun e a' w'=>∃ s' aJ,Q e s'∧FR c.N w0 J s' a' w' aJ:=⟨_,rfl⟩
 rw [← E7];obtain ⟨sg,Oh⟩:∃ sg:Array Oper,sg=(⟨some dy,.entry (.tmp di),Ds,p5,CM,none⟩::kz).toArray:=⟨_,rfl⟩
 rw [← Oh] at oL round ⊢;have dw:VR w (aF J w β ⟨t,ob⟩) β ⟨t,ob⟩ (.map (some b)) (.smap es):=by have:=hF.ev x;rwa [hx,ea] at this
 have eE:=hF.put hd.1 dw (fun id ae hm=>by simp [FV.hands] at hm);obtain ⟨a1,m8⟩:∃ a1,a1=a.put (some dm) (.map (some b)):=⟨_,rfl⟩
 rw [← m8] at eE;have EJ:a1.eval (.tmp dm)=.map (some b):=by
  show a1.tmps.getD dm undef=_;rw [m8,xI _ _ _ _ (hF.size▸hd.1),if_pos rfl]
 obtain ⟨r,Ow⟩:∃ r,w.heap.size=r:=⟨_,rfl⟩
 obtain ⟨J2,Az⟩:∃ J2:Obj→JJ,J2=fun o=>(J.J5 b (.map aw clock)).lay r o:=⟨_,rfl⟩
 have Nn:b≠r:=by have:=jt.1;omega
 have OG:w0.heap.size≤r:=by have:=hF.bB.size;omega
 have ig:=(eE.J5 (D:=b) (o:=.map aw clock) ⟨jt.1,jt.2.1,jt.2.2⟩ bl hM.hb).uO (.mapIter (some b) clock #[] clock);rw [Ow] at ig;have ig:FR c.N w0 (J2 (.mapIter (some b) clock #[] clock)) ⟨(dm,.smap es)::t,ob⟩ a1 (w.alloc (.mapIter (some b) clock #[] clock)) β:=by rw [Az];exact ig
 have jS:=ig.put (f:=.undef) (v:=.pointer (some ⟨r,0,none⟩)) hd.2.1 (VR.aX (.undef _) rfl) (fun id ae hm=>by simp [FV.hands] at hm);have rR:(Instr.range T (.map (some b))).run c.P w=.ok (.pointer (some ⟨r,0,none⟩)) (w.alloc (.mapIter (some b) clock #[] clock)):=by rw [← Ow];exact run_range_map w T k e b aw clock ht.u hM.hb
 have jK:∀ o,(J2 o).K r∧(J2 o).K b∧¬ (J2 o).ok r∧(J2 o).h0 r=some o∧(J2 o).h0 b=some (.map aw clock):=fun o=>by
  rw [Az];refine ⟨.inr rfl,.inl (.inr rfl),fun h=>h.2 rfl,?_,?_⟩
  ·show (if r=r then _ else _)=_;rw [if_pos rfl]
  ·show (if b=r then _ else if b=b then _ else _)=_;rw [if_neg Nn,if_pos rfl]
 have G2:∀ o o',(J2 o).fN r o'=J2 o':=fun o o'=>by rw [Az];exact JJ.mJ ..
 have BJ:∀ {s:ah} {o:Obj} {a:Act} {w' : World} {β:Nat→Option Nat},FR c.N w0 (J2 o) s a w' β→FR c.N w0 J s a w' β:=fun {s o a w' β} h=>h.wS (fun b hb=>by rw [Az] at hb;exact hb.1) hF.bP (fun b' cb=>by
   rw [Az];refine ⟨.inl (.inl cb),?_⟩;obtain ⟨k1,k2,k3⟩:=hF.kept b' cb;show (if b'=r then _ else if b'=b then _ else _)=_;rw [if_neg za];by_cases e:b'=b
   ·subst e;rw [if_pos rfl,← k3,hM.hb]
   ·rw [if_neg e]) (by rw [Az];rfl) (by rw [Az];rfl)
 have hold:∀ x∈aw.toList,x.born<clock:=hM.st.1;unfold fQ;unfold fQ;dsimp only;refine wpList_plain rfl fun K1 AA=>?_;unfold Oper.wp;simp only [execOp,ea];refine AA _ _ ?_;rw [← m8];refine wpList_plain rfl fun K2 AB=>?_;unfold Oper.wp;simp only [execOp,EJ,xy,rR,Result.andThen];refine AB _ _ ?_;obtain ⟨Mu,jS⟩:=h0 _ _ _ _ _ _ jS;have mg:(a1.put (some di) (.pointer (some ⟨r,0,none⟩))).tmps.getD di undef=.pointer (some ⟨r,0,none⟩):=by
  rw [xI _ _ _ _ (eE.size▸hd.2.1),if_pos rfl]
 revert jS mg;generalize a1.put (some di) (.pointer (some ⟨r,0,none⟩))=a3;generalize w.alloc (.mapIter (some b) clock #[] clock)=w3;intro jS mg;show fQ c.P (.loop _) (Exit.inBlock B QQ) a3 w3;obtain ⟨II,MS⟩:∃ II:Nat→Act→World→Prop,II=fun n a w=>∃ (is:List Nat) (seen:Array Nat) (cc:Nat) (β:Nat→Option Nat),n=(leftOf aw seen).size∧FR c.N w0 (J2 (.mapIter (some b) clock seen cc)) (inv is) a w β∧
   a.tmps.getD di undef=.pointer (some ⟨r,0,none⟩)∧is.Nodup∧(∀ i∈is,i<es.length)∧(∀ j x,aw[j]? = some x→(seen.contains x.born=true↔j∈is))∧clock≤cc:=⟨_,rfl⟩
 refine ⟨II,(leftOf aw #[]).size,?_,?_⟩
 ·rw [MS];exact ⟨[],#[],clock,Mu,rfl,jS,mg,Ul,fun i hi=>(by cases hi),fun j x _=>by simp,zg _⟩
 clear jS mg a3 w3 Mu;intro n a w aP;rw [MS] at aP;obtain ⟨is,seen,cc,β,rfl,hF,vP,dP,aA,rS,AR⟩:=aP;have hhr:w.heap[r]? = some (.mapIter (some b) clock seen cc):=((hF.kept r (jK _).1).2.2).trans (jK _).2.2.2.1;have hhb:w.heap[b]? = some (.map aw clock):=((hF.kept b (jK _).2.1).2.2).trans (jK _).2.2.2.2;have SU:a.eval (.tmp di)=.pointer (some ⟨r,0,none⟩):=vP;unfold fQ;unfold fQ;dsimp only;refine wpList_plain rfl fun K3 Jn=>?_;unfold Oper.wp;rcases run_next_at (P:=c.P) w Hk r b clock cc seen aw clock hhr hhb hold AR with ⟨h1,bg⟩|⟨e1,Tx,w1,hal,bg⟩
 ·simp only [execOp,SU,xy,bg,Result.andThen];refine Jn _ _ ?_;have nF:=hF.put (f:=.undef) (v:=.tuple #[.bool false]) hd.2.2.1 (VR.aX (.undef _) rfl) (fun id ae hm=>by simp [FV.hands] at hm);have rb:(a.put (some dn) (.tuple #[.bool false])).eval (.tmp dn)=.tuple #[.bool false]:=by
   show (a.put _ _).tmps.getD dn undef=_;rw [xI _ _ _ _ (hF.size▸hd.2.2.1),if_pos rfl]
  show wpList _ _ _ _ (a.put (some dn) (.tuple #[.bool false])) w;revert nF rb;generalize a.put (some dn) (.tuple #[.bool false])=aa;intro nF rb;refine wpList_plain rfl fun K4 EY=>?_;unfold Oper.wp;simp [execOp,rb,Instr.extract];refine EY _ _ ?_;have uk:=nF.put (f:=.bool false) (v:=.bool false) hd.2.2.2.1 (VR.aX (.bool _) rfl) (fun id ae hm=>by simp [FV.hands] at hm);have Aq:(aa.put (some de) (.bool false)).eval (.tmp de)=.bool false:=by
   show (aa.put _ _).tmps.getD de undef=_;rw [xI _ _ _ _ (nF.size▸hd.2.2.2.1),if_pos rfl]
  refine ⟨false,Aq,(fun e=>by cases e),fun _=>?_⟩;show (if B=B then QQ .normal _ _ else _);rw [if_pos rfl,E7];refine ⟨_,β,done is dP (fun i=>⟨aA i,fun hi=>?_⟩),BJ uk⟩;have iE:i<aw.size:=by rw [hM.sz];exact hi
  exact (rS i aw[i] (by simp [iE])).1 (all_seen aw seen h1 _ zc)
 ·simp only [execOp,SU,xy,bg,Result.andThen];refine Jn _ _ ?_;have hFw:FR c.N w0 (J2 (.mapIter (some b) clock seen cc)) (inv is) a w1 β:=by
   rcases hal with rfl|rfl
   ·exact hF
   ·exact hF.grow (zwX (Zc _ _))
  have CQ:=hFw.pX (D:=r) (jK _).1 (jK _).2.2.1 OG (.mapIter (some b) clock (seen.push e1.born) clock);rw [G2] at CQ;have CQ:FR c.N w0 (J2 (.mapIter (some b) clock (seen.push e1.born) clock)) (inv is) a (ChangeMaps.setBlock w1 r (.mapIter (some b) clock (seen.push e1.born) clock)) β:=CQ;revert CQ;generalize ChangeMaps.setBlock w1 r (.mapIter (some b) clock (seen.push e1.born) clock)=w4;intro CQ;obtain ⟨Bj,oM⟩:=mem_left Tx;obtain ⟨j,oK⟩:=B4 Bj;have hj:aw[j]? = some e1:=by simpa using oK
  have gj:j∉is:=fun hi=>by have:=(rS j e1 hj).2 hi;rw [oM] at this;cases this
  obtain ⟨kf,vf,aj,eR,FL,hve⟩:=hM.row hj;have cN:j<es.length:=(yq.1 aj).1;have OC:[kf,vf]∈es:=zG aj;have hvf:vf.flat=true:=FV.cQ (cu _ OC) 1 vf rfl;have cG:kf.flat=true:=FV.cQ (cu _ OC) 0 kf rfl;have nF:=CQ.put (f:=.undef) (v:=.tuple #[.bool true,e1.key,e1.val]) hd.2.2.1 (VR.aX (.undef _) rfl) (fun id ae hm=>by simp [FV.hands] at hm);have rb:(a.put (some dn) (.tuple #[.bool true,e1.key,e1.val])).eval (.tmp dn)=.tuple #[.bool true,e1.key,e1.val]:=by
   show (a.put _ _).tmps.getD dn undef=_;rw [xI _ _ _ _ (hF.size▸hd.2.2.1),if_pos rfl]
  have O3:(a.put (some dn) (.tuple #[.bool true,e1.key,e1.val])).tmps.getD di undef=.pointer (some ⟨r,0,none⟩):=by
   rw [xI _ _ _ _ (hF.size▸hd.2.2.1),if_neg (fun e=>aN.1 e.symm)];exact vP
  show wpList _ _ _ _ (a.put (some dn) (.tuple #[.bool true,e1.key,e1.val])) w4;revert nF rb O3;generalize a.put (some dn) (.tuple #[.bool true,e1.key,e1.val])=aa;intro nF rb O3;refine wpList_plain rfl fun K4 EY=>?_;unfold Oper.wp;simp [execOp,rb,Instr.extract];refine EY _ _ ?_;have uk:=nF.put (f:=.bool true) (v:=.bool true) hd.2.2.2.1 (VR.aX (.bool _) rfl) (fun id ae hm=>by simp [FV.hands] at hm);have Aq:(aa.put (some de) (.bool true)).eval (.tmp de)=.bool true:=by
   show (aa.put _ _).tmps.getD de undef=_;rw [xI _ _ _ _ (nF.size▸hd.2.2.2.1),if_pos rfl]
  have J0:(aa.put (some de) (.bool true)).tmps.getD di undef=.pointer (some ⟨r,0,none⟩):=by
   rw [xI _ _ _ _ (nF.size▸hd.2.2.2.1),if_neg (fun e=>aN.2.1 e.symm)];exact O3
  show fQ c.P (.seq (.cond (.tmp de) .skip (.exit B)) _) _ (aa.put (some de) (.bool true)) w4;revert uk Aq J0;generalize aa.put (some de) (.bool true)=ab;intro uk Aq J0;refine ⟨true,Aq,fun _=>?_,(fun e=>by cases e)⟩;have Fk:fQ c.P (.seq (.region r7 sg false) body) (fun e a' w'=>∃ s' aJ,(e=.normal∧ar s' (inv (is++[j])))∧FR c.N w0 (J2 (.mapIter (some b) clock (seen.push e1.born) clock)) s' a' w' aJ) ab w4:=by
   have Ox:w4.heap[r]? = some (.mapIter (some b) clock (seen.push e1.born) clock):=((uk.kept r (jK _).1).2.2).trans (jK _).2.2.2.1;have CY:w4.heap[b]? = some (.map aw clock):=((uk.kept b (jK _).2.1).2.2).trans (jK _).2.2.2.2;have hen:=run_entry_at (P:=c.P) w4 r b clock seen aw clock e1 Ox CY Bj hM.st.2.1;have MB:ab.eval (.tmp di)=.pointer (some ⟨r,0,none⟩):=J0;unfold fQ;unfold fQ;rw [Oh];dsimp only;rw [← Oh];refine wpList_plain rfl fun K5 hK5=>?_;unfold Oper.wp;simp only [execOp,MB,xy,hen,Result.andThen];refine hK5 _ _ ?_;have gC:Rd w4 (aF (J2 (.mapIter (some b) clock (seen.push e1.born) clock)) w4 β ⟨(de,.bool true)::(dn,.undef)::(inv is).t,(inv is).o⟩) (.tuple #[e1.key,e1.val]) (.bd [kf,vf]):=by
    have:=aS.cons (show Rd w4 (aF (J2 (.mapIter (some b) clock (seen.push e1.born) clock)) w4 β ⟨(de,.bool true)::(dn,.undef)::(inv is).t,(inv is).o⟩) e1.key kf by rw [FL];exact TO _ OC kf rfl _ _) (aS.cons (hve.flat hvf _ _) aS.nil);exact .bd [e1.key,e1.val] _ this.1 this.2
   have hFe:=uk.put (f:=.bd [kf,vf]) (v:=.tuple #[e1.key,e1.val]) hd.2.2.2.2 (VR.aX gC rfl) (fun id ae hm=>(FV.aV rfl hm).elim);exact round is j [kf,vf] dP aA gj aj (fc _) w0 _ _ w4 β (fun s a w β hq hf=>hq w0 _ a w β hf) hFe
  show fQ c.P (.seq (.region r7 sg false) body) (Exit.inBlock B2 (Exit.then (fun a w=>∃ m,m<(leftOf aw seen).size∧II m a w) (Exit.inBlock B QQ))) ab w4;refine xS (c:=.seq (.region r7 sg false) body) (Xv Fk) ?_;rintro e a' w' ⟨⟨s',aJ,⟨rfl,hle⟩,hf⟩,hk⟩;obtain ⟨jL,NB⟩:=hle _ _ _ _ _ _ hf;show ∃ m,m<_∧II m a' w';rw [MS];refine ⟨_,left_shrinks aw seen e1 Tx,is++[j],seen.push e1.born,clock,jL,rfl,NB,(hk di oL).trans J0,?_,?_,?_,zg _⟩
  ·exact xX.2 ⟨dP,by simp,fun x hx y hy=>by rw [zq.1 hy];exact fun e=>gj (e▸hx)⟩
  ·intro i hi;rcases zC.1 hi with hi|hi
   ·exact aA i hi
   ·rw [zq.1 hi];exact cN
  ·intro j' x hx;rw [contains_push,xB,rS j' x hx,zC,zq];refine or_congr_right ?_;constructor
   ·intro h2;have h2:x.born=e1.born:=by simpa using h2
    exact zr9 hM.st.2.1 (show (aw.toList.map (·.born))[j']? = some e1.born by rw [ye,show aw.toList[j']? = some x by simpa using hx,← h2];rfl) (show (aw.toList.map (·.born))[j]? = some e1.born by rw [ye,oK];rfl)
   ·rintro rfl;rw [hj] at hx;injection hx with hx
    rw [hx];simp
theorem FW.mL {r5 r6 r7 B B2 dm di dn de dy T e Pg Ds:Nat} {x:Operand} {p4 p5:String} {Mx CM:Array Edge}
  (hx:(⟨t,ob⟩:ah).ev x=.bR) (hT:(c.ty T).k=.map k e) (hd:dm<c.N∧di<c.N∧dn<c.N∧de<c.N)
  (done:Q .normal ⟨(de,.bool false)::(dn,.undef)::(di,.undef)::(dm,.bR)::t,ob⟩) :
  FW c (.seq (.region r5 #[⟨some dm,.move x,nj,p1,m6,none⟩,⟨some di,.range T (.tmp dm),lJ,p2,lW,none⟩] false)
   (.block B (.loop (.seq (.region r6 #[⟨some dn,.next (.tmp di) false,Hk,p3,I5,none⟩,⟨some de,.extract (.tmp dn) 0,Pg,p4,Mx,none⟩] false)
    (.seq (.cond (.tmp de) .skip (.exit B)) (.block B2 (.seq (.region r7 (⟨some dy,.entry (.tmp di),Ds,p5,CM,none⟩::kz).toArray false) body))))))) Q ⟨t,ob⟩:=by
 intro w0 J a w β hF;obtain ⟨d,ii,z,ht⟩:=c.get hT zc;have fR:=ht.k;rw [hT] at fR;obtain rfl:=Ca fR;have dw:VR w (aF J w β ⟨t,ob⟩) β ⟨t,ob⟩ (a.eval x) .bR:=by have:=hF.ev x;rwa [hx] at this
 have ea:a.eval x=.map none:=by
  have:=VR.rd dw rfl;generalize a.eval x=v at this;cases this;rfl
 obtain ⟨QQ,E7⟩:∃ QQ:Exit→Act→World→Prop,QQ=fun e a' w'=>∃ s' aJ,Q e s'∧FR c.N w0 J s' a' w' aJ:=⟨_,rfl⟩
 rw [← E7];rw [ea] at dw;have eE:=hF.put hd.1 dw (fun id ae hm=>by simp [FV.hands] at hm);obtain ⟨a1,m8⟩:∃ a1,a1=a.put (some dm) (.map none):=⟨_,rfl⟩
 rw [← m8] at eE;have EJ:a1.eval (.tmp dm)=.map none:=by
  show a1.tmps.getD dm undef=_;rw [m8,xI _ _ _ _ (hF.size▸hd.1),if_pos rfl]
 have ig:=eE.grow ((Zc w.heap.size w).alloc (zg _) (.mapIter none 0 #[] 0));have jS:=ig.put (f:=.undef) (v:=.pointer (some ⟨w.heap.size,0,none⟩)) hd.2.1 (VR.aX (.undef _) rfl) (fun id ae hm=>by simp [FV.hands] at hm);have rR:(Instr.range T (.map none)).run c.P w=.ok (.pointer (some ⟨w.heap.size,0,none⟩)) (w.alloc (.mapIter none 0 #[] 0)):=run_range_nilMap w T k e ht.u;unfold fQ;unfold fQ;dsimp only;refine wpList_plain rfl fun K1 AA=>?_;unfold Oper.wp;simp only [execOp,ea];refine AA _ _ ?_;rw [← m8];refine wpList_plain rfl fun K2 AB=>?_;unfold Oper.wp;simp only [execOp,EJ,xy,rR,Result.andThen];refine AB _ _ ?_;have mg:(a1.put (some di) (.pointer (some ⟨w.heap.size,0,none⟩))).eval (.tmp di)=.pointer (some ⟨w.heap.size,0,none⟩):=by
  show (a1.put _ _).tmps.getD di undef=_;rw [xI _ _ _ _ (eE.size▸hd.2.1),if_pos rfl]
 show fQ c.P (.loop _) (Exit.inBlock B QQ) (a1.put (some di) (.pointer (some ⟨w.heap.size,0,none⟩))) (w.alloc (.mapIter none 0 #[] 0));revert jS mg;generalize a1.put (some di) (.pointer (some ⟨w.heap.size,0,none⟩))=a3;intro jS mg;refine ⟨fun _ a' w'=>a'=a3∧w'=w.alloc (.mapIter none 0 #[] 0),0,⟨rfl,rfl⟩,?_⟩;rintro n a' w' ⟨rfl,rfl⟩;unfold fQ;unfold fQ;dsimp only;refine wpList_plain rfl fun K3 Jn=>?_;unfold Oper.wp;simp only [execOp,mg,xy,run_next_nilMap,Result.andThen];refine Jn _ _ ?_;have nF:=jS.put (f:=.undef) (v:=.tuple #[.bool false]) hd.2.2.1 (VR.aX (.undef _) rfl) (fun id ae hm=>by simp [FV.hands] at hm);have rb:(a'.put (some dn) (.tuple #[.bool false])).eval (.tmp dn)=.tuple #[.bool false]:=by
  show (a'.put _ _).tmps.getD dn undef=_;rw [xI _ _ _ _ (jS.size▸hd.2.2.1),if_pos rfl]
 show wpList _ _ _ _ (a'.put (some dn) (.tuple #[.bool false])) _;revert nF rb;generalize a'.put (some dn) (.tuple #[.bool false])=aa;intro nF rb;refine wpList_plain rfl fun K4 EY=>?_;unfold Oper.wp;simp [execOp,rb,Instr.extract];refine EY _ _ ?_;have uk:=nF.put (f:=.bool false) (v:=.bool false) hd.2.2.2 (VR.aX (.bool _) rfl) (fun id ae hm=>by simp [FV.hands] at hm);have Aq:(aa.put (some de) (.bool false)).eval (.tmp de)=.bool false:=by
  show (aa.put _ _).tmps.getD de undef=_;rw [xI _ _ _ _ (nF.size▸hd.2.2.2),if_pos rfl]
 refine ⟨false,Aq,(fun e=>by cases e),fun _=>?_⟩;show (if B=B then QQ .normal _ _ else _);rw [if_pos rfl,E7];exact ⟨_,β,done,uk⟩
end
def Yd (p:Nat×Nat):List FV:=[.int .i64 (p.1:Int),.int .i64 (p.2:Int)]
def YA:Option (List (Nat×Nat))→FV
 | some L => .smap (L.map Yd)
 | none => .bR
def Zr (K:Nat→Option (List (Nat×Nat))) (i:Nat):List (Nat×Nat):=(List.range i).flatMap fun a=>((K a).getD []).map fun p=>(a,p.1)
theorem Pm (K:Nat→Option (List (Nat×Nat))) (i:Nat):Zr K (i+1)=Zr K i++((K i).getD []).map fun p=>(i,p.1):=by
 unfold Zr;rw [yQ,DD];simp
theorem zqm {is:List Nat} (h:is.Nodup) (hm:∀ i,i∈is↔i<m):is.Perm (List.range m):=
 (List.perm_ext_iff_of_nodup h Wd).2 fun i=>(hm i).trans List.mem_range.symm
theorem zj2 {β:Type} [Inhabited α] (l:List α) (f:α→β):(List.range l.length).map (fun i=>f (nth l i))=l.map f:=by
 apply BZ
 ·simp
 ·intro i h1 h2;simp only [Xu,Ql];rw [ak (by simpa using h2)]
theorem ziJ {α:Type} [BEq α] [LawfulBEq α]:∀ {l m:List α},l.Nodup→(∀ x∈l,x∈m)→l.length≤m.length
 | [], m, _, _ => zp _
 | x :: l, m, hn, hs => by
  have h1:=yp.1 hn;have hx:=hs x zc;have hl:=Yt hx;have bm:0<m.length:=Xp hx;have:=ziJ (m:=m.erase x) h1.2 fun y hy=>(YO (fun e:y=x=>h1.1 (by rw [← e];exact hy))).2 (hs y (by simp [hy]));rw [yS];omega
theorem Kp {K:Nat→Option (List (Nat×Nat))}:∀ {i n:Nat},i≤n→(∀ a L,a<n→K a=some L→L.length≤2000)→(Zr K i).length≤2000 * i
 | 0, _, _, _ => zg _
 | i+1, n, h, hK => by
  rw [Pm,zN,zj];have h1:=Kp (i:=i) (n:=n) za hK;cases hk:K i with
  | none => simp; omega
  | some L => have := hK i L za hk; simp; omega
theorem zoE {t:List (Nat×FV)}:∀ {ob:List (Nat×zE)},(∀ p∈ob,p.2.ao.cT=true)→∀ id,((⟨t,ob⟩:ah).ob id).ao≠.dead→((⟨t,ob⟩:ah).ob id).ao.cT=true
 | [], _, id, h => absurd rfl h
 | (i, b) :: ob, hp, id, h => by
  have hh:(⟨t,(i,b)::ob⟩:ah).ob id=if i=id then b else (⟨t,ob⟩:ah).ob id:=zI ..
  rw [hh] at h ⊢;split
  ·exact hp (i,b) Yu
  ·rename_i e;rw [if_neg e] at h;exact zoE (fun p hq=>hp p (xW _ hq)) id h
theorem zlE {res:FV} {o:Nat→zE} (h:res.cl []=true):VK [] [] res o where
 bL k hk:=by cases hk
 new k hk:=by cases hk
 cl k hk:=by cases hk
 res:=h
def zxp (K:Nat→Option (List (Nat×Nat))) (n:Nat) (res:FV) (_:Nat→zE):Prop:=∃ P:List (Nat×Nat),P.Perm (Zr K n)∧res=.list 2 (P.map bZ)
theorem ziP (r1 r2 f1:FV) (K:Nat→Option (List (Nat×Nat))) (n:Nat) (hn:n≤1000) (hK:∀ i L,i<n→K i=some L→L.length≤2000∧∀ p∈L,p.1<1000) :
  xN Tryz.prog 25 [.ax 4 [[r1,f1,r2,.list 1 ((List.range n).map fun q=>[YA (K q)])]] 0 0] [] [] (zxp K n):=by
 refine xN.bH (c:=(fP Tryz.prog xp yF 31)) ⟨Tryz.func25,rfl,Tryz.ntmps25,by kernel_rfl⟩ xt (fun res o ⟨P,_,e⟩=>zlE (by rw [e];rfl)) ?_;change FW _ _ _ ⟨[(0,.ax 4 [[r1,f1,r2,.list 1 ((List.range n).map fun q=>[YA (K q)])]] 0 0)],[]⟩;refine zb ?_;rw [YN];refine FW.loop (fun x:Nat×List (Nat×Nat)=>⟨[(3,.own 100 0 0 x.2.length),(10,.list 1 ((List.range n).map fun q=>[YA (K q)])),(11,.int .i64 n),(12,.int .i64 x.1)],[(100,⟨0,.own,93,2,x.2.map bZ⟩)]⟩) (fun x=>x.1≤n∧x.2.Perm (Zr K x.1)) (fun x=>n - x.1) (0,[]) ⟨zp _,.refl _⟩ ?_ ?_
 ·exact (ar.cv [⟨100,none,0,⟨0,.own,93,2,[]⟩⟩] zh zf)
 rintro ⟨i,P⟩ ⟨hi,hP⟩;dsimp only at hi hP ⊢;refine zb ?_;refine FW.cond rfl (fun h=>?_) (fun h=>?_)
 ·have aA:i<n:=by simpa using h
  clear h;have aI:(List.map (fun q=>[YA (K q)]) (List.range n)).getD i []=[YA (K i)]:=by rw [yz,xR n i _ aA];rfl
  obtain ⟨C,hC⟩:∃ C,C=List.map (fun q=>[YA (K q)]) (List.range n):=⟨_,rfl⟩
  have iV:i<C.length:=by rw [hC];simpa using aA
  rw [← hC] at aI ⊢;have oQ:=Pm K i;refine zb ?_;cases hk:K i with
  | none =>
   rw [hk] at aI oQ;refine zt.ai (yX rfl rfl rfl iV aI rfl rfl) rfl rfl ?_;refine Ua ?_;change FW _ _ _ _;refine FW.mL rfl rfl zd ?_;refine zb ?_;refine ⟨(i+1,P),⟨by show i+1≤n;omega,by rw [oQ];simpa using hP⟩,by show n - (i+1)<n - i;omega,?_⟩;subst hC;exact (ar.cv [⟨100,some 100,0,⟨0,.own,93,2,P.map bZ⟩⟩] zh zf)
  | some L=>
   rw [hk] at aI oQ;refine zt.ai (yX rfl rfl rfl iV aI rfl rfl) rfl rfl ?_;refine Ua ?_;change FW _ _ _ _;refine FW.mapRange (inv:=fun is=>⟨[(3,.own 100 0 0 (P++is.map fun j=>(i,(nth L j).1)).length),(4,.int .i64 i),(10,.list 1 C),(11,.int .i64 n),(12,.int .i64 i)],[(100,⟨0,.own,93,2,(P++is.map fun j=>(i,(nth L j).1)).map bZ⟩)]⟩) rfl rfl ?_ ?_ ?_ zd zd ?_ zw ?_ ?_
   ·exact zoE (fun p hp=>by rw [zq.1 hp];rfl)
   ·intro row hr kf gl w I;obtain ⟨p,_,rfl⟩:=zi.1 hr;injection gl with gl
    subst gl;exact .int _ _
   ·intro row hr;obtain ⟨p,_,rfl⟩:=zi.1 hr;rfl
   ·simp only [List.map_nil,zT];exact (ar.cv [⟨100,some 100,0,⟨0,.own,93,2,P.map bZ⟩⟩] zh zf)
   ·intro is j row NM eZ gj aj;obtain ⟨cN,mC⟩:=yq.1 aj;have NO:j<L.length:=by simpa using cN
    have mC:row=Yd (nth L j):=by rw [← mC,Xu,ak NO]
    subst mC;obtain ⟨P',E6⟩:∃ P',(P++is.map fun j=>(i,(nth L j).1))=P':=⟨_,rfl⟩
    have oN:(P++(is++[j]).map fun j=>(i,(nth L j).1))=P'++[(i,(nth L j).1)]:=by rw [zF,← yV,E6];rfl
    have Th:P'.length≤2002000:=by
     rw [← E6,zN,zj,hP.length_eq];have h1:=Kp (K:=K) (i:=i) (n:=n) hi (fun a L ha hl=>(hK a L ha hl).1);have h2:=ziJ NM (m:=List.range L.length) (fun k gl=>zn.2 (by simpa using eZ k gl));have h3:=(hK i L aA hk).1;rw [YN] at h2;have:2000 * i≤2000 * 1000:=Nat.mul_le_mul_left _ za;omega
    rw [E6,oN];generalize nth L j=p;unfold Yd;refine zb ?_;refine ⟨rfl,?_⟩;rw [zF,show (P'++[(i,p.1)]).length=P'.length+1 by simp,show (P'.map bZ++[[FV.int .i64 (i:Int),.int .i64 (p.1:Int)]]).length=P'.length+1 by simp];exact (ar.cv [⟨100,some 28,0+1,⟨0,.own,93,2,P'.map bZ++[(i,p.1)].map bZ⟩⟩] zh zf)
   ·intro is dP cR;have Bp:(P++is.map fun j=>(i,(nth L j).1)).Perm (Zr K (i+1)):=by
     rw [oQ];refine hP.append ?_;have:=(zqm dP (m:=L.length) (fun k=>(cR k).trans zc)).map (fun j=>(i,(nth L j).1));rw [zj2 L (fun p=>(i,p.1))] at this;exact this
    dsimp only;obtain ⟨P',E6⟩:∃ P',(P++is.map fun j=>(i,(nth L j).1))=P':=⟨_,rfl⟩
    rw [E6] at Bp ⊢;refine zb ?_;refine ⟨(i+1,P'),⟨by show i+1≤n;omega,Bp⟩,by show n - (i+1)<n - i;omega,?_⟩;subst hC;exact (ar.cv [⟨100,some 100,0,⟨0,.own,93,2,P'.map bZ⟩⟩] zh zf)
 ·have aP:i=n:=by simp at h;omega
  subst aP;refine zb ?_;refine FW.le (s':=⟨[(2,.list 2 (P.map bZ))],[]⟩) (FW.ret ⟨.inl rfl,_,.tmp rfl rfl,P,hP,rfl⟩) ?_;exact (ar.share 2 rfl rfl zc).trans (ar.cv [] xu zf)
def iy (P:Program) (ops:Array Oper) (Q:Exit→Act→World→Prop) (l:List Nat) (a:Act) (w:World):Prop:=
 ∀ (b:Frame) (k:List Item) (cs:List Frame),∃ e a' w',Q e a' w'∧Arrives P (lone (b.at a (.inRegion ops l::k)) cs w) b k cs e a' w'
section
variable {P:Program} {ops:Array Oper} {Q:Exit→Act→World→Prop} {a:Act} {w:World} {i:Nat} {rest:List Nat} {o:Oper}
theorem iy.nil (h:Q .normal a w):iy P ops Q [] a w:=fun _ _ _=>⟨.normal,a,w,h,.one step_region_end⟩
theorem zhr (hg:o.guard=none):Region.wanted o (yielded ops a.tmps)=true:=by simp only [Region.wanted,hg]
theorem iy.plain (ho:ops[i]? = some o) (hg:o.guard=none) (hr:(execOp a.eval o).run P w=.ok (.value v) w') (h:iy P ops Q rest (a.put o.dst v) w'):iy P ops Q (i::rest) a w:=fun b k cs=>by
 have NH:=stepG_op (P:=P) (b:=b) (a:=a) (k:=k) (cs:=cs) (w:=w) (rest:=rest) ho (zhr hg);have pw:∀ v,(b.at a (.inRegion ops (i::rest)::k)).finish v=b.at (a.put o.dst v) (.inRegion ops rest::k):=by
  intro v;rw [Rm,ho];rfl
 obtain ⟨e,a',uX,hq,rj⟩:=h b k cs;refine ⟨e,a',uX,hq,.of_steps (.one (step_lone_go ?_)) rj⟩;rw [NH,← pw];simp [stepG.apply,hr]
theorem zkT {cases:Array CommCase} {lX:Bool} {shape:CommShape} (ho:ops[i]? = some o) (hg:o.guard=none) (hr:(execOp a.eval o).run P w=.ok (.comm cases lX shape) w') (b:Frame) (k:List Item) (cs:List Frame) :
  ∃ es,stepG P true (Conc.G (b.at a (.inRegion ops (i::rest)::k)) cs) w=.comm (Conc.G (b.at a (.inRegion ops (i::rest)::k)) cs) cases lX shape w' es:=by
 rw [Conc.stepG_oper ho (zhr hg)];simp [stepG.apply,hr,Conc.G,Frame.at,GStep.after]
theorem iy.send {x:Operand} {c cap s r:Nat} (ho:ops[i]? = some o) (hg:o.guard=none) (dK:o.op=.send x y) (hx:a.eval x=.chan (some c)) (hy:a.eval y=v) (hc:w.heap[c]? = some (.chan cap buf false s r tm)) (eI:buf.size<cap)
  (h:iy P ops Q rest (a.put o.dst undef) (w.setChan c cap (buf.push v) false (s+1) r tm)):iy P ops Q (i::rest) a w:=fun b k cs=>by
 have hr:(execOp a.eval o).run P w=.ok (.comm #[Conc.scase c v (.tuple #[])] true .send) w:=by simp [execOp,dK,hx,hy,Conc.scase]
 obtain ⟨es,aO⟩:=zkT (rest:=rest) ho hg hr b k cs;have bT:=Conc.step_lone_send_room aO hc eI;rw [Rm,ho] at bT;obtain ⟨e,a',uX,hq,rj⟩:=h b k cs;exact ⟨e,a',uX,hq,.of_steps (.one bT) rj⟩
theorem iy.recv {T:Nat} {x:Operand} {c cap s r e:Nat} {closed:Bool} {z:Value} (ho:ops[i]? = some o) (hg:o.guard=none) (dK:o.op=.recv T x false) (hT:P.underlying T=some (.chan dir e)) (hz:(zeroValue e).run P w=.ok z w) (hx:a.eval x=.chan (some c))
  (hc:w.heap[c]? = some (.chan cap buf closed s r tm)) (rU:0<buf.size) (h:iy P ops Q rest (a.put o.dst (buf.getD 0 undef)) (w.setChan c cap (buf.extract 1 buf.size) closed s (r+1) tm)):iy P ops Q (i::rest) a w:=fun b k cs=>by
 have hr:(execOp a.eval o).run P w=.ok (.comm #[Conc.rcase c z] true (.recv false)) w:=by simp [execOp,dK,hx,Conc.rcase,run_underlying hT,hz,Result.andThen]
 obtain ⟨es,aO⟩:=zkT (rest:=rest) ho hg hr b k cs;have bT:=Conc.step_lone_recv_buf false aO hc rU;rw [Rm,ho] at bT;obtain ⟨e,a',uX,hq,rj⟩:=h b k cs;exact ⟨e,a',uX,hq,.of_steps (.one bT) rj⟩
theorem zoS {id:Nat} (h:iy P ops Q (List.range ops.size) a w):(Code.region id ops false).wp P Q a w:=fun b k cs=>
 let ⟨e,a',w',q,r⟩:=h b k cs
 ⟨e,a',w',q,.of_steps (.one step_region) r⟩
end
structure Ch where
 d:Nat
 dD:Nat
 cap:Nat
def Ch.obj (h:Ch) (q:List Int) (s r:Nat):Obj:=.chan h.cap (q.map (Value.int .i64)).toArray false s r false
def vG (c:Ctx) (w0:World) (J:JJ) (h:Ch) (q:List Int) (s:ah) (a:Act) (w:World):Prop:=
 ∃ β sN rN,FR c.N w0 (J.lay h.dD (h.obj q sN rN)) s a w β∧a.tmps.getD h.d undef=.chan (some h.dD)∧w0.heap.size≤h.dD
def CW (c:Ctx) (w0:World) (J:JJ) (h:Ch) (code:Code) (Q:Exit→ah→List Int→Prop) (s:ah) (q:List Int):Prop:=
 ∀ (a:Act) (w:World),vG c w0 J h q s a w→code.wp c.P (fun e a' w'=>∃ s' q',Q e s' q'∧vG c w0 J h q' s' a' w') a w
def zxG (next:ah→List Int→Prop) (Q:Exit→ah→List Int→Prop):Exit→ah→List Int→Prop
 | .normal, s, q => next s q
 | e, s, q => Q e s q
def zvp (id:Nat) (Q:Exit→ah→List Int→Prop):Exit→ah→List Int→Prop
 | .exit aL, s, q => if aL=id then Q .normal s q else Q (.exit aL) s q
 | e, s, q => Q e s q
section
variable {c:Ctx} {w0:World} {J:JJ} {h:Ch} {Q:Exit→ah→List Int→Prop} {s:ah} {q:List Int}
theorem CW.of (hn:jN code h.d=true) (hf:FW c code (fun e s'=>Q e s' q) s):CW c w0 J h code Q s q:=by
 rintro a w ⟨β,sN,rN,hF,hd,h0⟩;refine wp_mono (Uz c.mixed (Xv (hf w0 _ a w β hF))) ?_;rintro e a' w' ⟨⟨s',aJ,hq,bS⟩,hk⟩;exact ⟨s',q,hq,aJ,sN,rN,bS,(hk _ hn).trans hd,h0⟩
theorem CW.seq {x y:Code} (hx:CW c w0 J h x (zxG (CW c w0 J h y Q) Q) s q):CW c w0 J h (.seq x y) Q s q:=fun a w hr=>
 wp_seq (wp_mono (hx a w hr) fun e a' w' ⟨s',q',hq,nU⟩=>by
  cases e with
  | normal => exact hq a' w' nU
  | _ => exact ⟨s', q', hq, nU⟩)
theorem CW.block {id:Nat} {x:Code} (hx:CW c w0 J h x (zvp id Q) s q):CW c w0 J h (.block id x) Q s q:=fun a w hr=>
 wp_block (wp_mono (hx a w hr) fun e a' w' ⟨s',q',hq,nU⟩=>by
  cases e with
  | exit aL =>
   simp only [Exit.inBlock];simp only [zvp] at hq;split
   ·rename_i e;rw [if_pos e] at hq;exact ⟨s',q',hq,nU⟩
   ·rename_i e;rw [if_neg e] at hq;exact ⟨s',q',hq,nU⟩
  | _ => exact ⟨s', q', hq, nU⟩)
theorem CW.skip (hq:Q .normal s q):CW c w0 J h .skip Q s q:=fun _ _ hr=>wp_skip ⟨s,q,hq,hr⟩
theorem CW.exit {id:Nat} (hq:Q (.exit id) s q):CW c w0 J h (.exit id) Q s q:=fun _ _ hr=>wp_exit ⟨s,q,hq,hr⟩
theorem CW.cond {kn:Operand} {x y:Code} {b:Bool} (hc:s.ev kn=.bool b) (ht:b=true→CW c w0 J h x Q s q) (hf:b=false→CW c w0 J h y Q s q):CW c w0 J h (.cond kn x y) Q s q:=fun a w hr=>by
 obtain ⟨β,sN,rN,hF,hd⟩:=hr;exact wp_cond_split (hF.dX hc) (fun e=>ht e a w ⟨β,sN,rN,hF,hd⟩) (fun e=>hf e a w ⟨β,sN,rN,hF,hd⟩)
theorem CW.loop {σ:Type} (inv:σ→ah) (qs:σ→List Int) (pre:σ→Prop) (μ:σ→Nat) (x0:σ) (h0:pre x0) (hq:qs x0=q) (hs:ar s (inv x0))
  (round:∀ x,pre x→CW c w0 J h body (zxG (fun s' q'=>∃ x',pre x'∧μ x'<μ x∧qs x'=q'∧ar s' (inv x')) Q) (inv x) (qs x)):CW c w0 J h (.loop body) Q s q:=by
 subst hq;rintro a w ⟨β,sN,rN,hF,hd⟩;obtain ⟨SE,MO⟩:=hs _ _ _ _ _ _ hF;have key:∀ n x,μ x=n→pre x→∀ a w,vG c w0 J h (qs x) (inv x) a w→(Code.loop body).wp c.P (fun e a' w'=>∃ s' q',Q e s' q'∧vG c w0 J h q' s' a' w') a w:=by
  intro n x hx hp a w hr;refine wp_loop_ghost (fun n a w=>∃ x,pre x∧μ x=n∧vG c w0 J h (qs x) (inv x) a w) n ⟨x,hp,hx,hr⟩ ?_;rintro n a w ⟨x,hp,rfl,hr⟩;refine wp_mono (round x hp a w hr) ?_;rintro e a' w' ⟨s',q',hq,nU⟩;cases e with
  | normal =>
   obtain ⟨x',h1,h2,h3,h4⟩:=hq;subst h3;obtain ⟨β,sN,rN,hF,hd⟩:=nU;obtain ⟨iL,ig⟩:=h4 _ _ _ _ _ _ hF;exact ⟨μ x',h2,x',h1,rfl,iL,sN,rN,ig,hd⟩
  | _ => exact ⟨s', q', hq, nU⟩
 exact key _ x0 rfl h0 a w ⟨SE,sN,rN,MO,hd⟩
end
section
variable {c:Ctx} {w0:World} {J:JJ} {h:Ch} {Q:Exit→ah→List Int→Prop} {t:List (Nat×FV)} {ob:List (Nat×zE)} {q:List Int}
theorem IZ {I:Nat→Prop}:VR w I β s v .undef:=VR.aX (.undef _) rfl
theorem Rv {sN rN:Nat} (hF:FR c.N w0 (J.lay h.dD (h.obj q sN rN)) s a w β):w.heap[h.dD]? = some (h.obj q sN rN):=((hF.kept h.dD (.inr rfl)).2.2).trans (by show (if h.dD=h.dD then _ else _)=_;rw [if_pos rfl])
theorem zn8 {o o' : Obj} (hF:FR c.N w0 (J.lay h.dD o) s a w β) (h0:w0.heap.size≤h.dD):FR c.N w0 (J.lay h.dD o') s a (w.putObj h.dD o') β:=by
 have:=hF.pX (D:=h.dD) (.inr rfl) (fun h=>h.2 rfl) h0 o';rwa [JJ.mJ] at this
theorem CW.send {id:Nat} {v:Int} (hy:(⟨(d1,.undef)::t,ob⟩:ah).ev y=.int .i64 v) (eI:q.length<h.cap) (hd:d1<c.N∧d2<c.N∧d1≠d2∧d1≠h.d∧d2≠h.d)
  (k:Q .normal ⟨(d2,.int .i64 v)::(d1,.undef)::t,ob⟩ (q++[v])) :
  CW c w0 J h (.region id #[⟨some d1,.move (.tmp h.d),nj,p1,m6,none⟩,⟨some d2,.move y,lJ,p2,lW,none⟩,⟨none,.send (.tmp d1) (.tmp d2),Hk,p3,I5,none⟩] false) Q ⟨t,ob⟩ q:=by
 rintro a w ⟨β,sN,rN,hF,hc,h0⟩;refine zoS ?_;change iy _ _ _ [0,1,2] a w;have e1:a.eval (.tmp h.d)=.chan (some h.dD):=hc;have eE:=hF.put (d:=d1) (f:=.undef) (v:=.chan (some h.dD)) hd.1 IZ (fun id ae hm=>by simp [FV.hands] at hm);refine iy.plain rfl rfl (v:=.chan (some h.dD)) (w':=w) (by simp [execOp,e1]) ?_;change iy _ _ _ _ (a.put (some d1) (.chan (some h.dD))) w;have kR:∀ k,(a.put (some d1) (.chan (some h.dD))).tmps.getD k undef=if d1=k then .chan (some h.dD) else a.tmps.getD k undef:=fun k=>xI _ _ _ _ (hF.size▸hd.1)
 revert eE kR;generalize a.put (some d1) (.chan (some h.dD))=a1;intro eE kR;have hy1:a1.eval y=.int .i64 v:=by
  have hv:=VR.rd (by have:=eE.ev y;rwa [show ((⟨t,ob⟩:ah).put d1 .undef).ev y=.int .i64 v from hy] at this) rfl;generalize a1.eval y=u at hv;cases hv;rfl
 have ig:=eE.put (d:=d2) (f:=.int .i64 v) (v:=.int .i64 v) hd.2.1 (VR.aX (.int _ _) rfl) (fun id ae hm=>by simp [FV.hands] at hm);refine iy.plain rfl rfl (v:=.int .i64 v) (w':=w) (by simp [execOp,hy1]) ?_;change iy _ _ _ _ (a1.put (some d2) (.int .i64 v)) w;have qx:∀ k,(a1.put (some d2) (.int .i64 v)).tmps.getD k undef=if d2=k then .int .i64 v else a1.tmps.getD k undef:=fun k=>xI _ _ _ _ (eE.size▸hd.2.1)
 revert ig qx;generalize a1.put (some d2) (.int .i64 v)=a2;intro ig qx;have s9:=Rv ig;refine iy.send rfl rfl rfl (c:=h.dD) (v:=.int .i64 v) ?_ ?_ s9 (by simpa using eI) ?_
 ·show a2.tmps.getD d1 undef=_;rw [qx,if_neg (fun e=>hd.2.2.1 e.symm),kR,if_pos rfl]
 ·show a2.tmps.getD d2 undef=_;rw [qx,if_pos rfl]
 refine iy.nil ⟨_,_,k,β,sN+1,rN,?_,?_,h0⟩
 ·have:=zn8 (o':=h.obj (q++[v]) (sN+1) rN) ig h0;have e:w.setChan h.dD h.cap ((q.map (Value.int .i64)).toArray.push (.int .i64 v)) false (sN+1) rN false=w.putObj h.dD (h.obj (q++[v]) (sN+1) rN):=by
   unfold Ch.obj World.setChan World.putObj;simp
  rw [e];exact this
 ·show a2.tmps.getD h.d undef=_;rw [qx,if_neg hd.2.2.2.2,kR,if_neg hd.2.2.2.1];exact hc
theorem CW.recv {id d3 T e bb:Nat} {v:Int} (hT:c.P.underlying T=some (.chan dir e)) (he:(c.ty e).k.bD = some ag) (hd:d1<c.N∧d2<c.N∧d3<c.N∧d1≠h.d∧d2≠h.d∧d3≠h.d)
  (k:Q .normal ⟨(d3,.int .i64 v)::(d2,.int .i64 v)::(d1,.undef)::t,ob⟩ q) :
  CW c w0 J h (.region id #[⟨some d1,.move (.tmp h.d),nj,p1,m6,none⟩,⟨some d2,.recv T (.tmp d1) false,lJ,p2,lW,none⟩,⟨some d3,.assign (.tmp d2),Hk,p3,I5,none⟩] false) Q ⟨t,ob⟩ (v::q):=by
 rintro a w ⟨β,sN,rN,hF,hc,h0⟩;refine zoS ?_;change iy _ _ _ [0,1,2] a w;have e1:a.eval (.tmp h.d)=.chan (some h.dD):=hc;have eE:=hF.put (d:=d1) (f:=.undef) (v:=.chan (some h.dD)) hd.1 IZ (fun id ae hm=>by simp [FV.hands] at hm);refine iy.plain rfl rfl (v:=.chan (some h.dD)) (w':=w) (by simp [execOp,e1]) ?_;change iy _ _ _ _ (a.put (some d1) (.chan (some h.dD))) w;have kR:∀ k,(a.put (some d1) (.chan (some h.dD))).tmps.getD k undef=if d1=k then .chan (some h.dD) else a.tmps.getD k undef:=fun k=>xI _ _ _ _ (hF.size▸hd.1)
 revert eE kR;generalize a.put (some d1) (.chan (some h.dD))=a1;intro eE kR;have s9:=Rv eE;obtain ⟨z,hz,_⟩:=QT he w (fun _=>False);have Ov:w.setChan h.dD h.cap (((v::q).map (Value.int .i64)).toArray.extract 1 ((v::q).map (Value.int .i64)).toArray.size) false sN (rN+1) false=w.putObj h.dD (h.obj q sN (rN+1)):=by
  unfold Ch.obj World.setChan World.putObj;simp;rw [zS zc]
 refine iy.recv rfl rfl rfl hT hz (c:=h.dD) ?_ s9 zc ?_
 ·show a1.tmps.getD d1 undef=_;rw [kR,if_pos rfl]
 rw [Ov];change iy _ _ _ _ (a1.put (some d2) (.int .i64 v)) _;have ig:=(zn8 (o':=h.obj q sN (rN+1)) eE h0).put (d:=d2) (f:=.int .i64 v) (v:=.int .i64 v) hd.2.1 (VR.aX (.int _ _) rfl) (fun id ae hm=>by simp [FV.hands] at hm);have qx:∀ k,(a1.put (some d2) (.int .i64 v)).tmps.getD k undef=if d2=k then .int .i64 v else a1.tmps.getD k undef:=fun k=>xI _ _ _ _ (eE.size▸hd.2.1)
 revert ig qx;generalize a1.put (some d2) (.int .i64 v)=a2;generalize w.putObj h.dD (h.obj q sN (rN+1))=w2;intro ig qx;have e2:a2.eval (.tmp d2)=.int .i64 v:=by
  show a2.tmps.getD d2 undef=_;rw [qx,if_pos rfl]
 have jS:=ig.put (d:=d3) (f:=.int .i64 v) (v:=.int .i64 v) hd.2.2.1 (VR.aX (.int _ _) rfl) (fun id ae hm=>by simp [FV.hands] at hm);refine iy.plain rfl rfl (v:=.int .i64 v) (w':=w2) (by simp [execOp,e2]) ?_;refine iy.nil ⟨_,_,k,β,sN,rN+1,jS,?_,h0⟩;show (a2.put (some d3) (.int .i64 v)).tmps.getD h.d undef=_;rw [xI _ _ _ _ (ig.size▸hd.2.2.1),if_neg hd.2.2.2.2.2,qx,if_neg hd.2.2.2.2.1,kR,if_neg hd.2.2.2.1];exact hc
end
section
variable {c:Ctx} {w0:World} {J:JJ} {h:Ch} {Q:Exit→ah→List Int→Prop} {t:List (Nat×FV)} {ob:List (Nat×zE)} {q:List Int}
theorem zme {P:Program} {T e ty:Nat} {dD cap s r:Nat} {cl:Bool} (hT:P.underlying T=some (.chan dir e)) (hc:w.heap[dD]? = some (.chan cap buf cl s r false)) :
  (Builtin.len_ #[T] ty #[.chan (some dD)]).run P w=.ok (goInt buf.size) w:=by
 simp [Builtin.len_,run_underlying hT,getObj,Sem.run,hc,Result.andThen]
theorem CW.len {id T e:Nat} {rest:List Oper} (hT:c.P.underlying T=some (.chan dir e)) (hd:d1<c.N∧d2<c.N)
  (hn:jN (.region id (⟨some d1,.move (.tmp h.d),nj,p1,m6,none⟩::⟨some d2,.call { callee:=.builtin .len,args:=#[.tmp d1],argTypes:=#[T] },lJ,p2,lW,none⟩::rest).toArray false) h.d=true)
  (k:zt c (⟨some d1,.move (.tmp h.d),nj,p1,m6,none⟩::⟨some d2,.call { callee:=.builtin .len,args:=#[.tmp d1],argTypes:=#[T] },lJ,p2,lW,none⟩::rest).toArray rest ⟨(d2,.int .i64 q.length)::(d1,.undef)::t,ob⟩ (fun s'=>Q .normal s' q)) :
  CW c w0 J h (.region id (⟨some d1,.move (.tmp h.d),nj,p1,m6,none⟩::⟨some d2,.call { callee:=.builtin .len,args:=#[.tmp d1],argTypes:=#[T] },lJ,p2,lW,none⟩::rest).toArray false) Q ⟨t,ob⟩ q:=by
 rintro a w ⟨β,sN,rN,hF,hc,h0⟩;have key:fQ c.P (.region id (⟨some d1,.move (.tmp h.d),nj,p1,m6,none⟩::⟨some d2,.call { callee:=.builtin .len,args:=#[.tmp d1],argTypes:=#[T] },lJ,p2,lW,none⟩::rest).toArray false)
   (fun e a' w'=>∃ s' aJ,Q e s' q∧FR c.N w0 (J.lay h.dD (h.obj q sN rN)) s' a' w' aJ) a w:=by
  obtain ⟨ops,rK⟩:∃ ops:Array Oper,ops=(⟨some d1,.move (.tmp h.d),nj,p1,m6,none⟩::⟨some d2,.call { callee:=.builtin .len,args:=#[.tmp d1],argTypes:=#[T] },lJ,p2,lW,none⟩::rest).toArray:=⟨_,rfl⟩
  unfold fQ;rw [← rK] at k ⊢;rw [show ops.toList=_ by rw [rK]];have e1:a.eval (.tmp h.d)=.chan (some h.dD):=hc;have eE:=hF.put (d:=d1) (f:=.undef) (v:=.chan (some h.dD)) hd.1 IZ (fun id ae hm=>by simp [FV.hands] at hm);refine wpList_plain rfl fun K1 AA=>?_;unfold Oper.wp;simp only [execOp,e1];refine AA _ _ ?_;change wpList _ _ _ _ (a.put (some d1) (.chan (some h.dD))) w;have kR:(a.put (some d1) (.chan (some h.dD))).eval (.tmp d1)=.chan (some h.dD):=by
   show (a.put _ _).tmps.getD d1 undef=_;rw [xI _ _ _ _ (hF.size▸hd.1),if_pos rfl]
  revert eE kR;generalize a.put (some d1) (.chan (some h.dD))=a1;intro eE kR;refine wpList_plain rfl fun K2 AB=>?_;unfold Oper.wp;have hl:=zme (ty:=lJ) hT (Rv eE);simp [execOp,resolve,invoke,builtin,kR,hl,Result.andThen];refine AB _ _ ?_;have ig:=eE.put (d:=d2) (f:=.int .i64 q.length) (v:=.int .i64 q.length) hd.2 (VR.aX (.int _ _) rfl) (fun id ae hm=>by simp [FV.hands] at hm);exact k (fc _) w0 _ _ w β (fun s a w β hq hf=>⟨s,β,hq,hf⟩) ig
 refine wp_mono (Uz c.mixed (Xv key)) ?_;rintro e a' w' ⟨⟨s',aJ,hq,bS⟩,hk⟩;exact ⟨s',q,hq,aJ,sN,rN,bS,(hk _ hn).trans hc,h0⟩
end
section
variable {P:Program}
theorem zsJ {o:Oper} {K K' G G' : Act→World→Prop} (h:∀ a w,K a w→K' a w) (hh:o.wp P a w K (fc G)):o.wp P a w K' (fc G'):=by
 unfold Oper.wp at *;generalize (execOp a.eval o).run P w=r at *;cases r with
 | ok n w'=>
  cases n <;> simp only [Oper.upon] at hh ⊢ <;>
   first
    | exact h _ _ hh
    | exact BU hh (fun e uX he => by cases e <;> first|exact h _ _ he|exact he.elim|(obtain ⟨_, _, q⟩ := he; exact q.elim))
    | exact Rows.mono hh (fun _ _ he => h _ _ he)
 | halt x w' => cases x <;> simp only [Oper.upon] at hh ⊢ <;> exact hh.elim
theorem PU {ops:Array Oper} {K:Act→World→Prop} {l2:List Oper}:∀ {l1:List Oper} {a:Act} {w:World},wpList P ops (fc fun a w=>wpList P ops (fc K) l2 a w) l1 a w→wpList P ops (fc K) (l1++l2) a w
 | [], a, w, hh => hh
 | o::l,a,w,hh=>by
  rw [HS];unfold wpList at hh ⊢;split
  ·rename_i hw;rw [if_pos hw] at hh;rcases hh with hh|hh
   ·exact .inl (zsJ (fun a w q=>PU q) hh)
   ·exact absurd hh.2 (YB _)
  ·rename_i hw;rw [if_neg hw] at hh;exact PU hh
theorem zmf {T e:Nat} {i:TypeInfo} (hT:P.underlying T=some (.chan dir e)) (hi:P.info? e=some i) (hb:i.bytes * n≤281474976710544) (hn:n≤9223372036854775807) :
  (Instr.makeChan T (.int .i64 n)).run P w=.ok (.chan (some w.heap.size)) (w.alloc (.chan n #[] false 0 0 false)):=by
 have dZ:(i.bytes:Int) * (n:Int)≤281474976710544:=by
  have:((i.bytes * n:Nat):Int)≤281474976710544:=by omega
  rwa [Int.natCast_mul] at this
 have h1:¬ ((n:Int)<0∨(n:Int) > IntKind.i64.max∨(i.bytes:Int) * n > 2 ^ 48 - 112):=by
  rintro (h|h|h)
  ·omega
  ·have:IntKind.i64.max=9223372036854775807:=rfl;omega
  ·omega
 simp [Instr.makeChan,asInt,asIntOf,typeInfo,run_underlying hT,hi,Result.andThen];rintro (h|h|h)
 ·omega
 ·omega
 ·exact absurd dZ (Int.not_le.2 h)
end
theorem GW.make {w0:World} {J:JJ} {QQ:Exit→Act→World→Prop} {id T e:Nat} {x:Operand} {l1:List Oper} (hT:c.P.underlying T=some (.chan dir e)) (he:(c.ty e).k.bD = some ag)
  (hb:(c.ty e).bytes * n≤281474976710544) (hn:n≤9223372036854775807) (hd:d1<c.N∧d2<c.N)
  (k:zt c (l1++([⟨some d1,.makeChan T x,nj,p1,m6,none⟩,⟨some d2,.assign (.tmp d1),lJ,p2,lW,none⟩]:List Oper)).toArray l1 s (fun s1=>s1.ev x=.int .i64 n∧∀ h:Ch,h.d=d2→h.cap=n→
   (∀ q s a w,vG c w0 J h q s a w→∃ β,FR c.N w0 J s a w β)→∀ a w,vG c w0 J h [] ⟨(d2,.undef)::(d1,.undef)::s1.t,s1.o⟩ a w→QQ .normal a w)) :
  GW c w0 J (.region id (l1++([⟨some d1,.makeChan T x,nj,p1,m6,none⟩,⟨some d2,.assign (.tmp d1),lJ,p2,lW,none⟩]:List Oper)).toArray false) QQ s:=by
 intro a w β hF;obtain ⟨d,i,z,ht⟩:=c.get (T:=e) rfl (Sa he);refine wp_mono (Uz c.mixed (Q:=fun e a w=>e=.normal∧QQ .normal a w) ?_) (fun e a w ⟨he,hq⟩=>by rw [he];exact hq);obtain ⟨ops,rK⟩:∃ ops:Array Oper,ops=(l1++([⟨some d1,.makeChan T x,nj,p1,m6,none⟩,⟨some d2,.assign (.tmp d1),lJ,p2,lW,none⟩]:List Oper)).toArray:=⟨_,rfl⟩
 unfold fQ;rw [← rK] at k ⊢;rw [show ops.toList=l1++([⟨some d1,.makeChan T x,nj,p1,m6,none⟩,⟨some d2,.assign (.tmp d1),lJ,p2,lW,none⟩]:List Oper) by rw [rK]];refine PU (k (fc _) w0 J a w β ?_ hF);rintro ⟨t1,ob1⟩ a1 w1 iK ⟨hx,hk⟩ eE;change wpList _ _ _ _ a1 w1;have ex:a1.eval x=.int .i64 n:=by
  have hv:=VR.rd (by have:=eE.ev x;rwa [hx] at this) rfl;generalize a1.eval x=u at hv;cases hv;rfl
 have F8:=zmf (P:=c.P) (w:=w1) hT ht.info (by rw [ht.bytes];exact hb) hn;have ig:=eE.uO (.chan n #[] false 0 0 false);have jS:=ig.put (d:=d1) (f:=.undef) (v:=.chan (some w1.heap.size)) hd.1 IZ (fun id ae hm=>by simp [FV.hands] at hm);refine wpList_plain rfl fun K1 AA=>?_;unfold Oper.wp;simp only [execOp,ex,xy,F8,Result.andThen];refine AA _ _ ?_;change wpList _ _ _ _ (a1.put (some d1) (.chan (some w1.heap.size))) (w1.alloc (.chan n #[] false 0 0 false));have kR:(a1.put (some d1) (.chan (some w1.heap.size))).eval (.tmp d1)=.chan (some w1.heap.size):=by
  show (a1.put _ _).tmps.getD d1 undef=_;rw [xI _ _ _ _ (eE.size▸hd.1),if_pos rfl]
 revert jS kR;generalize a1.put (some d1) (.chan (some w1.heap.size))=a2;intro jS kR;have hF4:=jS.put (d:=d2) (f:=.undef) (v:=.chan (some w1.heap.size)) hd.2 IZ (fun id ae hm=>by simp [FV.hands] at hm);refine wpList_plain rfl fun K2 AB=>?_;unfold Oper.wp;simp only [execOp,kR];refine AB _ _ ?_;refine ⟨rfl,hk ⟨d2,w1.heap.size,n⟩ rfl rfl ?_ _ _ ⟨iK,0,0,hF4,?_,eE.bB.size⟩⟩
 ·rintro q s a w ⟨β,sN,rN,hf,_⟩;refine ⟨β,hf.wS (fun b hb=>hb.1) eE.bP (fun b hb=>⟨.inl hb,?_⟩) rfl rfl⟩;show (if b=w1.heap.size then _ else _)=_;rw [if_neg (by have:=(eE.kept b hb).1;omega)]
 ·show (a2.put (some d2) (.chan (some w1.heap.size))).tmps.getD d2 undef=_;rw [xI _ _ _ _ (jS.size▸hd.2),if_pos rfl]
theorem xN.G7 {f:Nat} {fn:Func} (hf:Mo c f fn code) {args:List FV} {ex:List Nat} {Q:FV→(Nat→zE)→Prop} (hl:args.length≤c.N) (hp:∀ res o,Q res o→VK ob ex res o)
  (h:∀ (w0:World) (J:JJ),GW c w0 J code (fun e a' w'=>∃ (s:ah) (aJ : Nat→Option Nat),((e=.ret∨e=.normal)∧∃ res,Ad c fn s res∧Q res (look {} s.o))∧FR c.N w0 J s a' w' aJ) (xT args ob)):xN c.P f args ob ex Q where
 go:=hf.g
 post:=hp
 calls w0 J w β vs hF:=by
  have mH:vs.length=args.length:=by simpa using hF.size
  refine calls_of_wp hf.at_ hf.b ?_;rw [hf.n];have hE:FR c.N w0 J (xT args ob) { tmps:=vs.toArray++Array.replicate (c.N - vs.toArray.size) undef,defers:=[] } w β:=by
   refine hF.slots (t2:=(xT args ob).t) zM hF.defers fun d=>?_;rcases yg d args.length with hd|hd
   ·have e2:(vs.toArray++Array.replicate (c.N - vs.toArray.size) undef).getD d undef=vs.toArray.getD d undef:=by
     rw [Xo,RV zM,← Xo]
    refine ⟨?_,fun id ae hm=>hF.bE d id ae hm⟩;dsimp only;rw [e2];exact hF.slot d
   ·have e1:(⟨(xT args ob).t,ob⟩:ah).get d=.undef:=by
     have:=XK args ob d;have e3:args.getD d .undef=.undef:=by simp [hd]
     rw [e3] at this;exact this
    rw [e1];exact VR.plain (.undef _) rfl
  refine wp_mono (h w0 J _ w β hE) ?_;rintro e a' w' ⟨⟨t',aM⟩,aJ,⟨he,res,hr,hq⟩,eW⟩;have Bu:∃ v,(results fn a'.tmps).run c.P w'=.ok v w'∧VR w' (aF J w' aJ ⟨t',aM⟩) aJ ⟨t',aM⟩ v res∧∀ id ae,(id,ae)∈res.hands→ae≤((⟨t',aM⟩:ah).ob id).ae:=by
   cases hr with
   | @tmp t res hr h =>
    have rO:fn.results=#[.tmp t]:=by apply xU;simpa using hr
    subst h;exact ⟨_,results_tmp rO _ _ _,eW.slot t,eW.bE t⟩
   | run h => exact h _ _ _ _ _ eW
   | plain h he cu =>
    obtain ⟨v,h1,h2⟩:=Vx eW fn h;rw [he] at h2;exact ⟨v,h1,VR.plain h2 cu⟩
   | @pair t u f g hr h1 h2 hf hg=>
    subst h1;subst h2;have rO:fn.results=#[.tmp t,.tmp u]:=by apply xU;simpa using hr
    refine ⟨.tuple #[a'.tmps.getD t undef,a'.tmps.getD u undef],?_,⟨[a'.tmps.getD t undef,a'.tmps.getD u undef],rfl,rfl,fun j x y hx hy=>?_⟩,fun id ae hm=>?_⟩
    ·unfold results;rw [rO];simp
    ·match j with
     | 0 => injection hx with hx; injection hy with hy; subst hx; subst hy; exact (eW.slot t).om hf
     | 1 => injection hx with hx; injection hy with hy; subst hx; subst hy; exact (eW.slot u).om hg
     | j+2 => simp at hx
    ·obtain ⟨q,hq,e⟩:=yU.1 hm;simp only [zA,Ky,or_false] at hq;rcases hq with rfl|rfl
     ·exact eW.bE t id ae (FV.bW hf e)
     ·exact eW.bE u id ae (FV.bW hg e)
  obtain ⟨v,h1,h2,h3⟩:=Bu;have key:a'.defers=[]∧∃ v,(results fn a'.tmps).run c.P w'=.ok v w'∧∃ v' res aM aJ,Ending.returned v=.returned v'∧Q res (look {} aM)∧FR 1 w0 J ⟨[(0,res)],aM⟩ ⟨#[v'],[]⟩ w' aJ:=by
   refine ⟨eW.defers.trans hF.defers.symm,v,h1,v,res,aM,aJ,rfl,hq,eW.slots rfl hF.defers fun d=>?_⟩;cases d with
   | zero => exact ⟨h2, h3⟩
   | succ d => exact VR.plain (.undef _) rfl
  rcases he with rfl|rfl
  ·exact key
  ·exact key
end
section
open Go.RowKit Go.ChangeMaps Go.MapKept
open Go.Maps (Keyed)
def wT (es:List (List FV)):List (List FV):=es.map fun row=>row.take 1++[.undef]
theorem R0 (es:List (List FV)):(wT es).length=es.length:=by unfold wT;rw [zj]
theorem L0 {row:List FV} (h:(wT es)[j]? = some row):∃ r,es[j]? = some r∧row=r.take 1++[.undef]:=by
 unfold wT at h;rw [ye] at h;cases he:es[j]? with
 | none => rw [he] at h; cases h
 | some r => rw [he] at h; injection h with h; exact ⟨r, rfl, h.symm⟩
theorem zo2 {P:FV→Prop} (h:∀ row∈es,∀ kf,row.head? = some kf→P kf) (aN:∀ row∈es,row≠[]):∀ row∈wT es,∀ kf,row.head? = some kf→P kf:=fun row hr kf hk=>by
 obtain ⟨r,fb,rfl⟩:=zi.1 hr;cases r with
 | nil => exact absurd rfl (aN _ fb)
 | cons x xs => exact h _ fb kf (by simpa using hk)
section
variable {c:Ctx} {w0 w:World} {J:JJ} {s:ah} {a:Act} {β:Nat→Option Nat} {dst:Option Nat} {ty:TypeId} {pos:String} {after:Array Edge} {g:Option (Nat×Bool)}
theorem FR.V2 (h:FR c.N w0 J s a w β) {x:Operand} {id:Nat} (ex:s.ev x=.omap id ae) (bN:(s.ob id).ao=.bh) (aK:(s.ob id).ae=ae):∃ b clock aw,a.eval x=.map (some b)∧β id=some b∧Mp w (aF J w β s) b clock aw (wT (s.ob id).es)∧
  (∀ (j:Nat) e row,aw[j]? = some e→(s.ob id).es[j]? = some row→∃ kf vf,row=[kf,vf]∧kf.simple=true∧e.key=kf.val)∧(∀ row∈(s.ob id).es,row≠[])∧(∀ f∈(s.ob id).es.flatten,∀ aL br,(aL,br)∈f.hands→br≤(s.ob aL).ae)∧
  ∀ (j:Nat) e row f,aw[j]? = some e→(s.ob id).es[j]? = some row→row[1]? = some f→VR w (aF J w β s) β s e.val f:=by
 have au:(s.ob id).ao≠.dead:=by rw [bN];decide
 obtain ⟨aj,b,hb,hv⟩:=h.iR ex au aK;obtain ⟨cU,b',clock,aw,h1,h2,h3,h4,h5,h6,h7⟩:=(h.obj id au).sb bN;rw [hb] at h1;injection h1 with h1
 subst h1;refine ⟨b,clock,aw,hv,hb,⟨h3,h4,by rw [R0];exact h5,fun j e row he hr=>?_,fun j e row f he hr hf=>?_⟩,h6,fun row hr=>?_,cU,h7⟩
 ·obtain ⟨r,fb,rfl⟩:=L0 hr;obtain ⟨kf,vf,rfl,q2,q3⟩:=h6 j e r he fb;exact ⟨kf,.undef,rfl,q2,q3⟩
 ·obtain ⟨r,fb,rfl⟩:=L0 hr;obtain ⟨kf,vf,rfl,q2,q3⟩:=h6 j e r he fb;injection hf with hf
  subst hf;exact .undef _
 ·obtain ⟨j,hj⟩:=B4 hr;have cN:j<aw.size:=by rw [h5];exact (yq.1 hj).1
  obtain ⟨kf,vf,rfl,_⟩:=h6 j aw[j] row (by simp [cN]) hj;exact HT _ _
theorem zpU (h:FR c.N w0 J s a w β) {T e:Nat} (hT:(c.ty T).k=.map k e) {bb:Bool} (he:(c.ty e).k.bD = some bb) (K:Keyed c.P k) (x y:Operand) {id:Nat} (ex:s.ev x=.omap id ae) (bN:(s.ob id).ao=.bh) (aK:(s.ob id).ae=ae)
(ey : s.ev y=kf) (hk:∀ row∈(s.ob id).es,∀ kf,row.head? = some kf→XH c.P k kf) (cG:XH c.P k kf) {found:Bool} (hl:lK (s.ob id).es kf (c.ty e).mZ vf found) (hz:(c.ty e).mZ.hand=none) :
  ZO c w0 J s a ⟨dst,.lookup T x y false,ty,pos,after,g⟩ w vf []:=by
 obtain ⟨b,clock,aw,hx,hb,hm,eR,aN,cU,dR⟩:=h.V2 ex bN aK;have hy:a.eval y=kf.val:=(h.bY ey (by have:=cG.1;cases kf <;> first|rfl|(simp [FV.simple,FV.aW] at this))).dh cG.1;obtain ⟨d,ii,z,ht⟩:=c.get hT zc;have hd:=ht.k;rw [hT] at hd;obtain rfl:=Ca hd;obtain ⟨l,fS⟩:=cG.2;obtain ⟨zv,nY,pQ⟩:=QT he w (aF J w β s);generalize lC:(s.ob id).es=es at hm hk hl eR aN cU dR;rcases hm.find K (zo2 hk aN) cG with ⟨h1,h2,h3⟩|⟨j,e0,Hm,h1,h2,h3,h4,h5,h6⟩
 ·have hv:vf=(c.ty e).mZ:=by
   rcases hl with ⟨_,cO⟩|⟨_,hv,_⟩
   ·refine absurd rfl (h3 [kf,.undef] (zi.2 ⟨_,cO,rfl⟩))
   ·exact hv
  subst hv;refine .rd h (v:=zv) ?_ pQ hz;have:(Instr.lookup T (.map (some b)) kf.val false).run c.P w=.ok zv w:=by
   simp [Instr.lookup,run_underlying ht.u,Zx hm.hb,K.check w _ fS,h1,nY,Result.andThen]
  simp [execOp,hx,hy,this]
 ·obtain ⟨r,hr,mC⟩:=L0 h4;have cO:[kf,vf]∈es:=by
   rcases hl with ⟨_,cO⟩|⟨_,_,bl⟩
   ·exact cO
   ·refine absurd ?_ (bl r (zG hr));cases r with
    | nil => exact absurd rfl (aN _ (zG hr))
    | cons q qs => simp at mC; rw [mC.1]; rfl
  obtain ⟨i,hi⟩:=B4 cO;have dc:i=j:=h6 i .undef (by unfold wT;rw [ye,hi];rfl);subst dc;refine .pure h (v:=e0.val) ?_ (dR i e0 _ vf h2 hi rfl) (fun aL br e=>cU vf (yJ.2 ⟨_,cO,by simp⟩) aL br e);have:(Instr.lookup T (.map (some b)) kf.val false).run c.P w=.ok e0.val w:=by
   simp [Instr.lookup,run_underlying ht.u,Zx hm.hb,K.check w _ fS,h1,Result.andThen]
  simp [execOp,hx,hy,this]
theorem FR.uU (h:FR c.N w0 J s a w β) {id b clock cA : Nat} {aw cB : Array MapEntry} (hl:(s.ob id).ao=.bh) (hb:β id=some b) (ij:w.heap[b]? = some (.map aw clock)) (st:Stamped cB cA) (sz:cB.size=ba.length)
  (ks:∀ (j:Nat) e row,cB[j]? = some e→ba[j]? = some row→∃ kf vf,row=[kf,vf]∧kf.simple=true∧e.key=kf.val)
  (cU:∀ f∈ba.flatten,∀ aL br,(aL,br)∈f.hands→br≤(s.ob aL).ae)
  (vs:∀ (j:Nat) e row f,cB[j]? = some e→ba[j]? = some row→row[1]? = some f→VR w (aF J w β s) β s e.val f) :
  FR c.N w0 J (s.set id { s.ob id with es:=ba }) a (setBlock w b (.map cB cA)) β:=by
 have au:(s.ob id).ao≠.dead:=by rw [hl];decide
 have aA:=(h.obj id au).lt hb;have hg:w.grownBy (setBlock w b (.map cB cA)) (some b):=⟨rfl,rfl,rfl,by simp [setBlock],fun i _ hi=>heap_setBlock_other ij _ (fun e=>hi (by rw [e]))⟩
 have hI:∀ b',aF J w β s b'→aF J (setBlock w b (.map cB cA)) β (s.set id { s.ob id with es:=ba }) b'∧(setBlock w b (.map cB cA)).heap[b']? = w.heap[b']?:=fun b' aU=>by
  refine ⟨⟨xx aU.1 hg.size,aU.2.1,fun aL bn=>?_⟩,hg.block b' aU.1 (fun e=>aU.2.2 id (by rw [hl];rfl) (by rw [hb];exact e.symm))⟩;rw [ah.ay] at bn;split at bn
  ·rename_i e;subst e;exact aU.2.2 id (by rw [hl];rfl)
  ·exact aU.2.2 aL bn
 refine h.step (C:=fun k=>k=id) h.size h.defers (h.bB.grown hg h.bB.size (fun k hk=>by injection hk with hk;subst hk;exact aA.1)) hI (fun k=>.inl ⟨rfl,rfl⟩) (fun k hC=>?_) (fun k hC=>?_) (fun k hC bA eu=>?_) (fun k hC bA T'=>?_) ?_ (fun b' nM hn=>⟨hg.block b' nM (fun e=>hn id au (by rw [hb];exact e.symm)),fun k bA=>hn k (by rw [ah.ay] at bA;split at bA;(· rename_i e;subst e;exact au);(· exact bA))⟩)
 ·refine ⟨by rw [ah.ay,if_neg (fun e=>hC e.symm)],rfl,fun bA b' aU=>hg.block b' ((h.obj k bA).lt aU).2 (fun e=>hC (h.inj k id b' bA au aU (by rw [hb];exact e.symm)))⟩
 ·subst hC;rw [ah.ay,if_pos rfl];exact zg _
 ·subst hC;refine ⟨au,rfl,by rw [ah.ay,if_pos rfl],by rw [ah.ay,if_pos rfl],fun v o n hv=>?_⟩;have:=hv.row;rw [hl] at this;cases this
 ·subst hC;rw [ah.ay,if_pos rfl];refine .uP ⟨fun f hf aL br e=>?_,b,cA,cB,hb,aA.1,heap_setBlock_same ij _,st,sz,ks,fun j e row f h1 h2 h3=>T' _ _ (vs j e row f h1 h2 h3) (cU f (yJ.2 ⟨row,zG h2,zG h3⟩))⟩ hl;refine yc (cU f hf aL br e) ?_;rw [ah.ay];split
  ·rename_i e;subst e;exact zg _
  ·exact zg _
 ·intro k k' b' bA ep e e';refine h.inj k k' b' ?_ ?_ e e'
  ·rw [ah.ay] at bA;split at bA
   ·rename_i e;subst e;exact au
   ·exact bA
  ·rw [ah.ay] at ep;split at ep
   ·rename_i e;subst e;exact au
   ·exact ep
theorem zlr (h:FR c.N w0 J s a w β) {T e:Nat} (hT:(c.ty T).k=.map k e) (K:Keyed c.P k) (x y z:Operand) {id:Nat} (ex:s.ev x=.omap id ae) (bN:(s.ob id).ao=.bh) (aK:(s.ob id).ae=ae)
(ey : s.ev y=kf) (ez:s.ev z=vf) (hk:∀ row∈(s.ob id).es,∀ kf,row.head? = some kf→XH c.P k kf) (cG:XH c.P k kf) (hs:qg (s.ob id).es kf vf ba) :
  ∃ w',(execOp a.eval ⟨dst,.mapUpdate T x y z,ty,pos,after,g⟩).run c.P w=.ok .skip w'∧FR c.N w0 J (s.wr [(id,{ s.ob id with es:=ba })]) a w' β:=by
 obtain ⟨d,ii,zz,ht⟩:=c.get hT zc;have hd:=ht.k;rw [hT] at hd;obtain rfl:=Ca hd;obtain ⟨l,fS⟩:=cG.2;obtain ⟨b,clock,aw,hx,hb,hm,eR,aN,cU,dR⟩:=h.V2 ex bN aK;have hy:a.eval y=kf.val:=(h.bY ey (by have:=cG.1;cases kf <;> first|rfl|(simp [FV.simple,FV.aW] at this))).dh cG.1;have JI:kf.hands=[]:=by have:=cG.1;cases kf <;> first|rfl|(simp [FV.simple,FV.aW] at this)
 have pQ:=h.ev z;have G0:∀ aL br,(aL,br)∈vf.hands→br≤(s.ob aL).ae:=fun aL br e=>h.cg z (by rw [ez];exact e);rw [ez] at pQ;generalize GZ:a.eval z=u at pQ;have eN:=fun (cA : Nat) (cB : Array MapEntry) (aG:List (List FV)) st sz ks h2 vs=>h.uU (cA:=cA) (cB:=cB) (ba:=aG) bN hb hm.hb st sz ks h2 vs;generalize lC:(s.ob id).es=es at hm hk hs eR aN cU dR;rcases hm.find K (zo2 hk aN) cG with ⟨h1,h2,h3⟩|⟨j,e0,Hm,h1,h2,h3,h4,h5,h6⟩
 ·have iX : ba=es++[[kf,vf]]:=by
   rcases hs with ⟨j,v0,hj,_⟩|⟨_,he⟩
   ·refine absurd rfl (h3 [kf,.undef] (zi.2 ⟨_,zG hj,rfl⟩))
   ·exact he
  subst iX;have aY:aw.size=es.length:=hm.sz.trans (R0 es);refine ⟨setBlock w b (.map (aw.push ⟨kf.val,u,clock⟩) (clock+1)),?_,?_⟩
  ·have:(Instr.mapUpdate T (.map (some b)) kf.val u).run c.P w=.ok () (setBlock w b (.map (aw.push ⟨kf.val,u,clock⟩) (clock+1))):=by
    simp [Instr.mapUpdate,run_underlying ht.u,Zx hm.hb,K.check w false fS,h1,Un _ hm.hb,Result.andThen,setBlock]
   simp [execOp,hx,hy,GZ,this]
  ·have dE:∀ (j:Nat) e row,(aw.push ⟨kf.val,u,clock⟩)[j]? = some e→(es++[[kf,vf]])[j]? = some row→(aw[j]? = some e∧es[j]? = some row)∨(e=⟨kf.val,u,clock⟩∧row=[kf,vf]):=by
    intro j e row he hr;rcases Yw j aw.size with hj|hj|hj
    ·left;rw [DM,if_neg za] at he;rw [xO (by rw [← aY];exact hj)] at hr;exact ⟨he,hr⟩
    ·right;subst hj;rw [DM,if_pos rfl] at he;rw [aY,Zd (zg _),xZ] at hr;injection he with he
     injection hr with hr
     exact ⟨he.symm,hr.symm⟩
    ·rw [DM,if_neg za] at he;rw [RW za] at he;cases he
   refine eN _ _ _ (stamped_push hm.st h2) (by simp [aY]) (fun j e row he hr=>?_) (fun f hf=>?_) (fun j e row f he hr hf=>?_)
   ·rcases dE j e row he hr with ⟨q1,q2⟩|⟨rfl,rfl⟩
    ·exact eR j e row q1 q2
    ·exact ⟨kf,vf,rfl,cG.1,rfl⟩
   ·rw [Xe,zC] at hf;rcases hf with hf|hf
    ·exact cU f hf
    ·simp at hf;rcases hf with rfl|rfl
     ·intro aL br e;rw [JI] at e;cases e
     ·exact G0
   ·rcases dE j e row he hr with ⟨q1,q2⟩|⟨rfl,rfl⟩
    ·exact dR j e row f q1 q2 hf
    ·simp at hf;subst hf;exact pQ
 ·have TJ:∃ v0,es[j]? = some [kf,v0]∧ba=es.set j [kf,vf]:=by
   rcases hs with ⟨i,v0,hi,he⟩|⟨bl,_⟩
   ·have dc:i=j:=h6 i .undef (by unfold wT;rw [ye,hi];rfl);subst dc;exact ⟨v0,hi,he⟩
   ·obtain ⟨r,hr,mC⟩:=L0 h4;refine absurd ?_ (bl r (zG hr));cases r with
    | nil => exact absurd rfl (aN _ (zG hr))
    | cons q qs => simp at mC; rw [mC.1]; rfl
  obtain ⟨v0,oK,iX⟩:=TJ;subst iX;have aY:aw.size=es.length:=hm.sz.trans (R0 es);have mm:∀ e',aw[j]? = some e'→({ e' with key:=kf.val,val:=u }:MapEntry).key=e'.key:=fun e' iX=>by rw [h2] at iX;cases iX;exact h3.symm
  refine ⟨setBlock w b (.map (aw.modify j (fun e'=>{ e' with key:=kf.val,val:=u })) clock),?_,?_⟩
  ·have:(Instr.mapUpdate T (.map (some b)) kf.val u).run c.P w=.ok () (setBlock w b (.map (aw.modify j (fun e'=>{ e' with key:=kf.val,val:=u })) clock)):=by
    simp [Instr.mapUpdate,run_underlying ht.u,Zx hm.hb,K.check w false fS,h1,h2,h3,K.stays w fS,Un _ hm.hb,Result.andThen,setBlock]
   simp [execOp,hx,hy,GZ,this]
  ·have dE:∀ (i:Nat) e row,(aw.modify j (fun e'=>{ e' with key:=kf.val,val:=u }))[i]? = some e→(es.set j [kf,vf])[i]? = some row→(aw[i]? = some e∧es[i]? = some row)∨(e.key=kf.val∧e.val=u∧row=[kf,vf]):=by
    intro i e row he hr;rw [Cb] at he;rw [WH] at hr;by_cases dc:j=i
    ·subst dc;right;rw [if_pos rfl,h2] at he;rw [if_pos rfl,if_pos (yq.1 oK).1] at hr;simp only [Za,yw] at he hr;subst he;exact ⟨rfl,rfl,hr.symm⟩
    ·left;rw [if_neg dc] at he hr;exact ⟨he,hr⟩
   refine eN _ _ _ (stamped_modify hm.st _ _ (fun _ _=>rfl) (fun e' _ iX=>mm e' iX)) (by simp [aY]) (fun i e row he hr=>?_) (fun f hf=>?_) (fun i e row f he hr hf=>?_)
   ·rcases dE i e row he hr with ⟨q1,q2⟩|⟨q1,q2,rfl⟩
    ·exact eR i e row q1 q2
    ·exact ⟨kf,vf,rfl,cG.1,q1⟩
   ·obtain ⟨row,aj,hf⟩:=yJ.1 hf;rcases ZE aj with h'|h'
    ·exact cU f (yJ.2 ⟨row,h',hf⟩)
    ·subst h';simp at hf;rcases hf with rfl|rfl
     ·intro aL br e;rw [JI] at e;cases e
     ·exact G0
   ·rcases dE i e row he hr with ⟨q1,q2⟩|⟨q1,q2,rfl⟩
    ·exact dR i e row f q1 q2 hf
    ·simp at hf;subst hf;rw [q2];exact pQ
end
section
variable {c:Ctx} {ops:Array Oper} {rest:List Oper} {t:List (Nat×FV)} {ob:List (Nat×zE)} {d:Nat} {ty:TypeId} {pos:String} {af:Array Edge} {gd:Option (Nat×Bool)} {tr:List Rec} {QD:ah→List Rec→Prop} {QS:ah→Prop}
theorem zsG {T:Nat} {x:Operand} {ok:Bool}:¬ o0 (.lookup T x y ok):=by rintro (⟨_,_,_,e⟩|⟨_,_,_,_,e⟩) <;> cases e
theorem zoQ {T k e id ae E sz:Nat} {bb found:Bool} {x y:Operand} {kf vf:FV} {es:List (List FV)} (K:Keyed c.P k) (eH:∀ row∈es,∀ kf,row.head? = some kf→XH c.P k kf) (cG:XH c.P k kf) (dp:lK es kf (c.ty e).mZ vf found) (hx:(⟨t,ob⟩:ah).ev x=.omap id ae) (hy:(⟨t,ob⟩:ah).ev y=kf)
  (hT:(c.ty T).k=.map k e) (he:(c.ty e).k.bD = some bb) (hz:(c.ty e).mZ.hand=none) (hb:(⟨t,ob⟩:ah).ob id=⟨ae,.bh,E,sz,es⟩) (hd:Nat.blt d c.N=true) (hw:ZB ops ⟨t,ob⟩ (⟨some d,.lookup T x y false,ty,pos,af,gd⟩:Oper) true)
  (k:zR c ops rest ⟨(d,vf)::t,ob⟩ (tr++[⟨(⟨some d,.lookup T x y false,ty,pos,af,gd⟩:Oper),vf,[],VH ⟨t,ob⟩ d (.lookup T x y false)⟩]) QD):zR c ops ((⟨some d,.lookup T x y false,ty,pos,af,gd⟩:Oper)::rest) ⟨t,ob⟩ tr QD:=
 Io (wr:=[]) rfl zsG hd hw (fun s' h1 h2 w0 J a w β ty pos after g hF=>by
  have e1:=(h1 x zy).trans hx;have e2:=(h1 y zy).trans hy;have e3:=(h2 id (WJ (x:=x) rfl zy (ae:=ae) (by rw [hx];rfl))).trans hb;exact zpU hF hT he K x y e1 (by rw [e3]) (by rw [e3]) e2 (by rw [e3];exact eH) cG (by rw [e3];exact dp) hz) k
theorem ziU {T k e id ae E sz:Nat} {x y z:Operand} {kf vf:FV} {es ba : List (List FV)} (K:Keyed c.P k) (eH:∀ row∈es,∀ kf,row.head? = some kf→XH c.P k kf) (cG:XH c.P k kf) (hs:qg es kf vf ba) (hx:(⟨t,ob⟩:ah).ev x=.omap id ae) (hy:(⟨t,ob⟩:ah).ev y=kf) (hz:(⟨t,ob⟩:ah).ev z=vf)
  (hT:(c.ty T).k=.map k e) (hb:(⟨t,ob⟩:ah).ob id=⟨ae,.bh,E,sz,es⟩) (hw:ZB ops ⟨t,ob⟩ (⟨none,.mapUpdate T x y z,ty,pos,af,gd⟩:Oper) true)
  (k:zR c ops rest ⟨t,(id,⟨ae,.bh,E,sz,ba⟩)::ob⟩ (tr++[⟨(⟨none,.mapUpdate T x y z,ty,pos,af,gd⟩:Oper),.undef,[(id,⟨ae,.bh,E,sz,ba⟩)],VH ⟨t,ob⟩ d (.mapUpdate T x y z)⟩]) QD):zR c ops ((⟨none,.mapUpdate T x y z,ty,pos,af,gd⟩:Oper)::rest) ⟨t,ob⟩ tr QD:=by
 refine zR.cons (f:=.undef) (wr:=[(id,⟨ae,.bh,E,sz,ba⟩)]) (d:=d) ⟨.inr ⟨rfl,.inr ⟨_,_,_,_,rfl⟩⟩,(fun _ e=>by cases e),.nE rfl (.inr ⟨_,_,_,_,rfl⟩) fun s' h1 h2 w0 J a w β dst ty pos after g hF=>?_⟩ hw rfl rfl k;have e1:=(h1 x zy).trans hx;have e2:=(h1 y zy).trans hy;have e4:=(h1 z zy).trans hz;have e3:=(h2 id (WJ (x:=x) rfl zy (ae:=ae) (by rw [hx];rfl))).trans hb;obtain ⟨W,q1,q2⟩:=zlr (ty:=ty) (pos:=pos) (after:=after) (g:=g) (dst:=dst) hF hT K x y z e1 (by rw [e3]) (by rw [e3]) e2 e4 (by rw [e3];exact eH) cG (ba:=ba) (by rw [e3];exact hs);rw [e3] at q2;exact ⟨W,q1,q2⟩
end
theorem ar.Pf {v E sz:Nat} (h:look {} ob i=⟨v,.aC,E,sz,[]⟩):ar ⟨t,ob⟩ ⟨t,(i,⟨v,.bh,E,sz,[]⟩)::ob⟩:=by
 refine ar.ao h zd (fun _=>rfl) (fun _=>rfl) fun w base I β s b _ ho=>?_;obtain ⟨b',clock,aw,h1,h2,h3,h4,h5,h6,h7⟩:=(ho.jZ rfl (fun e=>by cases e)).ex;exact .uP ⟨fun f hf=>(by simp at hf),b',clock,aw,h1,h2,h3,h4,h5,h6,fun j e row f q1 q2=>(by simp at q2)⟩ rfl
end
section
open Go.RowKit
section
variable {c:Ctx} {ops:Array Oper} {rest:List Oper} {t:List (Nat×FV)} {ob:List (Nat×zE)} {ty:TypeId} {pos:String} {af:Array Edge} {gd:Option (Nat×Bool)} {QS:ah→Prop}
theorem zte {T k e id ae E sz:Nat} {x y z:Operand} {kf vf:FV} {es ba : List (List FV)} (K:Maps.Keyed c.P k) (eH:∀ row∈es,∀ kf,row.head? = some kf→XH c.P k kf) (cG:XH c.P k kf) (hs:qg es kf vf ba) (hx:(⟨t,ob⟩:ah).ev x=.omap id ae) (hy:(⟨t,ob⟩:ah).ev y=kf) (hz:(⟨t,ob⟩:ah).ev z=vf)
  (hT:(c.ty T).k=.map k e) (hn:vf.hand=none) (hb:(⟨t,ob⟩:ah).ob id=⟨ae,.aC,E,sz,es⟩) (hw:ZB ops ⟨t,ob⟩ (⟨none,.insert T x y z,ty,pos,af,gd⟩:Oper) true)
  (k:zt c ops rest ⟨t,(id,⟨ae,.aC,E,sz,ba⟩)::ob⟩ QS):zt c ops ((⟨none,.insert T x y z,ty,pos,af,gd⟩:Oper)::rest) ⟨t,ob⟩ QS:=fun QQ w0 J a w β hQ hF=>by
 unfold wpList;rw [if_pos (hw.model hF)];refine .inl ?_;obtain ⟨W,h2,h3⟩:=zgs (ty:=ty) (pos:=pos) (after:=af) (g:=gd) (dst:=none) hF hT K x y z hx (by rw [hb]) (by rw [hb]) hy hz (by rw [hb];exact eH) cG hn (ba:=ba) (by rw [hb];exact hs);unfold Oper.wp;rw [show (execOp a.eval ⟨none,.insert T x y z,ty,pos,af,gd⟩).run c.P w=.ok .skip W from h2,Oper.upon_skip];rw [hb] at h3;exact k QQ w0 J _ W β hQ h3
end
end
def fg (E:List (Nat×Nat)) (t:Nat):Nat→Nat→Bool
 | 0, x => decide (x=t)
 | k+1, x => E.any fun e => decide (e.1=x) && fg E t k e.2
theorem Dv {t:Nat}:fg E t 0 x=true↔x=t:=by unfold fg;simp
theorem WN {t:Nat}:fg E t (k+1) x=true↔∃ y,(x,y)∈E∧fg E t k y=true:=by
 conv=>lhs;unfold fg
 rw [Yk];constructor
 ·rintro ⟨⟨a,b⟩,he,h⟩;simp only [zx,decide_eq_true_eq] at h;exact ⟨b,by rw [← h.1];exact he,h.2⟩
 ·rintro ⟨y,he,h⟩;exact ⟨(x,y),he,by simp [h]⟩
def oV (E:List (Nat×Nat)) (t n k x:Nat):Nat:=((List.range n).find? fun b=>decide ((x,b)∈E) && fg E t k b).getD 0
def pU (E:List (Nat×Nat)) (t n:Nat):Nat→Nat→List Nat
 | 0, x => [x]
 | k+1, x => x :: pU E t n k (oV E t n k x)
theorem zoH {t:Nat} (hE:∀ e∈E,e.2<n) (h:fg E t (k+1) x=true):(x,oV E t n k x)∈E∧fg E t k (oV E t n k x)=true∧∀ b,(x,b)∈E→fg E t k b=true→oV E t n k x≤b:=by
 obtain ⟨y,h1,h2⟩:=WN.1 h;unfold oV;cases hf:(List.range n).find? fun b=>decide ((x,b)∈E) && fg E t k b with
 | none =>
  have:=xq.1 hf y (zn.2 (hE _ h1));simp [h1,h2] at this
 | some v=>
  have h3:=WF hf;simp only [zx,decide_eq_true_eq] at h3;refine ⟨h3.1,h3.2,fun b hb hw=>?_⟩;obtain ⟨_,ua,ub,e,hn⟩:=DC.1 hf;rw [Zy];rcases yg b v with aA|il
  ·exfalso;have hbm:b∈ua:=by
    have hs:(List.range n).Pairwise (· < ·):=Kz;rw [e] at hs;have dZ:b∈ua++v::ub:=by rw [← e];exact zn.2 (hE _ hb)
    rcases zC.1 dZ with h|h
    ·exact h
    ·rcases zA.1 h with rfl|h
     ·omega
     ·have:=(Vc.1 (Xq.1 hs).2.1).1 b h;omega
   have:=hn b hbm;simp [hb,hw] at this
  ·exact il
def qq (E:List (Nat×Nat)) (t n x:Nat):Option Nat:=(List.range n).find? fun k=>fg E t (k+1) x
def qE (E:List (Nat×Nat)) (t n x:Nat):List Nat:=match qq E t n x with
 | none => []
 | some k => pU E t n (k+1) x
theorem HN {t:Nat} (h:qq E t n x=some k):k<n∧fg E t (k+1) x=true∧∀ j,j<k→fg E t (j+1) x=false:=by
 obtain ⟨h1,ua,ub,e,hn⟩:=DC.1 h;have hk:k∈List.range n:=YP h;refine ⟨zn.1 hk,h1,fun j hj=>?_⟩;have hjm:j∈ua:=by
  have hs:(List.range n).Pairwise (· < ·):=Kz;rw [e] at hs;have dZ:j∈ua++k::ub:=by rw [← e];exact zn.2 (by have:=zn.1 hk;omega)
  rcases zC.1 dZ with h|h
  ·exact h
  ·rcases zA.1 h with rfl|h
   ·omega
   ·have:=(Vc.1 (Xq.1 hs).2.1).1 j h;omega
 simpa using hn j hjm
theorem zuf {t:Nat} (h:qq E t n x=none):∀ j,j<n→fg E t (j+1) x=false:=fun j hj=>by
 have:=xq.1 h j (zn.2 hj);simpa using this
theorem zw3 {t:Nat} (hk:k<n) (h1:fg E t (k+1) x=true) (h2:∀ j,j<k→fg E t (j+1) x=false):qq E t n x=some k:=by
 cases h:qq E t n x with
 | none => have := zuf h k hk; rw [h1] at this; cases this
 | some m =>
  obtain ⟨h3,h4,h5⟩:=HN h;rcases Yw k m with h6|h6|h6
  ·have:=h5 k h6;rw [h1] at this;cases this
  ·rw [h6]
  ·have:=h2 m h6;rw [h4] at this;cases this
structure Uh (E:List (Nat×Nat)) (t n:Nat) (A:List (Nat×Nat)):Prop where
 nd:(A.map (·.1)).Nodup
 cW:∀ p∈A,p.1<n∧p.2<n
 sound:∀ p∈A,fg E t p.2 p.1=true
 all:∀ k x,fg E t k x=true→∃ d,d≤k∧(x,d)∈A
structure tT (E:List (Nat×Nat)) (t n:Nat) (D Q:List (Nat×Nat)):Prop where
 nd:((D++Q).map (·.1)).Nodup
 cW:∀ p∈D++Q,p.1<n∧p.2<(D++Q).length
 sound:∀ p∈D++Q,fg E t p.2 p.1=true
 uV:(D++Q).Pairwise fun p q=>p.2≤q.2
 j8:∀ z∈Q,∀ p∈D++Q,p.2≤z.2+1
 uh:∀ p∈D,∀ y,(y,p.1)∈E→∃ d,d≤p.2+1∧(y,d)∈D++Q
 tgt:(t,0)∈D++Q
structure qO (E:List (Nat×Nat)) (t n:Nat) (D:List (Nat×Nat)) (x d:Nat) (Q:List (Nat×Nat)) (S:List Nat):Prop where
 nd:((D++(x,d)::Q).map (·.1)).Nodup
 cW:∀ p∈D++(x,d)::Q,p.1<n∧p.2<(D++(x,d)::Q).length
 sound:∀ p∈D++(x,d)::Q,fg E t p.2 p.1=true
 uV:(D++(x,d)::Q).Pairwise fun p q=>p.2≤q.2
 j8:∀ p∈D++(x,d)::Q,p.2≤d+1
 uh:∀ p∈D,∀ y,(y,p.1)∈E→∃ d',d'≤p.2+1∧(y,d')∈D++(x,d)::Q
 ED:∀ y∈S,∃ d',d'≤d+1∧(y,d')∈D++(x,d)::Q
 tgt:(t,0)∈D++(x,d)::Q
theorem Ki (h:(A.map (·.1)).Nodup) (hr:∀ p∈A,p.1<n):A.length≤n:=by
 have:∀ (l m:List Nat),l.Nodup→(∀ x∈l,x∈m)→l.length≤m.length:=by
  intro l
  induction l with
  | nil => intro m _ _; exact zp _
  | cons x l ih =>
   intro m hn hs;have h1:=yp.1 hn;have hx:=hs x zc;have hl:=Yt hx;have bm:0<m.length:=Xp hx;have:=ih (m.erase x) h1.2 fun y hy=>(YO (fun e:y=x=>h1.1 (by rw [← e];exact hy))).2 (hs y (by simp [hy]));rw [yS];omega
 have h2:=this (A.map (·.1)) (List.range n) h (fun x hx=>by
  obtain ⟨p,hp,rfl⟩:=zi.1 hx;exact zn.2 (hr p hp))
 simpa using h2
section
variable {E:List (Nat×Nat)} {t n x d:Nat} {D Q:List (Nat×Nat)}
theorem tT.start (ht:t<n):tT E t n [] [(t,0)] where
 nd:=by simp
 cW p hp:=by simp at hp;subst hp;simp;exact ht
 sound p hp:=by simp at hp;subst hp;exact Dv.2 rfl
 uV:=by simp
 j8 z hz p hp:=by simp at hp;subst hp;simp
 uh p hp:=by cases hp
 tgt:=by simp
theorem tT.len (h:tT E t n D Q):(D++Q).length≤n:=Ki h.nd fun p hp=>(h.cW p hp).1
theorem qO.len (h:qO E t n D x d Q S):(D++(x,d)::Q).length≤n:=Ki h.nd fun p hp=>(h.cW p hp).1
theorem tT.take (h:tT E t n D ((x,d)::Q)):qO E t n D x d Q [] where
 nd:=h.nd
 cW:=h.cW
 sound:=h.sound
 uV:=h.uV
 j8:=h.j8 _ (Yu ..)
 uh:=h.uh
 ED y hy:=by cases hy
 tgt:=h.tgt
theorem qO.seen {y e:Nat} (h:qO E t n D x d Q S) (he:(y,e)∈D++(x,d)::Q):qO E t n D x d Q (S++[y]) where
 nd:=h.nd
 cW:=h.cW
 sound:=h.sound
 uV:=h.uV
 j8:=h.j8
 uh:=h.uh
 ED z hz:=by
  rcases zC.1 hz with hz|hz
  ·exact h.ED z hz
  ·rw [zq.1 hz];exact ⟨e,h.j8 _ he,he⟩
 tgt:=h.tgt
theorem qO.push {y:Nat} (h:qO E t n D x d Q S) (hy:y<n) (hyx:(y,x)∈E) (bl:∀ p∈D++(x,d)::Q,p.1≠y):qO E t n D x d (Q++[(y,d+1)]) (S++[y]):=by
 have e:D++(x,d)::(Q++[(y,d+1)])=(D++(x,d)::Q)++[(y,d+1)]:=by simp
 have hx:(x,d)∈D++(x,d)::Q:=by simp
 constructor
 ·rw [e,zF];refine xX.2 ⟨h.nd,by simp,fun a ha b hb=>?_⟩;obtain ⟨p,hp,rfl⟩:=zi.1 ha;simp at hb;subst hb;exact bl p hp
 ·rw [e];intro p hp;rw [zN];rcases zC.1 hp with hp|hp
  ·have:=h.cW p hp;exact ⟨this.1,by omega⟩
  ·rw [zq.1 hp];exact ⟨hy,by have:=(h.cW _ hx).2;simp at this ⊢;omega⟩
 ·rw [e];intro p hp;rcases zC.1 hp with hp|hp
  ·exact h.sound p hp
  ·rw [zq.1 hp];exact WN.2 ⟨x,hyx,h.sound _ hx⟩
 ·rw [e];refine Xq.2 ⟨h.uV,by simp,fun p hp q hq=>?_⟩;rw [zq.1 hq];exact h.j8 p hp
 ·rw [e];intro p hp;rcases zC.1 hp with hp|hp
  ·exact h.j8 p hp
  ·rw [zq.1 hp];exact zg _
 ·rw [e];intro p hp z hz;obtain ⟨d',h1,h2⟩:=h.uh p hp z hz;exact ⟨d',h1,xm _ h2⟩
 ·rw [e];intro z hz;rcases zC.1 hz with hz|hz
  ·obtain ⟨d',h1,h2⟩:=h.ED z hz;exact ⟨d',h1,xm _ h2⟩
  ·rw [zq.1 hz];exact ⟨d+1,zg _,by simp⟩
 ·rw [e];exact xm _ h.tgt
theorem qO.done (h:qO E t n D x d Q S) (hS:∀ y,(y,x)∈E→y∈S):tT E t n (D++[(x,d)]) Q:=by
 have e:D++[(x,d)]++Q=D++(x,d)::Q:=by simp
 constructor
 ·rw [e];exact h.nd
 ·rw [e];exact h.cW
 ·rw [e];exact h.sound
 ·rw [e];exact h.uV
 ·rw [e];intro z hz p hp;have h1:=(Vc.1 (Xq.1 h.uV).2.1).1 z hz;have h2:=h.j8 p hp;dsimp only at h1;omega
 ·rw [e];intro p hp y hy;rcases zC.1 hp with hp|hp
  ·exact h.uh p hp y hy
  ·rw [zq.1 hp] at hy ⊢;exact h.ED y (hS y hy)
 ·rw [e];exact h.tgt
theorem tT.finish (h:tT E t n D []):Uh E t n D:=by
 have hr:=h.cW;have hs:=h.sound;have hc:=h.uh;have ht:=h.tgt;have hn:=h.nd;have hl:=h.len;rw [zT] at hr hs hc ht hn hl;refine ⟨hn,fun p hp=>⟨(hr p hp).1,by have:=(hr p hp).2;omega⟩,hs,fun k=>?_⟩
 induction k with
 | zero => intro x hx; rw [Dv] at hx; subst hx; exact ⟨0, zg _, ht⟩
 | succ k ih =>
  intro x hx;obtain ⟨y,h1,h2⟩:=WN.1 hx;obtain ⟨d,h3,h4⟩:=ih y h2;obtain ⟨d',h5,h6⟩:=hc _ h4 x h1;exact ⟨d',by dsimp only at h5;omega,h6⟩
end
def dW (A:List (Nat×Nat)) (y:Nat):Option Nat:=(A.find? fun p=>decide (p.1=y)).map (·.2)
theorem Sb {y d:Nat} (hn:(A.map (·.1)).Nodup) (h:(y,d)∈A):dW A y=some d:=by
 induction A with
 | nil => cases h
 | cons p A ih=>
  unfold dW;rw [Lj];rw [zZ] at hn;have hn:=yp.1 hn;by_cases e:p.1=y
  ·rw [decide_eq_true e];rcases zA.1 h with rfl|h
   ·rfl
   ·exact absurd (zi.2 ⟨_,h,e.symm⟩) hn.1
  ·rw [decide_eq_false e];rcases zA.1 h with rfl|h
   ·exact absurd rfl e
   ·exact ih hn.2 h
theorem UX {y d:Nat} (h:dW A y=some d):(y,d)∈A:=by
 unfold dW at h;cases hf:A.find? fun p=>decide (p.1=y) with
 | none => rw [hf] at h; cases h
 | some p =>
  rw [hf] at h;injection h with h
  have h1:=WF hf;have h2:=YP hf;have h3:p.1=y:=by simpa using h1
  rw [← h3,← h];exact h2
section
variable {E:List (Nat×Nat)} {t n:Nat} {A:List (Nat×Nat)}
theorem Uh.least (h:Uh E t n A) {d:Nat} (hx:dW A x=some d) (hk:fg E t k x=true):d≤k:=by
 obtain ⟨d',h1,h2⟩:=h.all k x hk;have:=Sb h.nd h2;rw [hx] at this;injection this with this
 omega
theorem Uh.walk (h:Uh E t n A) {d:Nat} (hx:dW A x=some d):fg E t d x=true:=h.sound _ (UX hx)
theorem Uh.oX (h:Uh E t n A) (hk:fg E t k x=true):∃ d,dW A x=some d:=by
 obtain ⟨d',_,h2⟩:=h.all k x hk;exact ⟨d',Sb h.nd h2⟩
theorem Uh.zero (h:Uh E t n A) {d:Nat} (hx:dW A x=some d) (GX:x≠t):∃ m,d=m+1:=by
 cases d with
 | zero => exact absurd (Dv.1 (h.walk hx)) GX
 | succ m => exact ⟨m, rfl⟩
theorem Uh.next (h:Uh E t n A) (hx:dW A x=some (m+1)) (he:(x,k)∈E):dW A k=some m↔fg E t m k=true:=by
 constructor
 ·exact fun h1=>h.walk h1
 ·intro h1;obtain ⟨d,hd⟩:=h.oX h1;have h2:=h.least hd h1;have h3:=h.least hx (WN.2 ⟨k,he,h.walk hd⟩);rw [hd,show d=m by omega]
theorem Uh.path (h:Uh E t n A) {d:Nat} (hx:dW A x=some d) (GX:x≠t):qE E t n x=pU E t n d x:=by
 obtain ⟨m,rfl⟩:=h.zero hx GX;have hm:=(h.cW _ (UX hx)).2;dsimp only at hm;unfold qE;rw [zw3 (k:=m) za (h.walk hx) fun j hj=>?_];cases hw:fg E t (j+1) x with
 | false => rfl
 | true => have := h.least hx hw; omega
theorem Uh.none (h:Uh E t n A) (hx:dW A x=none):qE E t n x=[]:=by
 unfold qE;cases hd:qq E t n x with
 | none => rfl
 | some k =>
  obtain ⟨_,h1,_⟩:=HN hd;obtain ⟨d,h2⟩:=h.oX h1;rw [hx] at h2;cases h2
theorem zsS:qE E t n x=[]↔qq E t n x=none:=by
 unfold qE;cases qq E t n x with
 | none => simp
 | some k => simp [pU]
theorem Uh.sk (h:Uh E t n A) (GX:x≠t):qE E t n x≠[]↔(dW A x).isSome=true:=by
 cases hx:dW A x with
 | none => rw [h.none hx]; simp
 | some d => rw [h.path hx GX]; cases d <;> simp [pU]
theorem zsH (hE:∀ e∈E,e.2<n) {L:List Nat} (hL:L.Pairwise (· < ·)) (hm:∀ b,b∈L↔(x,b)∈E) (h:fg E t (m+1) x=true):L.find? (fun b=>fg E t m b)=some (oV E t n m x):=by
 obtain ⟨h1,h2,h3⟩:=zoH hE h;cases hf:L.find? fun b=>fg E t m b with
 | none =>
  have:=xq.1 hf _ ((hm _).2 h1);exact absurd h2 this
 | some v=>
  obtain ⟨h4,ua,ub,e,hn⟩:=DC.1 hf;have h5:=h3 v ((hm v).1 (YP hf)) h4;rcases yg (oV E t n m x) v with aA|il
  ·exfalso;have hb:=(hm _).2 h1;rw [e] at hb hL;rcases zC.1 hb with hb|hb
   ·have:=hn _ hb;rw [h2] at this;cases this
   ·rcases zA.1 hb with hb|hb
    ·omega
    ·have:=(Vc.1 (Xq.1 hL).2.1).1 _ hb;omega
  ·rw [show v=oV E t n m x by omega]
end
end Go.Proofs.YtphidhljdcledaaGreat
