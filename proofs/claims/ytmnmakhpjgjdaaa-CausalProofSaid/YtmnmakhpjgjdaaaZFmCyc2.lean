/-
  Some texts as one: FmCyc2, FmTopo.
-/
import Derived.Test.YtmnmakhpjgjdaaaZK
import Derived.Test.YtmnmakhpjgjdaaaZL
namespace Go.Proofs.Ytmnmakhpjgjdaaa
set_option linter.unusedVariables false
set_option maxHeartbeats 16000000
open Go.RowKit
theorem Us (n:Nat) (E:List (Nat×Nat)):(List.range n).map (fun v=>[FV.list 1 ((zj E v).map zp)])=(zG n E).map Zp:=by
 unfold zG
 rw [List.map_map]
 rfl
def Wl:List Int→FV
 | [] => .nil
 | b :: l => .own 100 0 0 (b :: l).length
def zc5 (n:Nat) (E:List (Nat×Nat)) (i:Nat):List Int:=(List.range i).foldl (XS n E) []
theorem UG (n:Nat) (E:List (Nat×Nat)) (i:Nat):zc5 n E (i+1)=XS n E (zc5 n E i) i:=by
 unfold zc5
 rw [List.range_succ,List.foldl_append];rfl
theorem zcq {n:Nat} {E:List (Nat×Nat)} (h:InN n E):∀ {i:Nat},i≤n→(zc5 n E i).length≤n
 | 0, _ => Nat.zero_le _
 | i+1, hi => by rw [UG]; exact zeM h za (zcq h za)
theorem Yl (E:List (Nat×Nat)):(yO E).length=E.length:=List.length_map _
theorem zU.le {P:Program} {f:Nat} {args:List FV} {r r' : FV} (h:zU P f args .sh r) (hle:FV.le r r') (hh:r'.hand=none):zU P f args .sh r' where
 go:=h.go
 hand:=hh
 calls w I vs hI hv:=(h.calls w I vs hI hv).mono fun e w' ⟨v,e1,hb,hr⟩=>⟨v,e1,hb,Rd.le hle hr⟩
def zmX:List (List FV)→FV
 | [] => .nil
 | e :: es => .list 1 (e :: es)
theorem zlE (es:List (List FV)):FV.le (zmX es) (.list 1 es):=by
 cases es with
 | nil => exact .nil 1
 | cons e es => exact .refl _
theorem ziK (es:List (List FV)):(zmX es).hand=none:=by cases es <;> rfl
theorem zeO (n:Nat) (E:List (Nat×Nat)) (hn:n≤14) (hE:E.length≤1000) (hin:InN n E):zU Try.prog 56 [.int .i64 n,.list 2 (E.map edf)] .sh (zmX ((zdB n E).map zp)):=by
 refine zU.of_body (c:=(xT Try.prog zE zt 128)) ⟨Try.func56,rfl,Try.ntmps56,by kernel_rfl⟩ zL zw (ziK _) ?_
 change FW _ _ _ ⟨[(0,.int .i64 n),(1,.list 2 (E.map edf))],[]⟩
 refine zb ?_
 refine yL (xG n E za za hin) (by repeat (first|exact zA.nil|refine zA.cons zy ?_)) rfl rfl ?_
 rw [Us]
 refine zb ?_
 refine FW.loop (fun i:Nat=>⟨[(0,.int .i64 n),(1,.list 2 (E.map edf)),(5,.list 1 ((zG n E).map Zp)),(6,.own 100 0 0 i),(22,.list 2 (E.map edf)),(23,.int .i64 E.length),(24,.int .i64 i)],[(100,⟨0,.own,75,2,((yO E).take i).map edf⟩)]⟩) (fun i=>i≤E.length) (fun i=>E.length - i) 0 (Nat.zero_le _)
  (FLe.cv [⟨100,none,0,⟨0,.own,75,2,[]⟩⟩] (by repeat (first|exact .nil|refine .new ?_)) (by repeat (first|exact .nil|refine .cons (.plain rfl rfl rfl) ?_|refine .cons (.nil rfl (.head _) rfl) ?_))) ?_
 intro i hi
 refine zb ?_
 refine FW.cond rfl (fun h=>?_) (fun h=>?_)
 ·have hlt:i<E.length:=by simpa using h
  clear h
  obtain ⟨⟨a,b⟩,he⟩:∃ e,nth E i=e:=⟨_,rfl⟩
  have hti:((yO E).take i).length=i:=by rw [List.length_take,Yl];omega
  have hts:(yO E).take (i+1)=(yO E).take i++[(b,a)]:=by
   rw [List.take_succ_eq_append_getElem (by rw [Yl];exact hlt)]
   congr 2
   rw [nth_eq hlt] at he
   simp [yO,he]
  obtain ⟨Z,hZ⟩:∃ Z,(yO E).take i=Z:=⟨_,rfl⟩
  rw [hZ] at hti hts ⊢
  refine zb ?_
  rw [he]
  skip
  refine ⟨i+1,by omega,by omega,?_⟩
  rw [hts,List.map_append]
  exact (FLe.cv [⟨100,some 35,0+1,⟨0,.own,75,2,Z.map edf++[(b,a)].map edf⟩⟩] (by repeat (first|exact .nil|refine .old rfl zc (by first|rfl|(simp;omega)) ?_)) (by repeat (first|exact .nil|refine .cons (.plain rfl rfl (by first|rfl|(simp;omega))) ?_|refine .cons (.own rfl (.head _) rfl (by first|rfl|(simp;omega))) ?_)))
 ·obtain rfl:i=E.length:=by simp at h;omega
  clear h hi
  rw [← Yl,List.take_length]
  refine zb ?_
  refine zn.le ?_ (FLe.share 38 rfl rfl zd)
  refine yL (xG n (yO E) za (by rw [Yl];omega) (xH hin)) (by repeat (first|exact zA.nil|refine zA.cons zy ?_)) rfl rfl ?_
  rw [Us]
  refine zb ?_
  refine FW.loop (fun i:Nat=>⟨[(0,.int .i64 n),(5,.list 1 ((zG n E).map Zp)),(9,.list 1 ((zG n (yO E)).map Zp)),(10,Wl (zc5 n E i)),(40,.int .i64 n),(41,.int .i64 i)],[(100,⟨0,.own,3,1,(zc5 n E i).map zp⟩)]⟩) (fun i=>i≤n) (fun i=>n - i) 0 (Nat.zero_le _) ?_ ?_
  ·show FLe _ ⟨[(0,.int .i64 n),(5,.list 1 ((zG n E).map Zp)),(9,.list 1 ((zG n (yO E)).map Zp)),(10,.nil),(40,.int .i64 n),(41,.int .i64 0)],[(100,⟨0,.own,3,1,[]⟩)]⟩
   exact (FLe.cv [⟨100,none,0,⟨0,.own,3,1,[]⟩⟩] (by repeat (first|exact .nil|refine .new ?_)) (by repeat (first|exact .nil|refine .cons (.plain rfl rfl rfl) ?_)))
  intro i hi
  refine zb ?_
  refine FW.cond rfl (fun h=>?_) (fun h=>?_)
  ·have hlt:i<n:=by simpa using h
   clear h
   refine zb ?_
   refine ZS (za5 n i (zG n (yO E)) hn hlt (yh n _) (Zh (xH hin)) (fun r hr=>by have:=zjK n (yO E) r hr;rw [Yl] at this;omega)) (by repeat (first|exact zA.nil|refine zA.cons zy ?_)) ((List.length_map _).trans (UE hin hlt)) rfl rfl rfl ?_
   rw [show dist (zG n (yO E)) n i=zP n E i from rfl]
   have hdl:=UE hin hlt
   have hrng:=fun v (hv:v<n)=>zdh hin hlt hv
   have hrw:nth (zG n E) i=zj E i:=xR E hlt
   have hrn:=yh n E
   refine zn.le ?_ ((FLe.share 47 rfl rfl (by rw [List.length_map];exact hdl.symm)).trans (FLe.shareP 11 rfl rfl))
   obtain ⟨d,hd⟩:∃ d,zP n E i=d:=⟨_,rfl⟩
   rw [hd] at hdl hrng ⊢
   refine zb ?_
   rw [hrw]
   obtain ⟨B,hB⟩:∃ B,zc5 n E i=B:=⟨_,rfl⟩
   rw [hB]
   refine FW.le ?_ (FLe.shareP 12 rfl rfl)
   refine FW.loop (fun j:Nat=>⟨[(0,.int .i64 n),(5,.list 1 ((zG n E).map Zp)),(9,.list 1 ((zG n (yO E)).map Zp)),(10,Wl B),(40,.int .i64 n),(41,.int .i64 i),(11,.eptr 1 [[.int .i64 i]] 0 0),(12,.eptr 1 [[.list 1 (d.map zp)]] 0 0),(13,.int .i64 (((zj E i).take j).foldl (yo d i) 0)),(51,.list 1 ((zj E i).map zp)),(52,.int .i64 (zj E i).length),(53,.int .i64 j)],[(100,⟨0,.own,3,1,B.map zp⟩)]⟩) (fun j=>j≤(zj E i).length) (fun j=>(zj E i).length - j) 0 (Nat.zero_le _) ?_ ?_
   ·rcases B with _|⟨b,l⟩
    ·show FLe _ ⟨[(0,.int .i64 n),(5,.list 1 ((zG n E).map Zp)),(9,.list 1 ((zG n (yO E)).map Zp)),(10,.nil),(40,.int .i64 n),(41,.int .i64 i),(11,.eptr 1 [[.int .i64 i]] 0 0),(12,.eptr 1 [[.list 1 (d.map zp)]] 0 0),(13,.int .i64 0),(51,.list 1 ((zj E i).map zp)),(52,.int .i64 (zj E i).length),(53,.int .i64 0)],[(100,⟨0,.own,3,1,[]⟩)]⟩
     exact (FLe.cv [⟨100,some 100,0,⟨0,.own,3,1,[]⟩⟩] (by repeat (first|exact .nil|refine .old rfl zc rfl ?_)) (by repeat (first|exact .nil|refine .cons (.plain rfl rfl rfl) ?_)))
    ·show FLe _ ⟨[(0,.int .i64 n),(5,.list 1 ((zG n E).map Zp)),(9,.list 1 ((zG n (yO E)).map Zp)),(10,.own 100 0 0 (b::l).length),(40,.int .i64 n),(41,.int .i64 i),(11,.eptr 1 [[.int .i64 i]] 0 0),(12,.eptr 1 [[.list 1 (d.map zp)]] 0 0),(13,.int .i64 0),(51,.list 1 ((zj E i).map zp)),(52,.int .i64 (zj E i).length),(53,.int .i64 0)],[(100,⟨0,.own,3,1,(b::l).map zp⟩)]⟩
     exact (FLe.cv [⟨100,some 100,0,⟨0,.own,3,1,(b::l).map zp⟩⟩] (by repeat (first|exact .nil|refine .old rfl zc rfl ?_)) (by repeat (first|exact .nil|refine .cons (.plain rfl rfl rfl) ?_|refine .cons (.own rfl (.head _) rfl rfl) ?_)))
   have hsl:=ZI E i
   intro j hj
   refine zb ?_
   refine FW.cond rfl (fun h=>?_) (fun h=>?_)
   ·have hlt3:j<(zj E i).length:=by simpa using h
    clear h
    obtain ⟨v,hv⟩:∃ v:Nat,nth (zj E i) j=v:=⟨(nth (zj E i) j).toNat,by have:=(yb hin (zu hlt3)).1;omega⟩
    have hvn:v<n:=by have:=(yb hin (zu hlt3)).2;omega
    have hrv:=hrng v hvn
    have hst:((zj E i).take (j+1)).foldl (yo d i) 0=yo d i (((zj E i).take j).foldl (yo d i) 0) v:=by
     rw [List.take_succ_eq_append_getElem hlt3,List.foldl_append,← nth_eq hlt3,hv];rfl
    obtain ⟨L,hL⟩:∃ L,((zj E i).take j).foldl (yo d i) 0=L:=⟨_,rfl⟩
    rw [hL] at hst ⊢
    generalize hBm:B.map zp=Bm
    have hdn:nth d ((v:Int)).toNat=nth d v:=rfl
    refine zb ?_
    rw [hv]
    skip
    refine zN (fun h1=>?_) (fun h1=>?_)
    ·refine zb ?_
     refine zN (fun h2=>?_) (fun h2=>?_)
     ·refine zb ?_
      refine zN (fun h3=>?_) (fun h3=>?_)
      ·refine zb ?_
       rw [yo,if_pos ⟨⟨by simpa using h1,by simpa using h2⟩,.inl (by simpa using h3)⟩,hdn] at hst
       refine ⟨j+1,by omega,by omega,?_⟩
       rw [hst]
       rcases B with _|⟨b,l⟩ <;> dsimp only [Wl]
       ·exact (FLe.cv [⟨100,some 100,0,⟨0,.own,3,1,Bm⟩⟩] (by repeat (first|exact .nil|refine .old rfl zc rfl ?_)) (by repeat (first|exact .nil|refine .cons (.plain rfl rfl rfl) ?_)))
       ·exact (FLe.cv [⟨100,some 100,0,⟨0,.own,3,1,Bm⟩⟩] (by repeat (first|exact .nil|refine .old rfl zc rfl ?_)) (by repeat (first|exact .nil|refine .cons (.plain rfl rfl rfl) ?_|refine .cons (.own rfl (.head _) rfl rfl) ?_)))
      ·refine zb ?_
       refine FW.cond rfl (fun h4=>?_) (fun h4=>?_)
       ·refine zb ?_
        rw [yo,if_pos ⟨⟨by simpa using h1,by simpa using h2⟩,.inr (by simpa using h4)⟩,hdn] at hst
        refine ⟨j+1,by omega,by omega,?_⟩
        rw [hst]
        rcases B with _|⟨b,l⟩ <;> dsimp only [Wl]
        ·exact (FLe.cv [⟨100,some 100,0,⟨0,.own,3,1,Bm⟩⟩] (by repeat (first|exact .nil|refine .old rfl zc rfl ?_)) (by repeat (first|exact .nil|refine .cons (.plain rfl rfl rfl) ?_)))
        ·exact (FLe.cv [⟨100,some 100,0,⟨0,.own,3,1,Bm⟩⟩] (by repeat (first|exact .nil|refine .old rfl zc rfl ?_)) (by repeat (first|exact .nil|refine .cons (.plain rfl rfl rfl) ?_|refine .cons (.own rfl (.head _) rfl rfl) ?_)))
       ·refine zb ?_
        rw [yo,if_neg (fun q=>by simp at h3 h4;rcases q.2 with q|q;exact h3 q;rw [hdn] at q;omega)] at hst
        refine ⟨j+1,by omega,by omega,?_⟩
        rw [hst]
        rcases B with _|⟨b,l⟩ <;> dsimp only [Wl]
        ·exact (FLe.cv [⟨100,some 100,0,⟨0,.own,3,1,Bm⟩⟩] (by repeat (first|exact .nil|refine .old rfl zc rfl ?_)) (by repeat (first|exact .nil|refine .cons (.plain rfl rfl rfl) ?_)))
        ·exact (FLe.cv [⟨100,some 100,0,⟨0,.own,3,1,Bm⟩⟩] (by repeat (first|exact .nil|refine .old rfl zc rfl ?_)) (by repeat (first|exact .nil|refine .cons (.plain rfl rfl rfl) ?_|refine .cons (.own rfl (.head _) rfl rfl) ?_)))
     ·refine zb ?_
      rw [yo,if_neg (fun q=>by simp at h2;have q2:=q.1.2;rw [hdn] at q2;omega)] at hst
      refine ⟨j+1,by omega,by omega,?_⟩
      rw [hst]
      rcases B with _|⟨b,l⟩ <;> dsimp only [Wl]
      ·exact (FLe.cv [⟨100,some 100,0,⟨0,.own,3,1,Bm⟩⟩] (by repeat (first|exact .nil|refine .old rfl zc rfl ?_)) (by repeat (first|exact .nil|refine .cons (.plain rfl rfl rfl) ?_)))
      ·exact (FLe.cv [⟨100,some 100,0,⟨0,.own,3,1,Bm⟩⟩] (by repeat (first|exact .nil|refine .old rfl zc rfl ?_)) (by repeat (first|exact .nil|refine .cons (.plain rfl rfl rfl) ?_|refine .cons (.own rfl (.head _) rfl rfl) ?_)))
    ·refine zb ?_
     rw [yo,if_neg (fun q=>by simp at h1;omega)] at hst
     refine ⟨j+1,by omega,by omega,?_⟩
     rw [hst]
     rcases B with _|⟨b,l⟩ <;> dsimp only [Wl]
     ·exact (FLe.cv [⟨100,some 100,0,⟨0,.own,3,1,Bm⟩⟩] (by repeat (first|exact .nil|refine .old rfl zc rfl ?_)) (by repeat (first|exact .nil|refine .cons (.plain rfl rfl rfl) ?_)))
     ·exact (FLe.cv [⟨100,some 100,0,⟨0,.own,3,1,Bm⟩⟩] (by repeat (first|exact .nil|refine .old rfl zc rfl ?_)) (by repeat (first|exact .nil|refine .cons (.plain rfl rfl rfl) ?_|refine .cons (.own rfl (.head _) rfl rfl) ?_)))
   ·obtain rfl:j=(zj E i).length:=by simp at h;omega
    clear h hj
    rw [List.take_length]
    obtain ⟨L,hL⟩:∃ L,(zj E i).foldl (yo d i) 0=L:=⟨_,rfl⟩
    rw [hL]
    have hLL:yX (zP n E i) i (zj E i)=L:=by rw [hd];exact hL
    have hcs:=UG n E i
    rw [hB] at hcs
    unfold XS at hcs
    dsimp only at hcs
    rw [hLL] at hcs
    have hBl:B.length≤n:=hB▸zcq hin za
    refine FW.exit ?_
    refine FW.seq ?_
    refine FW.seq ?_
    refine FW.join (fun _:Unit=>⟨[(0,.int .i64 n),(5,.list 1 ((zG n E).map Zp)),(9,.list 1 ((zG n (yO E)).map Zp)),(10,Wl B),(40,.int .i64 n),(41,.int .i64 i),(11,.eptr 1 [[.int .i64 i]] 0 0),(12,.eptr 1 [[.list 1 (d.map zp)]] 0 0),(13,.int .i64 L),(97,.bool (decide (L=0∨(B≠[]∧(B.length:Int)≤L))))],[(100,⟨0,.own,3,1,B.map zp⟩)]⟩) (fun _=>True) ?_ (fun _ _=>?_)
    ·rcases B with _|⟨b,l⟩
     ·dsimp only [Wl]
      refine zb ?_
      refine zN (fun h1=>?_) (fun h1=>?_)
      ·refine zb ?_
       refine ⟨rfl,(),trivial,?_⟩
       rw [show decide (L=0∨(([]:List Int)≠[]∧((([]:List Int).length:Nat):Int)≤L))=true by simpa using h1]
       exact (FLe.cv [⟨100,some 100,0,⟨0,.own,3,1,[]⟩⟩] (by repeat (first|exact .nil|refine .old rfl zc rfl ?_)) (by repeat (first|exact .nil|refine .cons (.plain rfl rfl rfl) ?_)))
      ·refine zb ?_
       refine ⟨rfl,(),trivial,?_⟩
       rw [show decide (L=0∨(([]:List Int)≠[]∧((([]:List Int).length:Nat):Int)≤L))=false by simpa using h1]
       exact (FLe.cv [⟨100,some 100,0,⟨0,.own,3,1,[]⟩⟩] (by repeat (first|exact .nil|refine .old rfl zc rfl ?_)) (by repeat (first|exact .nil|refine .cons (.plain rfl rfl rfl) ?_)))
     ·dsimp only [Wl]
      refine zb ?_
      refine zN (fun h1=>?_) (fun h1=>?_)
      ·refine zb ?_
       refine ⟨rfl,(),trivial,?_⟩
       rw [show decide (L=0∨((b::l:List Int)≠[]∧(((b::l:List Int).length:Nat):Int)≤L))=true by simp at h1 ⊢;exact .inl h1]
       exact (FLe.cv [⟨100,some 100,0,⟨0,.own,3,1,(b::l).map zp⟩⟩] (by repeat (first|exact .nil|refine .old rfl zc rfl ?_)) (by repeat (first|exact .nil|refine .cons (.plain rfl rfl rfl) ?_|refine .cons (.own rfl (.head _) rfl rfl) ?_)))
      ·refine zb ?_
       refine ⟨rfl,(),trivial,?_⟩
       rw [show decide (L=0∨((b::l:List Int)≠[]∧(((b::l:List Int).length:Nat):Int)≤L))=decide (L≥(((b::l).length:Nat):Int)) by simp at h1 ⊢;intro q;exact absurd q h1]
       exact (FLe.cv [⟨100,some 100,0,⟨0,.own,3,1,(b::l).map zp⟩⟩] (by repeat (first|exact .nil|refine .old rfl zc rfl ?_)) (by repeat (first|exact .nil|refine .cons (.plain rfl rfl rfl) ?_|refine .cons (.own rfl (.head _) rfl rfl) ?_)))
    ·refine FW.cond rfl (fun h=>?_) (fun h=>?_)
     ·rw [if_pos (by simpa using h)] at hcs
      refine zb ?_
      refine ⟨i+1,by omega,by omega,?_⟩
      rw [hcs]
      generalize hBm:B.map zp=Bm
      rcases B with _|⟨b,l⟩ <;> dsimp only [Wl]
      ·exact (FLe.cv [⟨100,some 100,0,⟨0,.own,3,1,Bm⟩⟩] (by repeat (first|exact .nil|refine .old rfl zc rfl ?_)) (by repeat (first|exact .nil|refine .cons (.plain rfl rfl rfl) ?_)))
      ·exact (FLe.cv [⟨100,some 100,0,⟨0,.own,3,1,Bm⟩⟩] (by repeat (first|exact .nil|refine .old rfl zc rfl ?_)) (by repeat (first|exact .nil|refine .cons (.plain rfl rfl rfl) ?_|refine .cons (.own rfl (.head _) rfl rfl) ?_)))
     ·have hno:¬ (L=0∨(B≠[]∧(B.length:Int)≤L)):=by simpa using h
      rw [if_neg hno] at hcs
      obtain ⟨K,hK,hKn,hway⟩:=Yy hin hlt (by rw [hLL];exact fun e=>hno (.inl e))
      rw [hLL] at hK
      subst hK
      rw [show ((K+1:Nat):Int).toNat - 1=K by omega] at hcs
      clear h hno hL hLL hB hBl hrn
      rw [hd] at hcs
      refine FW.le (s':=⟨[(0,.int .i64 n),(5,.list 1 ((zG n E).map Zp)),(9,.list 1 ((zG n (yO E)).map Zp)),(40,.int .i64 n),(41,.int .i64 i),(11,.eptr 1 [[.int .i64 i]] 0 0),(12,.eptr 1 [[.list 1 (d.map zp)]] 0 0),(13,.int .i64 (K+1:Nat))],[]⟩) ?_ (FLe.cv [] yK (by repeat (first|exact .nil|refine .cons (.plain rfl rfl rfl) ?_)))
      refine zb ?_
      refine FW.loop (fun x:List Int×Nat=>⟨[(0,.int .i64 n),(5,.list 1 ((zG n E).map Zp)),(9,.list 1 ((zG n (yO E)).map Zp)),(40,.int .i64 n),(41,.int .i64 i),(11,.eptr 1 [[.int .i64 i]] 0 0),(12,.eptr 1 [[.list 1 (d.map zp)]] 0 0),(13,.int .i64 (K+1:Nat)),(10,.own 100 0 0 x.1.length),(16,.int .i64 x.2)],[(100,⟨0,.own,3,1,x.1.map zp⟩)]⟩) (fun x=>∃ k,x.1.length+k=K+1∧x.2<n∧Way E (zP n E i) i k x.2∧x.1++ZO E d i k x.2=(i:Int)::ZO E d i K i) (fun x=>K+1 - x.1.length) ([(i:Int)],i) ⟨K,by simp;omega,hlt,hway,rfl⟩ ?_ ?_
      ·show FLe _ ⟨[(0,.int .i64 n),(5,.list 1 ((zG n E).map Zp)),(9,.list 1 ((zG n (yO E)).map Zp)),(40,.int .i64 n),(41,.int .i64 i),(11,.eptr 1 [[.int .i64 i]] 0 0),(12,.eptr 1 [[.list 1 (d.map zp)]] 0 0),(13,.int .i64 (K+1:Nat)),(10,.own 100 0 0 1),(16,.int .i64 i)],[(100,⟨0,.own,3,1,[[.int .i64 i]]⟩)]⟩
       exact (FLe.cv [⟨100,some 99,0+1,⟨0,.own,3,1,[[.int .i64 i]]⟩⟩] (by repeat (first|exact .nil|refine .old rfl zc rfl ?_)) (by repeat (first|exact .nil|refine .cons (.plain rfl rfl rfl) ?_|refine .cons (.own rfl (.head _) rfl rfl) ?_)))
      ·rintro ⟨P,v⟩ ⟨k,hPk,hvn,hw,hP⟩
       dsimp only at hPk hvn hw hP ⊢
       refine zb ?_
       refine FW.cond rfl (fun h=>?_) (fun h=>?_)
       ·obtain ⟨k,rfl⟩:∃ k',k=k'+1:=⟨k - 1,by simp at h;omega⟩
        clear h
        obtain ⟨j,hj,hfx,hnx,hsn,hway'⟩:=hw.step hin hlt
        rw [hd] at hfx hnx hsn hway'
        have hwo:ZO E d i (k+1) v=(xy E d i (k+1:Nat) v:Int)::ZO E d i k (xy E d i (k+1:Nat) v):=rfl
        rw [hwo] at hP
        obtain ⟨u,hu⟩:∃ u,xy E d i (k+1:Nat) v=u:=⟨_,rfl⟩
        rw [hu] at hnx hsn hway' hP
        have hvr:nth (zG n E) v=zj E v:=xR E hvn
        have hvl:=ZI E v
        have hrn:=yh n E
        have hlft:((K+1:Nat):Int) - (P.length:Int)=(k+1:Nat):=by omega
        (repeat (first|refine FW.seq ?_|refine FW.region ?_|refine FW.block ?_|refine FW.skip ?_|refine zn.nil ?_|refine zB rfl rfl rfl ?_|refine zaH rfl rfl rfl zc rfl rfl ?_|refine WV rfl rfl rfl rfl rfl rfl zC rfl rfl ?_|refine xh rfl rfl rfl zC (by first|exact zR za|rfl) rfl rfl rfl rfl ?_|refine Uq rfl rfl rfl rfl rfl rfl rfl ?_|refine zer rfl rfl rfl rfl rfl rfl rfl rfl rfl ?_|refine zjI rfl rfl za rfl rfl ?_))
        rw [hlft,hvr]
        refine zn.le ?_ (FLe.shareP 17 rfl rfl)
        refine zb ?_
        refine yu (XP (zj E v) _ _ (XZ d i (k+1:Nat)) za (fun x hx=>?_)) (by repeat (first|exact zA.nil|refine zA.cons zy ?_)) rfl rfl ?_
        ·have hx2:=yb hin hx
         obtain ⟨x,rfl⟩:∃ x' : Nat,x=x':=⟨x.toNat,by omega⟩
         exact zeN d i (k+1:Nat) x za
        rw [hfx]
        have hj' : j<(nth (zG n E) v).length:=by rw [hvr];exact hj
        refine zb ?_
        rw [hvr]
        skip
        rw [hnx]
        skip
        refine ⟨(P++[(u:Int)],u),⟨k,by simp;omega,hsn,by rw [hd];exact hway',by rw [List.append_assoc];exact hP⟩,by simp;omega,?_⟩
        dsimp only
        rw [List.length_append,List.map_append]
        exact (FLe.cv [⟨100,some 125,0+1,⟨0,.own,3,1,P.map zp++[(u:Int)].map zp⟩⟩] (by repeat (first|exact .nil|refine .old rfl zc yv ?_)) (by repeat (first|exact .nil|refine .cons (.plain rfl rfl yv) ?_|refine .cons (.own rfl (.head _) rfl yv) ?_)))
       ·obtain rfl:k=0:=by simp at h;omega
        rw [show ZO E d i 0 v=[] from rfl,List.append_nil] at hP
        refine zb ?_
        refine ⟨i+1,by omega,by omega,?_⟩
        rw [hcs,← hP]
        subst hP
        dsimp only [Wl]
        exact (FLe.cv [⟨100,some 100,0,⟨0,.own,3,1,((i:Int)::ZO E d i K i).map zp⟩⟩] (by repeat (first|exact .nil|refine .old rfl zc rfl ?_)) (by repeat (first|exact .nil|refine .cons (.plain rfl rfl rfl) ?_|refine .cons (.own rfl (.head _) rfl rfl) ?_)))
  ·obtain rfl:i=n:=by simp at h;omega
   rw [show zc5 i E i=zdB i E from rfl]
   generalize zdB i E=B
   cases B with
   | nil =>
    dsimp only [Wl]
    refine FW.le (s':=⟨[(10,.nil)],[]⟩) ?_ (FLe.cv [] yK (by repeat (first|exact .nil|refine .cons (.plain rfl rfl rfl) ?_)))
    refine zb ?_
    exact FW.ret ⟨.inl rfl,.sh (.cons (.tmp 4 rfl rfl) .nil) rfl rfl⟩
   | cons b l =>
    dsimp only [Wl]
    refine FW.le (s':=⟨[(10,.list 1 ((b::l).map zp))],[]⟩) ?_ ((FLe.share 10 rfl rfl zd).trans (FLe.cv [] yK (by repeat (first|exact .nil|refine .cons (.plain rfl rfl rfl) ?_))))
    refine zb ?_
    exact FW.ret ⟨.inl rfl,.sh (.cons (.tmp 4 rfl rfl) .nil) rfl rfl⟩
theorem zgu (n:Nat) (E:List (Nat×Nat)) (hn:n≤14) (hE:E.length≤1000) (hin:InN n E):zU Try.prog 56 [.int .i64 n,.list 2 (E.map edf)] .sh (.list 1 ((zdB n E).map zp)):=
 (zeO n E hn hE hin).le (zlE _) rfl
def zgn (a q:Nat):zm:=⟨a,.hrow,96,1,[[.ptr 5000 q 0 0]]⟩
theorem ziE {a q v v' n n' : Nat} {res:FV} {o:Nat→zm} {l l' : List Int} (hr:res.cl [5002,5000,5001]=true) (h2:o 5002=zgn a q) (h0:o 5000=yG q v' n') (h1:o 5001=xn v' l'):Yo [(5002,zgn a q),(5000,yG q v n),(5001,xn v l)] [] res o where
 old k hk hl:=by
  simp at hk
  rcases hk with rfl|rfl|rfl
  ·rw [h2];exact ⟨rfl,rfl,rfl⟩
  ·rw [h0];exact ⟨rfl,rfl,rfl⟩
  ·rw [h1];exact ⟨rfl,rfl,rfl⟩
 new k hk:=by cases hk
 cl k hk:=by
  simp at hk
  rcases hk with rfl|rfl|rfl
  ·rw [h2];rfl
  ·rw [h0];rfl
  ·rw [h1];rfl
 res:=hr
theorem YC (a q v:Nat) (l:List Int) (x:Int) (hl:l.length≤100000):yB Try.prog 60 [.int .i64 x,.ptr 5002 a 0 0] [(5002,zgn a q),(5000,yG q v l.length),(5001,xn v l)] [] (fun res o=>res=.tup []∧o 5002=zgn a q∧o 5000=yG q (v+1) (l.length+1)∧o 5001=xn (v+1) (Zz l x)):=by
 refine yB.of_body (c:=(xT Try.prog zE zt 8)) ⟨Try.func60,rfl,Try.ntmps60,by kernel_rfl⟩ zw ?_ ?_
 ·rintro res o ⟨rfl,h2,h0,h1⟩;exact ziE rfl h2 h0 h1
 change FW _ _ _ ⟨[(0,.int .i64 x),(1,.ptr 5002 a 0 0)],[(5002,zgn a q),(5000,yG q v l.length),(5001,xn v l)]⟩
 unfold zgn
 refine zb ?_
 refine xq (ze5 q v l x hl) [(5000,5000),(5001,5001)] rfl (zq.cons rfl rfl rfl (zq.cons rfl rfl rfl zq.nil)) rfl rfl rfl rfl rfl rfl ?_
 rintro _ ob' ⟨rfl,h1,h2⟩
 refine yM.one [(5000,yG q (v+1) (l.length+1)),(5001,xn (v+1) (Zz l x))] (.tup []) rfl (by show [(5000,zm.ren _ (look {} ob' 5000)),(5001,zm.ren _ (look {} ob' 5001))]=_;rw [h1,h2];rfl) ?_
 clear h1 h2 ob'
 refine zb ?_
 exact ⟨.inr rfl,_,.plain .nil rfl rfl,rfl,rfl,rfl,rfl⟩
def Zf (n:Nat) (E:List (Nat×Nat)) (i:Nat):List Int:=((zG n E).take i).foldl (fun m r=>r.foldl WB m) (List.replicate n 0)
theorem zam (n:Nat) (E:List (Nat×Nat)) {i:Nat} (h:i<n):Zf n E (i+1)=(zj E i).foldl WB (Zf n E i):=by
 have hl:=yh n E
 unfold Zf
 rw [List.take_succ_eq_append_getElem za,List.foldl_append,← nth_eq za,xR E h];rfl
theorem zbK (n:Nat) (E:List (Nat×Nat)):Zf n E n=zak n E:=by
 unfold Zf zak
 rw [List.take_of_length_le (by rw [yh];exact Nat.le_refl _)]
theorem zal {n:Nat} {E:List (Nat×Nat)} (h:InN n E) (i:Nat):(Zf n E i).length=n∧∀ w:Nat,w<n→0≤nth (Zf n E i) w∧nth (Zf n E i) w≤n:=by
 obtain ⟨k1,k2⟩:=zaL (n:=n) (rows:=(zG n E).take i) (m:=List.replicate n 0) (fun r hr=>by
  obtain ⟨u,_,rfl⟩:=List.mem_map.1 (List.mem_of_mem_take hr)
  exact ⟨xw E u,fun w hw=>yb h hw⟩) zd
 refine ⟨k1,fun w hw=>?_⟩
 have h1:(((zG n E).take i).countP fun r=>decide ((w:Int)∈r))≤((zG n E).take i).length:=List.countP_le_length
 rw [List.length_take,yh] at h1
 unfold Zf
 rw [k2 w hw,nth_eq (by simpa using hw)]
 simp
 omega
theorem zjZ (n:Nat) (E:List (Nat×Nat)) (hn:n≤300) (hE:E.length≤100000) (hin:InN n E):zU Try.prog 36 [.int .i64 n,.list 2 (E.map edf)] .sh (.tup [.list 1 ((if (zV n E).length<n then [] else zV n E).map zp),.bool (!decide ((zV n E).length<n))]):=by
 refine zU.of_body (c:=(xT Try.prog zE zt 104)) ⟨Try.func36,rfl,Try.ntmps36,by kernel_rfl⟩ zL zw rfl ?_
 change FW _ _ _ ⟨[(0,.int .i64 n),(1,.list 2 (E.map edf))],[]⟩
 have hrl:=yh n E
 have hrn:=fun v (hv:v<n)=>xR E hv
 refine zb ?_
 refine yL (xG n E za za hin) (by repeat (first|exact zA.nil|refine zA.cons (by first|exact zc2.plain rfl rfl) ?_)) rfl rfl ?_
 rw [Us]
 refine zb ?_
 rw [show List.replicate n [FV.int .i64 0]=(List.replicate n 0).map zp by rw [List.map_replicate];rfl]
 refine FW.loop (fun i:Nat=>⟨[(0,.int .i64 n),(6,.list 1 ((zG n E).map Zp)),(7,.own 100 0 0 n),(26,.list 1 ((zG n E).map Zp)),(27,.int .i64 n),(28,.int .i64 i)],[(100,⟨0,.own,3,1,(Zf n E i).map zp⟩)]⟩) (fun i=>i≤n) (fun i=>n - i) 0 (Nat.zero_le _) ?_ ?_
 ·rw [hrl,show Zf n E 0=List.replicate n 0 from rfl]
  obtain ⟨z,hz⟩:∃ z,(List.replicate n (0:Int)).map zp=z:=⟨_,rfl⟩
  rw [hz]
  exact (FLe.cv [⟨100,some 25,0+1,⟨0,.own,3,1,z⟩⟩] (by repeat (first|exact .nil|refine .old rfl zc (by first|rfl|(simp;done)|(congr 1;omega)|(simp;omega)|(simp [List.take_of_length_le];done)|(refine congrArg (FV.int .i64) ?_;omega)) ?_)) (by repeat (first|exact .nil|refine .cons (.plain rfl rfl (by first|rfl|(simp;done)|(congr 1;omega)|(simp;omega)|(simp [List.take_of_length_le];done)|(refine congrArg (FV.int .i64) ?_;omega))) ?_|refine .cons (.own rfl (.head _) rfl (by first|rfl|(simp;done)|(congr 1;omega)|(simp;omega)|(simp [List.take_of_length_le];done)|(refine congrArg (FV.int .i64) ?_;omega))) ?_)))
 intro i hi
 obtain ⟨hml,hmb⟩:=zal hin i
 refine zb ?_
 refine FW.cond rfl (fun h=>?_) (fun h=>?_)
 ·have hlt:i<n:=by simpa using h
  clear h
  have hsl:=ZI E i
  have hms:=zam n E hlt
  refine zb ?_
  rw [hrn i hlt]
  skip
  generalize Zf n E i=M at hml hmb hms
  refine FW.loop (fun j:Nat=>⟨[(0,.int .i64 n),(6,.list 1 ((zG n E).map Zp)),(7,.own 100 0 0 n),(26,.list 1 ((zG n E).map Zp)),(27,.int .i64 n),(28,.int .i64 i),(32,.list 1 ((zj E i).map zp)),(33,.int .i64 (zj E i).length),(34,.int .i64 j)],[(100,⟨0,.own,3,1,(((zj E i).take j).foldl WB M).map zp⟩)]⟩) (fun j=>j≤(zj E i).length) (fun j=>(zj E i).length - j) 0 (Nat.zero_le _) ?_ ?_
  ·show FLe _ ⟨[(0,.int .i64 n),(6,.list 1 ((zG n E).map Zp)),(7,.own 100 0 0 n),(26,.list 1 ((zG n E).map Zp)),(27,.int .i64 n),(28,.int .i64 i),(32,.list 1 ((zj E i).map zp)),(33,.int .i64 (zj E i).length),(34,.int .i64 0)],[(100,⟨0,.own,3,1,M.map zp⟩)]⟩
   exact (FLe.cv [⟨100,some 100,0,⟨0,.own,3,1,M.map zp⟩⟩] (by repeat (first|exact .nil|refine .old rfl zc (by first|rfl|(simp;done)|(congr 1;omega)|(simp;omega)|(simp [List.take_of_length_le];done)|(refine congrArg (FV.int .i64) ?_;omega)) ?_)) (by repeat (first|exact .nil|refine .cons (.plain rfl rfl (by first|rfl|(simp;done)|(congr 1;omega)|(simp;omega)|(simp [List.take_of_length_le];done)|(refine congrArg (FV.int .i64) ?_;omega))) ?_|refine .cons (.own rfl (.head _) rfl (by first|rfl|(simp;done)|(congr 1;omega)|(simp;omega)|(simp [List.take_of_length_le];done)|(refine congrArg (FV.int .i64) ?_;omega))) ?_)))
  intro j hj
  refine zb ?_
  refine FW.cond rfl (fun h=>?_) (fun h=>?_)
  ·have hlt2:j<(zj E i).length:=by simpa using h
   clear h
   obtain ⟨w,hw⟩:∃ w:Nat,nth (zj E i) j=w:=⟨(nth (zj E i) j).toNat,by have:=(yb hin (zu hlt2)).1;omega⟩
   have hwn:w<n:=by have:=(yb hin (zu hlt2)).2;omega
   have hst:((zj E i).take (j+1)).foldl WB M=(((zj E i).take j).foldl WB M).set w (nth (((zj E i).take j).foldl WB M) w+1):=by
    rw [List.take_succ_eq_append_getElem hlt2,List.foldl_append,← nth_eq hlt2,hw];rfl
   have hbd:0≤nth (((zj E i).take j).foldl WB M) w∧nth (((zj E i).take j).foldl WB M) w≤n+1:=by
    rw [WD (n:=n) (List.Nodup.sublist (List.take_sublist _ _) (xw E i)) (fun q hq=>yb hin (List.mem_of_mem_take hq)) hml w hwn]
    have:=hmb w hwn
    split <;> omega
   have hzl:(((zj E i).take j).foldl WB M).length=n:=by rw [WC];exact hml
   obtain ⟨Z,hZ⟩:∃ Z,((zj E i).take j).foldl WB M=Z:=⟨_,rfl⟩
   rw [hZ] at hst hbd hzl ⊢
   refine zb ?_
   rw [hw,Int.toNat_natCast]
   refine zb ?_
   rw [show (zp (nth Z w)).set 0 (.int .i64 (nth Z w+1))=zp (nth Z w+1) from rfl,← List.map_set,← hst]
   skip
   refine ⟨j+1,by omega,by omega,?_⟩
   obtain ⟨Y,hY⟩:∃ Y,(((zj E i).take (j+1)).foldl WB M).map zp=Y:=⟨_,rfl⟩
   rw [hY]
   exact (FLe.cv [⟨100,some 100,0,⟨0,.own,3,1,Y⟩⟩] (by repeat (first|exact .nil|refine .old rfl zc (by first|rfl|(simp;done)|(congr 1;omega)|(simp;omega)|(simp [List.take_of_length_le];done)|(refine congrArg (FV.int .i64) ?_;omega)) ?_)) (by repeat (first|exact .nil|refine .cons (.plain rfl rfl (by first|rfl|(simp;done)|(congr 1;omega)|(simp;omega)|(simp [List.take_of_length_le];done)|(refine congrArg (FV.int .i64) ?_;omega))) ?_|refine .cons (.own rfl (.head _) rfl (by first|rfl|(simp;done)|(congr 1;omega)|(simp;omega)|(simp [List.take_of_length_le];done)|(refine congrArg (FV.int .i64) ?_;omega))) ?_)))
  ·obtain rfl:j=(zj E i).length:=by simp at h;omega
   clear h hj
   rw [List.take_length,← hms]
   refine zb ?_
   refine ⟨i+1,by omega,by omega,?_⟩
   exact (FLe.cv [⟨100,some 100,0,⟨0,.own,3,1,(Zf n E (i+1)).map zp⟩⟩] (by repeat (first|exact .nil|refine .old rfl zc (by first|rfl|(simp;done)|(congr 1;omega)|(simp;omega)|(simp [List.take_of_length_le];done)|(refine congrArg (FV.int .i64) ?_;omega)) ?_)) (by repeat (first|exact .nil|refine .cons (.plain rfl rfl (by first|rfl|(simp;done)|(congr 1;omega)|(simp;omega)|(simp [List.take_of_length_le];done)|(refine congrArg (FV.int .i64) ?_;omega))) ?_|refine .cons (.own rfl (.head _) rfl (by first|rfl|(simp;done)|(congr 1;omega)|(simp;omega)|(simp [List.take_of_length_le];done)|(refine congrArg (FV.int .i64) ?_;omega))) ?_)))
 ·obtain rfl:i=n:=by simp at h;omega
  clear h hi hml hmb
  rw [zbK]
  obtain ⟨hml,hmc⟩:=Vs hin
  have hcb:∀ w,zco i E [] w≤i:=fun w=>by
   have:zco i E [] w≤(List.range i).length:=List.countP_le_length
   rwa [List.length_range] at this
  refine zb ?_
  refine zjt (f:=.own 46 (0+1) 0 0) rfl (.inr (.inl ⟨_,_,_,_,rfl,⟨by show ya.own≠.dead;decide,rfl⟩⟩)) rfl rfl rfl ?_
  refine zaB rfl rfl rfl rfl rfl ?_
  refine zb ?_
  obtain ⟨n,hni⟩:∃ n,i=n:=⟨_,rfl⟩
  subst hni
  generalize hMM:zak i E=M at hml hmc
  obtain ⟨n,hni⟩:∃ n,n=i:=⟨_,rfl⟩
  subst hni
  refine FW.loop (fun k:Nat=>⟨[(0,.int .i64 n),(6,.list 1 ((zG n E).map Zp)),(7,.own 100 0 0 n),(12,.ptr 110 0 0 0),(13,.wrap (.fn 60) [.ptr 110 0 0 0]),(49,.own 100 0 0 n),(50,.int .i64 n),(51,.int .i64 k)],[(100,⟨0,.own,3,1,M.map zp⟩),(110,⟨0,.hrow,96,1,[[.ptr 111 0 0 0]]⟩),(111,⟨0,.hrow,97,1,[[.own 112 0 0 (yI M k).length]]⟩),(112,⟨0,.own,3,1,(yI M k).map zp⟩)]⟩) (fun k=>k≤n) (fun k=>n - k) 0 (Nat.zero_le _) ?_ ?_
  ·show FLe _ ⟨[(0,.int .i64 n),(6,.list 1 ((zG n E).map Zp)),(7,.own 100 0 0 n),(12,.ptr 110 0 0 0),(13,.wrap (.fn 60) [.ptr 110 0 0 0]),(49,.own 100 0 0 n),(50,.int .i64 n),(51,.int .i64 0)],[(100,⟨0,.own,3,1,M.map zp⟩),(110,⟨0,.hrow,96,1,[[.ptr 111 0 0 0]]⟩),(111,⟨0,.hrow,97,1,[[.own 112 0 0 0]]⟩),(112,⟨0,.own,3,1,[]⟩)]⟩
   exact (FLe.cv [⟨100,some 100,0,⟨0,.own,3,1,M.map zp⟩⟩,⟨110,some 12,0+1,⟨0,.hrow,96,1,[[.ptr 111 0 0 0]]⟩⟩,⟨111,some 47,0+1,⟨0,.hrow,97,1,[[.own 112 0 0 0]]⟩⟩,⟨112,some 46,0+1,⟨0,.own,3,1,[]⟩⟩] (by repeat (first|exact .nil|refine .old rfl zc (by first|rfl|(simp;done)|(congr 1;omega)|(simp;omega)|(simp [List.take_of_length_le];done)|(refine congrArg (FV.int .i64) ?_;omega)) ?_|refine .oldH rfl (by repeat (first|exact .nil|refine .cons (.ptr (.tail _ (.tail _ (.head _))) rfl) ?_|refine .cons (.own (.tail _ (.tail _ (.tail _ (.head _)))) rfl (by first|rfl|(simp;done)|(congr 1;omega)|(simp;omega)|(simp [List.take_of_length_le];done)|(refine congrArg (FV.int .i64) ?_;omega)) (by first|rfl|(simp;done)|(congr 1;omega)|(simp;omega)|(simp [List.take_of_length_le];done)|(refine congrArg (FV.int .i64) ?_;omega))) ?_)) ?_)) (by repeat (first|exact .nil|refine .cons (.plain rfl rfl (by first|rfl|(simp;done)|(congr 1;omega)|(simp;omega)|(simp [List.take_of_length_le];done)|(refine congrArg (FV.int .i64) ?_;omega))) ?_|refine .cons (.own rfl (.head _) rfl (by first|rfl|(simp;done)|(congr 1;omega)|(simp;omega)|(simp [List.take_of_length_le];done)|(refine congrArg (FV.int .i64) ?_;omega))) ?_|refine .cons (.ptr rfl (.tail _ (.head _)) rfl) ?_|refine .cons (.wrap rfl (by repeat (first|exact zf.nil|refine zf.cons (.plain rfl rfl) ?_|refine zf.cons (.ptr (.head _) rfl) ?_|refine zf.cons (.own (.head _) rfl rfl rfl) ?_|refine zf.cons (.omap (.head _) rfl) ?_|refine zf.cons (.ptr (.tail _ (.head _)) rfl) ?_|refine zf.cons (.own (.tail _ (.head _)) rfl rfl rfl) ?_|refine zf.cons (.omap (.tail _ (.head _)) rfl) ?_|refine zf.cons (.ptr (.tail _ (.tail _ (.head _))) rfl) ?_|refine zf.cons (.own (.tail _ (.tail _ (.head _))) rfl rfl rfl) ?_|refine zf.cons (.omap (.tail _ (.tail _ (.head _))) rfl) ?_|refine zf.cons (.ptr (.tail _ (.tail _ (.tail _ (.head _)))) rfl) ?_|refine zf.cons (.own (.tail _ (.tail _ (.tail _ (.head _)))) rfl rfl rfl) ?_|refine zf.cons (.omap (.tail _ (.tail _ (.tail _ (.head _)))) rfl) ?_))) ?_)))
  intro k hk
  refine zb ?_
  refine FW.cond rfl (fun h=>?_) (fun h=>?_)
  ·have hlt:k<n:=by simpa using h
   clear h
   have hmk:=hmc k hlt
   have hck:=hcb k
   have hrs:yI M (k+1)=if nth M k=0 then Zz (yI M k) k else yI M k:=by
    unfold yI
    rw [List.range_succ,List.foldl_append];rfl
   have hrl:(yI M k).length≤k:=xD (xP M k).2.1 fun x hx=>(((xP M k).2.2 x).1 hx).1
   obtain ⟨H,hH⟩:∃ H,yI M k=H:=⟨_,rfl⟩
   rw [hH] at hrs hrl ⊢
   refine zb ?_
   refine FW.cond rfl (fun h=>?_) (fun h=>?_)
   ·rw [if_pos (by simpa using h)] at hrs
    refine zb ?_
    refine WU rfl (YC 0 0 0 H k za) [(5002,110),(5000,111),(5001,112)] rfl (zq.cons rfl rfl rfl (zq.cons rfl rfl rfl (zq.cons rfl rfl rfl zq.nil))) rfl rfl rfl rfl rfl rfl ?_
    rintro _ ob' ⟨rfl,h2,h0,h1⟩
    refine yM.one [(110,⟨0,.hrow,96,1,[[.ptr 111 0 0 0]]⟩),(111,⟨0,.hrow,97,1,[[.own 112 (0+1) 0 (H.length+1)]]⟩),(112,⟨0+1,.own,3,1,(Zz H k).map zp⟩)] (.tup []) rfl (by show [(110,zm.ren _ (look {} ob' 5002)),(111,zm.ren _ (look {} ob' 5000)),(112,zm.ren _ (look {} ob' 5001))]=_;rw [h2,h0,h1];rfl) ?_
    clear h2 h0 h1 ob'
    refine zb ?_
    refine ⟨k+1,by omega,by omega,?_⟩
    rw [hrs]
    have hpl:=YV H k
    generalize Zz H k=Y at hpl
    rw [hpl]
    exact (FLe.cv [⟨100,some 100,0,⟨0,.own,3,1,M.map zp⟩⟩,⟨110,some 110,0,⟨0,.hrow,96,1,[[.ptr 111 0 0 0]]⟩⟩,⟨111,some 111,0,⟨0,.hrow,97,1,[[.own 112 0 0 (H.length+1)]]⟩⟩,⟨112,some 112,0+1,⟨0,.own,3,1,Y.map zp⟩⟩] (by repeat (first|exact .nil|refine .old rfl zc (by first|rfl|(simp;done)|(congr 1;omega)|(simp;omega)|(simp [List.take_of_length_le];done)|(refine congrArg (FV.int .i64) ?_;omega)) ?_|refine .oldH rfl (by repeat (first|exact .nil|refine .cons (.ptr (.tail _ (.tail _ (.head _))) rfl) ?_|refine .cons (.own (.tail _ (.tail _ (.tail _ (.head _)))) rfl (by first|rfl|(simp;done)|(congr 1;omega)|(simp;omega)|(simp [List.take_of_length_le];done)|(refine congrArg (FV.int .i64) ?_;omega)) (by first|rfl|(simp;done)|(congr 1;omega)|(simp;omega)|(simp [List.take_of_length_le];done)|(refine congrArg (FV.int .i64) ?_;omega))) ?_)) ?_)) (by repeat (first|exact .nil|refine .cons (.plain rfl rfl (by first|rfl|(simp;done)|(congr 1;omega)|(simp;omega)|(simp [List.take_of_length_le];done)|(refine congrArg (FV.int .i64) ?_;omega))) ?_|refine .cons (.own rfl (.head _) rfl (by first|rfl|(simp;done)|(congr 1;omega)|(simp;omega)|(simp [List.take_of_length_le];done)|(refine congrArg (FV.int .i64) ?_;omega))) ?_|refine .cons (.ptr rfl (.tail _ (.head _)) rfl) ?_|refine .cons (.wrap rfl (by repeat (first|exact zf.nil|refine zf.cons (.plain rfl rfl) ?_|refine zf.cons (.ptr (.head _) rfl) ?_|refine zf.cons (.own (.head _) rfl rfl rfl) ?_|refine zf.cons (.omap (.head _) rfl) ?_|refine zf.cons (.ptr (.tail _ (.head _)) rfl) ?_|refine zf.cons (.own (.tail _ (.head _)) rfl rfl rfl) ?_|refine zf.cons (.omap (.tail _ (.head _)) rfl) ?_|refine zf.cons (.ptr (.tail _ (.tail _ (.head _))) rfl) ?_|refine zf.cons (.own (.tail _ (.tail _ (.head _))) rfl rfl rfl) ?_|refine zf.cons (.omap (.tail _ (.tail _ (.head _))) rfl) ?_|refine zf.cons (.ptr (.tail _ (.tail _ (.tail _ (.head _)))) rfl) ?_|refine zf.cons (.own (.tail _ (.tail _ (.tail _ (.head _)))) rfl rfl rfl) ?_|refine zf.cons (.omap (.tail _ (.tail _ (.tail _ (.head _)))) rfl) ?_))) ?_)))
   ·rw [if_neg (by simpa using h)] at hrs
    refine zb ?_
    refine ⟨k+1,by omega,by omega,?_⟩
    rw [hrs]
    exact (FLe.cv [⟨100,some 100,0,⟨0,.own,3,1,M.map zp⟩⟩,⟨110,some 110,0,⟨0,.hrow,96,1,[[.ptr 111 0 0 0]]⟩⟩,⟨111,some 111,0,⟨0,.hrow,97,1,[[.own 112 0 0 H.length]]⟩⟩,⟨112,some 112,0,⟨0,.own,3,1,H.map zp⟩⟩] (by repeat (first|exact .nil|refine .old rfl zc (by first|rfl|(simp;done)|(congr 1;omega)|(simp;omega)|(simp [List.take_of_length_le];done)|(refine congrArg (FV.int .i64) ?_;omega)) ?_|refine .oldH rfl (by repeat (first|exact .nil|refine .cons (.ptr (.tail _ (.tail _ (.head _))) rfl) ?_|refine .cons (.own (.tail _ (.tail _ (.tail _ (.head _)))) rfl (by first|rfl|(simp;done)|(congr 1;omega)|(simp;omega)|(simp [List.take_of_length_le];done)|(refine congrArg (FV.int .i64) ?_;omega)) (by first|rfl|(simp;done)|(congr 1;omega)|(simp;omega)|(simp [List.take_of_length_le];done)|(refine congrArg (FV.int .i64) ?_;omega))) ?_)) ?_)) (by repeat (first|exact .nil|refine .cons (.plain rfl rfl (by first|rfl|(simp;done)|(congr 1;omega)|(simp;omega)|(simp [List.take_of_length_le];done)|(refine congrArg (FV.int .i64) ?_;omega))) ?_|refine .cons (.own rfl (.head _) rfl (by first|rfl|(simp;done)|(congr 1;omega)|(simp;omega)|(simp [List.take_of_length_le];done)|(refine congrArg (FV.int .i64) ?_;omega))) ?_|refine .cons (.ptr rfl (.tail _ (.head _)) rfl) ?_|refine .cons (.wrap rfl (by repeat (first|exact zf.nil|refine zf.cons (.plain rfl rfl) ?_|refine zf.cons (.ptr (.head _) rfl) ?_|refine zf.cons (.own (.head _) rfl rfl rfl) ?_|refine zf.cons (.omap (.head _) rfl) ?_|refine zf.cons (.ptr (.tail _ (.head _)) rfl) ?_|refine zf.cons (.own (.tail _ (.head _)) rfl rfl rfl) ?_|refine zf.cons (.omap (.tail _ (.head _)) rfl) ?_|refine zf.cons (.ptr (.tail _ (.tail _ (.head _))) rfl) ?_|refine zf.cons (.own (.tail _ (.tail _ (.head _))) rfl rfl rfl) ?_|refine zf.cons (.omap (.tail _ (.tail _ (.head _))) rfl) ?_|refine zf.cons (.ptr (.tail _ (.tail _ (.tail _ (.head _)))) rfl) ?_|refine zf.cons (.own (.tail _ (.tail _ (.tail _ (.head _)))) rfl rfl rfl) ?_|refine zf.cons (.omap (.tail _ (.tail _ (.tail _ (.head _)))) rfl) ?_))) ?_)))
  ·obtain rfl:k=n:=by simp at h;omega
   clear h hk
   have hTI:=TI.start hin
   have hst:yf k E=⟨M,yI M k,[]⟩:=by unfold yf;rw [hMM]
   have hend:(zS E (k+1) (yf k E)).out=zV k E:=rfl
   rw [hst] at hTI hend
   refine zb ?_
   obtain ⟨n,hni⟩:∃ n,n=k:=⟨_,rfl⟩
   subst hni
   generalize yI M n=H at hTI hend
   clear hMM hst hcb hmc hml
   refine FW.loop (fun s:zbl=>⟨[(0,.int .i64 n),(6,.list 1 ((zG n E).map Zp)),(7,.own 100 0 0 n),(12,.ptr 110 0 0 0),(13,.wrap (.fn 60) [.ptr 110 0 0 0]),(16,.own 101 0 0 s.out.length),(17,.wrap (.bound 62) [.ptr 111 0 0 0])],[(101,⟨0,.own,3,1,s.out.map zp⟩),(100,⟨0,.own,3,1,s.m.map zp⟩),(110,⟨0,.hrow,96,1,[[.ptr 111 0 0 0]]⟩),(111,⟨0,.hrow,97,1,[[.own 112 0 0 s.h.length]]⟩),(112,⟨0,.own,3,1,s.h.map zp⟩)]⟩) (fun s=>TI n E s∧∃ k,n<s.out.length+k∧(zS E k s).out=zV n E) (fun s=>n - s.out.length) ⟨M,H,[]⟩ ⟨hTI,n+1,by show n<0+(n+1);omega,hend⟩ ?_ ?_
   ·show FLe _ ⟨[(0,.int .i64 n),(6,.list 1 ((zG n E).map Zp)),(7,.own 100 0 0 n),(12,.ptr 110 0 0 0),(13,.wrap (.fn 60) [.ptr 110 0 0 0]),(16,.own 101 0 0 0),(17,.wrap (.bound 62) [.ptr 111 0 0 0])],[(101,⟨0,.own,3,1,[]⟩),(100,⟨0,.own,3,1,M.map zp⟩),(110,⟨0,.hrow,96,1,[[.ptr 111 0 0 0]]⟩),(111,⟨0,.hrow,97,1,[[.own 112 0 0 H.length]]⟩),(112,⟨0,.own,3,1,H.map zp⟩)]⟩
    exact (FLe.cv [⟨101,none,0,⟨0,.own,3,1,[]⟩⟩,⟨100,some 100,0,⟨0,.own,3,1,M.map zp⟩⟩,⟨110,some 110,0,⟨0,.hrow,96,1,[[.ptr 111 0 0 0]]⟩⟩,⟨111,some 111,0,⟨0,.hrow,97,1,[[.own 112 0 0 H.length]]⟩⟩,⟨112,some 112,0,⟨0,.own,3,1,H.map zp⟩⟩] (by repeat (first|exact .nil|refine .old rfl zc (by first|rfl|(simp;done)|(congr 1;omega)|(simp;omega)|(simp [List.take_of_length_le];done)|(refine congrArg (FV.int .i64) ?_;omega)) ?_|refine .oldH rfl (by repeat (first|exact .nil|refine .cons (.ptr (.tail _ (.tail _ (.tail _ (.head _)))) rfl) ?_|refine .cons (.own (.tail _ (.tail _ (.tail _ (.tail _ (.head _))))) rfl (by first|rfl|(simp;done)|(congr 1;omega)|(simp;omega)|(simp [List.take_of_length_le];done)|(refine congrArg (FV.int .i64) ?_;omega)) (by first|rfl|(simp;done)|(congr 1;omega)|(simp;omega)|(simp [List.take_of_length_le];done)|(refine congrArg (FV.int .i64) ?_;omega))) ?_)) ?_|refine .new ?_)) (by repeat (first|exact .nil|refine .cons (.plain rfl rfl (by first|rfl|(simp;done)|(congr 1;omega)|(simp;omega)|(simp [List.take_of_length_le];done)|(refine congrArg (FV.int .i64) ?_;omega))) ?_|refine .cons (.nil rfl (.head _) rfl) ?_|refine .cons (.own rfl (.tail _ (.head _)) rfl (by first|rfl|(simp;done)|(congr 1;omega)|(simp;omega)|(simp [List.take_of_length_le];done)|(refine congrArg (FV.int .i64) ?_;omega))) ?_|refine .cons (.ptr rfl (.tail _ (.tail _ (.head _))) rfl) ?_|refine .cons (.wrap rfl (by repeat (first|exact zf.nil|refine zf.cons (.plain rfl rfl) ?_|refine zf.cons (.ptr (.head _) rfl) ?_|refine zf.cons (.own (.head _) rfl rfl rfl) ?_|refine zf.cons (.omap (.head _) rfl) ?_|refine zf.cons (.ptr (.tail _ (.head _)) rfl) ?_|refine zf.cons (.own (.tail _ (.head _)) rfl rfl rfl) ?_|refine zf.cons (.omap (.tail _ (.head _)) rfl) ?_|refine zf.cons (.ptr (.tail _ (.tail _ (.head _))) rfl) ?_|refine zf.cons (.own (.tail _ (.tail _ (.head _))) rfl rfl rfl) ?_|refine zf.cons (.omap (.tail _ (.tail _ (.head _))) rfl) ?_|refine zf.cons (.ptr (.tail _ (.tail _ (.tail _ (.head _)))) rfl) ?_|refine zf.cons (.own (.tail _ (.tail _ (.tail _ (.head _)))) rfl rfl rfl) ?_|refine zf.cons (.omap (.tail _ (.tail _ (.tail _ (.head _)))) rfl) ?_|refine zf.cons (.ptr (.tail _ (.tail _ (.tail _ (.tail _ (.head _))))) rfl) ?_|refine zf.cons (.own (.tail _ (.tail _ (.tail _ (.tail _ (.head _))))) rfl rfl rfl) ?_|refine zf.cons (.omap (.tail _ (.tail _ (.tail _ (.tail _ (.head _))))) rfl) ?_))) ?_)))
   clear hTI hend M H
   rintro ⟨m,h,out⟩ ⟨hTI,fu,hfu,hend⟩
   dsimp only at hfu hend ⊢
   have hhl:h.length≤n:=hTI.hle
   have hml:m.length=n:=hTI.len
   have hol:out.length≤n:=hTI.le
   refine zb ?_
   refine zel rfl (Xz 0 0 h) [(5000,111),(5001,112)] rfl (zq.cons rfl rfl rfl (zq.cons rfl rfl rfl zq.nil)) rfl rfl rfl rfl rfl rfl ?_
   rintro _ ob' ⟨rfl,h1,h2⟩
   refine yM.one [(111,⟨0,.hrow,97,1,[[.own 112 0 0 h.length]]⟩),(112,⟨0,.own,3,1,h.map zp⟩)] (.int .i64 h.length) rfl (by show [(111,zm.ren _ (look {} ob' 5000)),(112,zm.ren _ (look {} ob' 5001))]=_;rw [h1,h2];rfl) ?_
   clear h1 h2 ob'
   refine zb ?_
   refine FW.cond rfl (fun hc=>?_) (fun hc=>?_)
   ·obtain ⟨k,hk⟩:∃ k,h.length=k+1:=⟨h.length - 1,by simp at hc;omega⟩
    clear hc
    refine zb ?_
    refine xq (zbB 0 0 h k hk za) [(5000,111),(5001,112)] rfl (zq.cons rfl rfl rfl (zq.cons rfl rfl rfl zq.nil)) rfl rfl rfl rfl rfl rfl ?_
    rintro _ ob' ⟨rfl,h1,h2⟩
    refine yM.one [(111,⟨0,.hrow,97,1,[[.own 112 (0+1) 0 k]]⟩),(112,⟨0+1,.own,3,1,((yC h k).take k).map zp⟩)] (.iface 3 (.int .i64 (nth (yC h k) k))) rfl (by show [(111,zm.ren _ (look {} ob' 5000)),(112,zm.ren _ (look {} ob' 5001))]=_;rw [h1,h2];rfl) ?_
    clear h1 h2 ob'
    obtain ⟨v,hv,hvn,hvo,hm0,hmin,hDI,hN,hR⟩:=hTI.first hk
    dsimp only at hv hvo hm0 hmin hDI hN hR
    rw [hv]
    have hstep:yx E ⟨m,h,out⟩=⟨((zj E v).foldl decr (m,(yC h k).take k)).1,((zj E v).foldl decr (m,(yC h k).take k)).2,out++[(v:Int)]⟩:=by
     unfold yx
     dsimp only
     rw [show h.length - 1=k by omega,hv];rfl
    have hTI':=hTI.step hin (by rintro e;rw [show h=[] from e] at hk;simp at hk)
    rw [hstep] at hTI'
    have hend' : ∀ f,fu=f+1→(zS E f (yx E ⟨m,h,out⟩)).out=zV n E:=fun f hf=>by
     subst hf
     rw [← hend]
     exact (congrArg zbl.out (show zS E (f+1) ⟨m,h,out⟩=zS E f (yx E ⟨m,h,out⟩) from if_neg (by rintro e;rw [show h=[] from e] at hk;simp at hk))).symm
    rw [hstep] at hend'
    have hsl:=ZI E v
    refine zb ?_
    rw [hrn v hvn]
    obtain ⟨O,hO⟩:∃ O,out++[(v:Int)]=O:=⟨_,rfl⟩
    obtain ⟨Om,hOm⟩:∃ Om,out.map zp++[[.int .i64 v]]=Om:=⟨_,rfl⟩
    have hOO:O.map zp=Om:=by rw [← hO,← hOm,List.map_append];rfl
    have hOl:Om.length=O.length:=by rw [← hOO,List.length_map]
    have hOl2:O.length=out.length+1:=by rw [← hO];simp
    rw [hO] at hDI hN hR hTI' hend'
    rw [hOm,hOl]
    have htl:((yC h k).take k).length=k:=by rw [List.length_take,WA];omega
    obtain ⟨H0,hH0⟩:∃ H0,(yC h k).take k=H0:=⟨_,rfl⟩
    rw [hH0] at hDI htl hTI' hend' ⊢
    clear hstep hH0 hv hmin
    refine FW.loop (fun j:Nat=>⟨[(0,.int .i64 n),(6,.list 1 ((zG n E).map Zp)),(7,.own 100 0 0 n),(12,.ptr 110 0 0 0),(13,.wrap (.fn 60) [.ptr 110 0 0 0]),(16,.own 101 0 0 O.length),(17,.wrap (.bound 62) [.ptr 111 0 0 0]),(78,.list 1 ((zj E v).map zp)),(79,.int .i64 (zj E v).length),(80,.int .i64 j)],[(101,⟨0,.own,3,1,O.map zp⟩),(100,⟨0,.own,3,1,(((zj E v).take j).foldl decr (m,H0)).1.map zp⟩),(110,⟨0,.hrow,96,1,[[.ptr 111 0 0 0]]⟩),(111,⟨0,.hrow,97,1,[[.own 112 0 0 (((zj E v).take j).foldl decr (m,H0)).2.length]]⟩),(112,⟨0,.own,3,1,(((zj E v).take j).foldl decr (m,H0)).2.map zp⟩)]⟩) (fun j=>j≤(zj E v).length) (fun j=>(zj E v).length - j) 0 (Nat.zero_le _) ?_ ?_
    ·show FLe _ ⟨[(0,.int .i64 n),(6,.list 1 ((zG n E).map Zp)),(7,.own 100 0 0 n),(12,.ptr 110 0 0 0),(13,.wrap (.fn 60) [.ptr 110 0 0 0]),(16,.own 101 0 0 O.length),(17,.wrap (.bound 62) [.ptr 111 0 0 0]),(78,.list 1 ((zj E v).map zp)),(79,.int .i64 (zj E v).length),(80,.int .i64 0)],[(101,⟨0,.own,3,1,O.map zp⟩),(100,⟨0,.own,3,1,m.map zp⟩),(110,⟨0,.hrow,96,1,[[.ptr 111 0 0 0]]⟩),(111,⟨0,.hrow,97,1,[[.own 112 0 0 H0.length]]⟩),(112,⟨0,.own,3,1,H0.map zp⟩)]⟩
     rw [← hOO,htl]
     exact (FLe.cv [⟨101,some 74,0+1,⟨0,.own,3,1,O.map zp⟩⟩,⟨100,some 100,0,⟨0,.own,3,1,m.map zp⟩⟩,⟨110,some 110,0,⟨0,.hrow,96,1,[[.ptr 111 0 0 0]]⟩⟩,⟨111,some 111,0,⟨0,.hrow,97,1,[[.own 112 0 0 k]]⟩⟩,⟨112,some 112,0+1,⟨0,.own,3,1,H0.map zp⟩⟩] (by repeat (first|exact .nil|refine .old rfl zc (by first|rfl|(simp;done)|(congr 1;omega)|(simp;omega)|(simp [List.take_of_length_le];done)|(refine congrArg (FV.int .i64) ?_;omega)) ?_|refine .oldH rfl (by repeat (first|exact .nil|refine .cons (.ptr (.tail _ (.tail _ (.tail _ (.head _)))) rfl) ?_|refine .cons (.own (.tail _ (.tail _ (.tail _ (.tail _ (.head _))))) rfl (by first|rfl|(simp;done)|(congr 1;omega)|(simp;omega)|(simp [List.take_of_length_le];done)|(refine congrArg (FV.int .i64) ?_;omega)) (by first|rfl|(simp;done)|(congr 1;omega)|(simp;omega)|(simp [List.take_of_length_le];done)|(refine congrArg (FV.int .i64) ?_;omega))) ?_)) ?_)) (by repeat (first|exact .nil|refine .cons (.plain rfl rfl (by first|rfl|(simp;done)|(congr 1;omega)|(simp;omega)|(simp [List.take_of_length_le];done)|(refine congrArg (FV.int .i64) ?_;omega))) ?_|refine .cons (.own rfl (.head _) rfl (by first|rfl|(simp;done)|(congr 1;omega)|(simp;omega)|(simp [List.take_of_length_le];done)|(refine congrArg (FV.int .i64) ?_;omega))) ?_|refine .cons (.own rfl (.tail _ (.head _)) rfl (by first|rfl|(simp;done)|(congr 1;omega)|(simp;omega)|(simp [List.take_of_length_le];done)|(refine congrArg (FV.int .i64) ?_;omega))) ?_|refine .cons (.ptr rfl (.tail _ (.tail _ (.head _))) rfl) ?_|refine .cons (.wrap rfl (by repeat (first|exact zf.nil|refine zf.cons (.plain rfl rfl) ?_|refine zf.cons (.ptr (.head _) rfl) ?_|refine zf.cons (.own (.head _) rfl rfl rfl) ?_|refine zf.cons (.omap (.head _) rfl) ?_|refine zf.cons (.ptr (.tail _ (.head _)) rfl) ?_|refine zf.cons (.own (.tail _ (.head _)) rfl rfl rfl) ?_|refine zf.cons (.omap (.tail _ (.head _)) rfl) ?_|refine zf.cons (.ptr (.tail _ (.tail _ (.head _))) rfl) ?_|refine zf.cons (.own (.tail _ (.tail _ (.head _))) rfl rfl rfl) ?_|refine zf.cons (.omap (.tail _ (.tail _ (.head _))) rfl) ?_|refine zf.cons (.ptr (.tail _ (.tail _ (.tail _ (.head _)))) rfl) ?_|refine zf.cons (.own (.tail _ (.tail _ (.tail _ (.head _)))) rfl rfl rfl) ?_|refine zf.cons (.omap (.tail _ (.tail _ (.tail _ (.head _)))) rfl) ?_|refine zf.cons (.ptr (.tail _ (.tail _ (.tail _ (.tail _ (.head _))))) rfl) ?_|refine zf.cons (.own (.tail _ (.tail _ (.tail _ (.tail _ (.head _))))) rfl rfl rfl) ?_|refine zf.cons (.omap (.tail _ (.tail _ (.tail _ (.tail _ (.head _))))) rfl) ?_))) ?_)))
    intro j hj
    have hDj:=DI.fold (r1:=(zj E v).take j) (r2:=(zj E v).drop j) hR (by rw [List.take_append_drop];exact hDI) (by rw [List.take_append_drop];exact xw E v) (by rw [List.take_append_drop];exact fun w hw=>yb hin hw)
    have hst:∀ hl:j<(zj E v).length,((zj E v).take (j+1)).foldl decr (m,H0)=decr (((zj E v).take j).foldl decr (m,H0)) (nth (zj E v) j):=fun hl=>by
     rw [List.take_succ_eq_append_getElem hl,List.foldl_append,← nth_eq hl];rfl
    have hlast:j=(zj E v).length→(zj E v).foldl decr (m,H0)=((zj E v).take j).foldl decr (m,H0):=fun e=>by rw [e,List.take_length]
    generalize ((zj E v).take j).foldl decr (m,H0)=q at hDj hst hlast
    obtain ⟨qm,qh⟩:=q
    have hql:qm.length=n:=hDj.len
    have hqh:qh.length≤n:=xD hDj.hN fun x hx=>((hDj.hM x).1 hx).1
    dsimp only
    refine zb ?_
    refine FW.cond rfl (fun hc=>?_) (fun hc=>?_)
    ·have hlt2:j<(zj E v).length:=by simpa using hc
     clear hc hlast
     have hst:=hst hlt2
     obtain ⟨w,hw⟩:∃ w:Nat,nth (zj E v) j=w:=⟨(nth (zj E v) j).toNat,by have:=(yb hin (zu hlt2)).1;omega⟩
     have hwn:w<n:=by have:=(yb hin (zu hlt2)).2;omega
     have hbd:0≤nth qm w∧nth qm w≤n+1:=by
      have h1:=hDj.cnt w hwn
      have h2:zco n E O w≤(List.range n).length:=List.countP_le_length
      rw [List.length_range] at h2
      dsimp only at h1
      rw [h1]
      split <;> omega
     have hdec:decr (qm,qh) (w:Int)=(qm.set w (nth qm w - 1),if nth qm w - 1=0 then Zz qh w else qh):=by unfold decr;rw [Int.toNat_natCast]
     rw [hw,hdec] at hst
     obtain ⟨Z,hZ⟩:∃ Z,qm.set w (nth qm w - 1)=Z:=⟨_,rfl⟩
     have hZl:Z.length=n:=by rw [← hZ];simpa using hql
     have hZw:nth Z w=nth qm w - 1:=by rw [← hZ];exact zF za
     rw [hZ] at hst
     refine zb ?_
     rw [hw,Int.toNat_natCast]
     refine zb ?_
     rw [show (zp (nth qm w)).set 0 (.int .i64 (nth qm w - 1))=zp (nth qm w - 1) from rfl,← List.map_set,hZ]
     refine zb ?_
     rw [hZw]
     skip
     refine FW.cond rfl (fun hc=>?_) (fun hc=>?_)
     ·rw [if_pos (by simpa using hc)] at hst
      refine zb ?_
      refine WU rfl (YC 0 0 0 qh w za) [(5002,110),(5000,111),(5001,112)] rfl (zq.cons rfl rfl rfl (zq.cons rfl rfl rfl (zq.cons rfl rfl rfl zq.nil))) rfl rfl rfl rfl rfl rfl ?_
      rintro _ ob' ⟨rfl,h2,h0,h1⟩
      refine yM.one [(110,⟨0,.hrow,96,1,[[.ptr 111 0 0 0]]⟩),(111,⟨0,.hrow,97,1,[[.own 112 (0+1) 0 (qh.length+1)]]⟩),(112,⟨0+1,.own,3,1,(Zz qh w).map zp⟩)] (.tup []) rfl (by show [(110,zm.ren _ (look {} ob' 5002)),(111,zm.ren _ (look {} ob' 5000)),(112,zm.ren _ (look {} ob' 5001))]=_;rw [h2,h0,h1];rfl) ?_
      clear h2 h0 h1 ob'
      refine zb ?_
      refine ⟨j+1,by omega,by omega,?_⟩
      rw [hst]
      dsimp only
      have hpl:=YV qh w
      generalize Zz qh w=Y at hpl
      rw [hpl]
      exact (FLe.cv [⟨101,some 101,0,⟨0,.own,3,1,O.map zp⟩⟩,⟨100,some 100,0,⟨0,.own,3,1,Z.map zp⟩⟩,⟨110,some 110,0,⟨0,.hrow,96,1,[[.ptr 111 0 0 0]]⟩⟩,⟨111,some 111,0,⟨0,.hrow,97,1,[[.own 112 0 0 (qh.length+1)]]⟩⟩,⟨112,some 112,0+1,⟨0,.own,3,1,Y.map zp⟩⟩] (by repeat (first|exact .nil|refine .old rfl zc (by first|rfl|(simp;done)|(congr 1;omega)|(simp;omega)|(simp [List.take_of_length_le];done)|(refine congrArg (FV.int .i64) ?_;omega)) ?_|refine .oldH rfl (by repeat (first|exact .nil|refine .cons (.ptr (.tail _ (.tail _ (.tail _ (.head _)))) rfl) ?_|refine .cons (.own (.tail _ (.tail _ (.tail _ (.tail _ (.head _))))) rfl (by first|rfl|(simp;done)|(congr 1;omega)|(simp;omega)|(simp [List.take_of_length_le];done)|(refine congrArg (FV.int .i64) ?_;omega)) (by first|rfl|(simp;done)|(congr 1;omega)|(simp;omega)|(simp [List.take_of_length_le];done)|(refine congrArg (FV.int .i64) ?_;omega))) ?_)) ?_)) (by repeat (first|exact .nil|refine .cons (.plain rfl rfl (by first|rfl|(simp;done)|(congr 1;omega)|(simp;omega)|(simp [List.take_of_length_le];done)|(refine congrArg (FV.int .i64) ?_;omega))) ?_|refine .cons (.own rfl (.head _) rfl (by first|rfl|(simp;done)|(congr 1;omega)|(simp;omega)|(simp [List.take_of_length_le];done)|(refine congrArg (FV.int .i64) ?_;omega))) ?_|refine .cons (.own rfl (.tail _ (.head _)) rfl (by first|rfl|(simp;done)|(congr 1;omega)|(simp;omega)|(simp [List.take_of_length_le];done)|(refine congrArg (FV.int .i64) ?_;omega))) ?_|refine .cons (.ptr rfl (.tail _ (.tail _ (.head _))) rfl) ?_|refine .cons (.wrap rfl (by repeat (first|exact zf.nil|refine zf.cons (.plain rfl rfl) ?_|refine zf.cons (.ptr (.head _) rfl) ?_|refine zf.cons (.own (.head _) rfl rfl rfl) ?_|refine zf.cons (.omap (.head _) rfl) ?_|refine zf.cons (.ptr (.tail _ (.head _)) rfl) ?_|refine zf.cons (.own (.tail _ (.head _)) rfl rfl rfl) ?_|refine zf.cons (.omap (.tail _ (.head _)) rfl) ?_|refine zf.cons (.ptr (.tail _ (.tail _ (.head _))) rfl) ?_|refine zf.cons (.own (.tail _ (.tail _ (.head _))) rfl rfl rfl) ?_|refine zf.cons (.omap (.tail _ (.tail _ (.head _))) rfl) ?_|refine zf.cons (.ptr (.tail _ (.tail _ (.tail _ (.head _)))) rfl) ?_|refine zf.cons (.own (.tail _ (.tail _ (.tail _ (.head _)))) rfl rfl rfl) ?_|refine zf.cons (.omap (.tail _ (.tail _ (.tail _ (.head _)))) rfl) ?_|refine zf.cons (.ptr (.tail _ (.tail _ (.tail _ (.tail _ (.head _))))) rfl) ?_|refine zf.cons (.own (.tail _ (.tail _ (.tail _ (.tail _ (.head _))))) rfl rfl rfl) ?_|refine zf.cons (.omap (.tail _ (.tail _ (.tail _ (.tail _ (.head _))))) rfl) ?_))) ?_)))
     ·rw [if_neg (by simpa using hc)] at hst
      refine zb ?_
      refine ⟨j+1,by omega,by omega,?_⟩
      rw [hst]
      dsimp only
      exact (FLe.cv [⟨101,some 101,0,⟨0,.own,3,1,O.map zp⟩⟩,⟨100,some 100,0,⟨0,.own,3,1,Z.map zp⟩⟩,⟨110,some 110,0,⟨0,.hrow,96,1,[[.ptr 111 0 0 0]]⟩⟩,⟨111,some 111,0,⟨0,.hrow,97,1,[[.own 112 0 0 qh.length]]⟩⟩,⟨112,some 112,0,⟨0,.own,3,1,qh.map zp⟩⟩] (by repeat (first|exact .nil|refine .old rfl zc (by first|rfl|(simp;done)|(congr 1;omega)|(simp;omega)|(simp [List.take_of_length_le];done)|(refine congrArg (FV.int .i64) ?_;omega)) ?_|refine .oldH rfl (by repeat (first|exact .nil|refine .cons (.ptr (.tail _ (.tail _ (.tail _ (.head _)))) rfl) ?_|refine .cons (.own (.tail _ (.tail _ (.tail _ (.tail _ (.head _))))) rfl (by first|rfl|(simp;done)|(congr 1;omega)|(simp;omega)|(simp [List.take_of_length_le];done)|(refine congrArg (FV.int .i64) ?_;omega)) (by first|rfl|(simp;done)|(congr 1;omega)|(simp;omega)|(simp [List.take_of_length_le];done)|(refine congrArg (FV.int .i64) ?_;omega))) ?_)) ?_)) (by repeat (first|exact .nil|refine .cons (.plain rfl rfl (by first|rfl|(simp;done)|(congr 1;omega)|(simp;omega)|(simp [List.take_of_length_le];done)|(refine congrArg (FV.int .i64) ?_;omega))) ?_|refine .cons (.own rfl (.head _) rfl (by first|rfl|(simp;done)|(congr 1;omega)|(simp;omega)|(simp [List.take_of_length_le];done)|(refine congrArg (FV.int .i64) ?_;omega))) ?_|refine .cons (.own rfl (.tail _ (.head _)) rfl (by first|rfl|(simp;done)|(congr 1;omega)|(simp;omega)|(simp [List.take_of_length_le];done)|(refine congrArg (FV.int .i64) ?_;omega))) ?_|refine .cons (.ptr rfl (.tail _ (.tail _ (.head _))) rfl) ?_|refine .cons (.wrap rfl (by repeat (first|exact zf.nil|refine zf.cons (.plain rfl rfl) ?_|refine zf.cons (.ptr (.head _) rfl) ?_|refine zf.cons (.own (.head _) rfl rfl rfl) ?_|refine zf.cons (.omap (.head _) rfl) ?_|refine zf.cons (.ptr (.tail _ (.head _)) rfl) ?_|refine zf.cons (.own (.tail _ (.head _)) rfl rfl rfl) ?_|refine zf.cons (.omap (.tail _ (.head _)) rfl) ?_|refine zf.cons (.ptr (.tail _ (.tail _ (.head _))) rfl) ?_|refine zf.cons (.own (.tail _ (.tail _ (.head _))) rfl rfl rfl) ?_|refine zf.cons (.omap (.tail _ (.tail _ (.head _))) rfl) ?_|refine zf.cons (.ptr (.tail _ (.tail _ (.tail _ (.head _)))) rfl) ?_|refine zf.cons (.own (.tail _ (.tail _ (.tail _ (.head _)))) rfl rfl rfl) ?_|refine zf.cons (.omap (.tail _ (.tail _ (.tail _ (.head _)))) rfl) ?_|refine zf.cons (.ptr (.tail _ (.tail _ (.tail _ (.tail _ (.head _))))) rfl) ?_|refine zf.cons (.own (.tail _ (.tail _ (.tail _ (.tail _ (.head _))))) rfl rfl rfl) ?_|refine zf.cons (.omap (.tail _ (.tail _ (.tail _ (.tail _ (.head _))))) rfl) ?_))) ?_)))
    ·have hje:j=(zj E v).length:=by simp at hc;omega
     rw [hlast hje] at hTI' hend'
     clear hc hlast hst
     refine zb ?_
     refine ⟨⟨qm,qh,O⟩,⟨hTI',fu - 1,by show n<O.length+(fu - 1);omega,hend' _ za⟩,by show n - O.length<n - out.length;have:=hTI'.le;dsimp only at this;omega,?_⟩
     exact (FLe.cv [⟨101,some 101,0,⟨0,.own,3,1,O.map zp⟩⟩,⟨100,some 100,0,⟨0,.own,3,1,qm.map zp⟩⟩,⟨110,some 110,0,⟨0,.hrow,96,1,[[.ptr 111 0 0 0]]⟩⟩,⟨111,some 111,0,⟨0,.hrow,97,1,[[.own 112 0 0 qh.length]]⟩⟩,⟨112,some 112,0,⟨0,.own,3,1,qh.map zp⟩⟩] (by repeat (first|exact .nil|refine .old rfl zc (by first|rfl|(simp;done)|(congr 1;omega)|(simp;omega)|(simp [List.take_of_length_le];done)|(refine congrArg (FV.int .i64) ?_;omega)) ?_|refine .oldH rfl (by repeat (first|exact .nil|refine .cons (.ptr (.tail _ (.tail _ (.tail _ (.head _)))) rfl) ?_|refine .cons (.own (.tail _ (.tail _ (.tail _ (.tail _ (.head _))))) rfl (by first|rfl|(simp;done)|(congr 1;omega)|(simp;omega)|(simp [List.take_of_length_le];done)|(refine congrArg (FV.int .i64) ?_;omega)) (by first|rfl|(simp;done)|(congr 1;omega)|(simp;omega)|(simp [List.take_of_length_le];done)|(refine congrArg (FV.int .i64) ?_;omega))) ?_)) ?_)) (by repeat (first|exact .nil|refine .cons (.plain rfl rfl (by first|rfl|(simp;done)|(congr 1;omega)|(simp;omega)|(simp [List.take_of_length_le];done)|(refine congrArg (FV.int .i64) ?_;omega))) ?_|refine .cons (.own rfl (.head _) rfl (by first|rfl|(simp;done)|(congr 1;omega)|(simp;omega)|(simp [List.take_of_length_le];done)|(refine congrArg (FV.int .i64) ?_;omega))) ?_|refine .cons (.own rfl (.tail _ (.head _)) rfl (by first|rfl|(simp;done)|(congr 1;omega)|(simp;omega)|(simp [List.take_of_length_le];done)|(refine congrArg (FV.int .i64) ?_;omega))) ?_|refine .cons (.ptr rfl (.tail _ (.tail _ (.head _))) rfl) ?_|refine .cons (.wrap rfl (by repeat (first|exact zf.nil|refine zf.cons (.plain rfl rfl) ?_|refine zf.cons (.ptr (.head _) rfl) ?_|refine zf.cons (.own (.head _) rfl rfl rfl) ?_|refine zf.cons (.omap (.head _) rfl) ?_|refine zf.cons (.ptr (.tail _ (.head _)) rfl) ?_|refine zf.cons (.own (.tail _ (.head _)) rfl rfl rfl) ?_|refine zf.cons (.omap (.tail _ (.head _)) rfl) ?_|refine zf.cons (.ptr (.tail _ (.tail _ (.head _))) rfl) ?_|refine zf.cons (.own (.tail _ (.tail _ (.head _))) rfl rfl rfl) ?_|refine zf.cons (.omap (.tail _ (.tail _ (.head _))) rfl) ?_|refine zf.cons (.ptr (.tail _ (.tail _ (.tail _ (.head _)))) rfl) ?_|refine zf.cons (.own (.tail _ (.tail _ (.tail _ (.head _)))) rfl rfl rfl) ?_|refine zf.cons (.omap (.tail _ (.tail _ (.tail _ (.head _)))) rfl) ?_|refine zf.cons (.ptr (.tail _ (.tail _ (.tail _ (.tail _ (.head _))))) rfl) ?_|refine zf.cons (.own (.tail _ (.tail _ (.tail _ (.tail _ (.head _))))) rfl rfl rfl) ?_|refine zf.cons (.omap (.tail _ (.tail _ (.tail _ (.tail _ (.head _))))) rfl) ?_))) ?_)))
   ·have hh:h=[]:=by
     cases h with
     | nil => rfl
     | cons x h => simp at hc
    subst hh
    clear hc
    rw [YD E fu _ rfl] at hend
    dsimp only at hend
    subst hend
    generalize zV n E=O at hol
    refine zb ?_
    refine FW.cond rfl (fun hc=>?_) (fun hc=>?_)
    ·have hlt:O.length<n:=by simpa using hc
     rw [if_pos hlt,show decide (O.length<n)=true by simpa using hlt]
     refine zb ?_
     refine FW.le (s':=⟨[(4,.list 1 []),(5,.bool false)],[]⟩) ?_ (FLe.cv [] yK (by repeat (first|exact .nil|refine .cons (.plain rfl rfl (by first|rfl|(simp;done)|(congr 1;omega)|(simp;omega)|(simp [List.take_of_length_le];done)|(refine congrArg (FV.int .i64) ?_;omega))) ?_|refine .cons (.nilList rfl) ?_)))
     exact FW.ret ⟨.inl rfl,.sh (.cons (.tmp 4 rfl rfl) (.cons (.tmp 5 rfl rfl) .nil)) rfl rfl⟩
    ·have hlt:¬ O.length<n:=by simpa using hc
     rw [if_neg hlt,show decide (O.length<n)=false by simpa using hlt]
     refine FW.skip ?_
     refine FW.le ?_ (FLe.share 16 rfl rfl zd)
     refine zb ?_
     exact FW.ret ⟨.inl rfl,.sh (.cons (.tmp 4 rfl rfl) (.cons (.tmp 5 rfl rfl) .nil)) rfl rfl⟩
end Go.Proofs.Ytmnmakhpjgjdaaa
