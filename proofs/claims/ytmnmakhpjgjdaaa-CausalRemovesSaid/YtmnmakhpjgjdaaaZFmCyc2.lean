/-
  Some texts as one: FmCyc2, FmTopo.
-/
import Derived.Test.YtmnmakhpjgjdaaaZK
import Derived.Test.YtmnmakhpjgjdaaaZL
/-
 The contract of graph.Cycle.
-/
namespace Go.Proofs.Ytmnmakhpjgjdaaa
set_option linter.unusedVariables false
open Go.RowKit

theorem zcE (n:Nat) (E:List (Nat×Nat)):(List.range n).map (fun v=>[FV.list 1 ((zt E v).map zy)])=(zN n E).map YX:=by
 unfold zN
 rw [List.map_map]
 rfl
def WA:List Int→FV
 | [] => .nil
 | b :: l => .own 100 0 0 (b :: l).length
def zcP (n:Nat) (E:List (Nat×Nat)) (i:Nat):List Int:=(List.range i).foldl (XZ n E) []
theorem UB (n:Nat) (E:List (Nat×Nat)) (i:Nat):zcP n E (i+1)=XZ n E (zcP n E i) i:=by
 unfold zcP
 rw [List.range_succ,List.foldl_append];rfl
theorem zca {n:Nat} {E:List (Nat×Nat)} (h:InN n E):∀ {i:Nat},i≤n→(zcP n E i).length≤n
 | 0, _ => Nat.zero_le _
 | i+1, hi => by rw [UB]; exact zeu h (by omega) (zca h (by omega))
theorem Yx (E:List (Nat×Nat)):(yR E).length=E.length:=List.length_map _
theorem yn.le {P:Program} {f:Nat} {args:List FV} {r r' : FV} (h:yn P f args .sh r) (hle:FV.le r r') (hh:r'.hand=none):yn P f args .sh r' where
 go:=h.go
 hand:=hh
 calls w I vs hI hv:=(h.calls w I vs hI hv).mono fun e w' ⟨v,e1,hb,hr⟩=>⟨v,e1,hb,Rd.le hle hr⟩
def zmf:List (List FV)→FV
 | [] => .nil
 | e :: es => .list 1 (e :: es)
theorem zkR (es:List (List FV)):FV.le (zmf es) (.list 1 es):=by
 cases es with
 | nil => exact .nil 1
 | cons e es => exact .refl _
theorem zij (es:List (List FV)):(zmf es).hand=none:=by cases es <;> rfl
set_option maxHeartbeats 4000000 in
theorem zew (n:Nat) (E:List (Nat×Nat)) (hn:n≤14) (hE:E.length≤1000) (hin:InN n E):yn Try.prog 56 [.int .i64 n,.list 2 (E.map edf)] .sh (zmf ((zdg n E).map zy)):=by
 refine yn.of_body (c:=(ZO Try.prog zI zA 128)) ⟨Try.func56,rfl,Try.ntmps56,by kernel_rfl⟩ (by simp [FV.hand]) (by exact Nat.le_of_ble_eq_true rfl) (zij _) ?_
 change FW _ _ _ ⟨[(0,.int .i64 n),(1,.list 2 (E.map edf))],[]⟩
 (repeat (first|refine FW.seq ?_|refine FW.region ?_|refine zc.nil ?_|refine zb rfl rfl rfl ?_|refine za rfl rfl rfl ?_))
 refine xJ (ZL n E (by omega) (by omega) hin) (by repeat (first|exact zG.nil|refine zG.cons (by exact Zq.plain rfl rfl) ?_)) rfl rfl ?_
 rw [zcE]
 (repeat (first|refine FW.seq ?_|refine FW.region ?_|refine FW.block ?_|refine zc.nil ?_|refine zb rfl rfl rfl ?_|refine za rfl rfl rfl ?_|refine zp rfl rfl (by exact List.length_map _) rfl rfl ?_))
 refine FW.loop (fun i:Nat=>⟨[(0,.int .i64 n),(1,.list 2 (E.map edf)),(5,.list 1 ((zN n E).map YX)),(6,.own 100 0 0 i),(22,.list 2 (E.map edf)),(23,.int .i64 E.length),(24,.int .i64 i)],[(100,⟨0,.own,75,2,((yR E).take i).map edf⟩)]⟩) (fun i=>i≤E.length) (fun i=>E.length - i) 0 (Nat.zero_le _)
  (FLe.cv [⟨100,none,0,⟨0,.own,75,2,[]⟩⟩] (by repeat (first|exact .nil|refine .new ?_)) (by repeat (first|exact .nil|refine .cons (.plain rfl rfl rfl) ?_|refine .cons (.nil rfl (.head _) rfl) ?_))) ?_
 intro i hi
 (repeat (first|refine FW.seq ?_|refine FW.region ?_|refine zc.nil ?_|refine zX rfl rfl rfl rfl ?_))
 refine FW.cond rfl (fun h=>?_) (fun h=>?_)
 ·have hlt:i<E.length:=by simpa using h
  clear h
  obtain ⟨⟨a,b⟩,he⟩:∃ e,nth E i=e:=⟨_,rfl⟩
  have hti:((yR E).take i).length=i:=by rw [List.length_take,Yx];omega
  have hts:(yR E).take (i+1)=(yR E).take i++[(b,a)]:=by
   rw [List.take_succ_eq_append_getElem (by rw [Yx];exact hlt)]
   congr 2
   rw [nth_eq hlt] at he
   simp [yR,he]
  obtain ⟨Z,hZ⟩:∃ Z,(yR E).take i=Z:=⟨_,rfl⟩
  rw [hZ] at hti hts ⊢
  (repeat (first|refine FW.seq ?_|refine FW.region ?_|refine FW.block ?_|refine FW.skip ?_|refine zc.nil ?_|refine zb rfl rfl rfl ?_|refine za rfl rfl rfl ?_|refine zn rfl rfl rfl rfl rfl rfl (by first|(simp;omega)|(simp;done)) rfl rfl ?_|refine zgZ rfl rfl rfl rfl rfl rfl rfl (by decide) (by first|(simp;omega)|(simp;done)) rfl rfl ?_|refine zq rfl rfl rfl rfl rfl (by first|(simp;omega)|(simp;done)) (by first|exact zf (by omega)|rfl) rfl rfl rfl rfl ?_|refine yO rfl rfl rfl (by decide) (by first|(simp;omega)|(simp;done)) (by first|exact zf (by omega)|rfl) rfl rfl rfl ?_|refine zD rfl rfl rfl rfl rfl rfl rfl ?_|refine zm rfl rfl rfl rfl rfl rfl rfl rfl rfl ?_|refine zbO rfl rfl rfl rfl rfl rfl rfl rfl rfl ?_|refine Wo rfl rfl rfl rfl rfl rfl rfl rfl rfl rfl ?_|refine Wn rfl rfl (by first|rfl|(simp;done)|(simp;omega)) rfl rfl rfl (by decide) (by exact Yg.own rfl rfl (by decide) (by first|exact List.length_map _|exact (List.length_map _).symm|exact List.length_replicate|rfl|(simp;done)|omega|(simp;omega))) (by first|(simp;omega)|(simp;done)) (by first|(simp;omega)|(simp;done)) rfl rfl rfl ?_|refine zu rfl rfl (by omega) rfl rfl ?_))
  rw [he]
  skip
  refine ⟨i+1,by omega,by omega,?_⟩
  rw [hts,List.map_append]
  exact (FLe.cv [⟨100,some 35,0+1,⟨0,.own,75,2,Z.map edf++[(b,a)].map edf⟩⟩] (by repeat (first|exact .nil|refine .old rfl (by decide) (by first|rfl|(simp;omega)) ?_)) (by repeat (first|exact .nil|refine .cons (.plain rfl rfl (by first|rfl|(simp;omega))) ?_|refine .cons (.own rfl (.head _) rfl (by first|rfl|(simp;omega))) ?_)))
 ·obtain rfl:i=E.length:=by simp at h;omega
  clear h hi
  rw [← Yx,List.take_length]
  (repeat (first|refine FW.seq ?_|refine FW.region ?_|refine FW.exit ?_|refine za rfl rfl rfl ?_))
  refine zc.le ?_ (FLe.share 38 rfl rfl (by simp))
  refine xJ (ZL n (yR E) (by omega) (by rw [Yx];omega) (xM hin)) (by repeat (first|exact zG.nil|refine zG.cons (by exact Zq.plain rfl rfl) ?_)) rfl rfl ?_
  rw [zcE]
  (repeat (first|refine FW.seq ?_|refine FW.region ?_|refine FW.block ?_|refine zc.nil ?_|refine zb rfl rfl rfl ?_|refine za rfl rfl rfl ?_))
  refine FW.loop (fun i:Nat=>⟨[(0,.int .i64 n),(5,.list 1 ((zN n E).map YX)),(9,.list 1 ((zN n (yR E)).map YX)),(10,WA (zcP n E i)),(40,.int .i64 n),(41,.int .i64 i)],[(100,⟨0,.own,3,1,(zcP n E i).map zy⟩)]⟩) (fun i=>i≤n) (fun i=>n - i) 0 (Nat.zero_le _) ?_ ?_
  ·show FLe _ ⟨[(0,.int .i64 n),(5,.list 1 ((zN n E).map YX)),(9,.list 1 ((zN n (yR E)).map YX)),(10,.nil),(40,.int .i64 n),(41,.int .i64 0)],[(100,⟨0,.own,3,1,[]⟩)]⟩
   exact (FLe.cv [⟨100,none,0,⟨0,.own,3,1,[]⟩⟩] (by repeat (first|exact .nil|refine .new ?_)) (by repeat (first|exact .nil|refine .cons (.plain rfl rfl rfl) ?_)))
  intro i hi
  (repeat (first|refine FW.seq ?_|refine FW.region ?_|refine zc.nil ?_|refine zX rfl rfl rfl rfl ?_))
  refine FW.cond rfl (fun h=>?_) (fun h=>?_)
  ·have hlt:i<n:=by simpa using h
   clear h
   (repeat (first|refine FW.seq ?_|refine FW.region ?_|refine FW.block ?_|refine FW.skip ?_|refine zc.nil ?_|refine za rfl rfl rfl ?_|refine zq rfl rfl rfl rfl rfl (by simp;done) rfl rfl rfl rfl rfl ?_|refine zD rfl rfl rfl rfl rfl rfl rfl ?_|refine xK rfl rfl rfl rfl rfl rfl rfl rfl rfl ?_))
   refine Uq (zaY n i (zN n (yR E)) hn hlt (yl n _) (Zl (xM hin)) (fun r hr=>by have:=zi1 n (yR E) r hr;rw [Yx] at this;omega)) (by repeat (first|exact zG.nil|refine zG.cons (by exact Zq.plain rfl rfl) ?_)) ((List.length_map _).trans (Uz hin hlt)) rfl rfl rfl ?_
   rw [show dist (zN n (yR E)) n i=zP n E i from rfl]
   have hdl:=Uz hin hlt
   have hrng:=fun v (hv:v<n)=>zc0 hin hlt hv
   have hrw:nth (zN n E) i=zt E i:=Zw E hlt
   have hrn:=yl n E
   refine zc.le ?_ ((FLe.share 47 rfl rfl (by rw [List.length_map];exact hdl.symm)).trans (FLe.shareP 11 rfl rfl))
   obtain ⟨d,hd⟩:∃ d,zP n E i=d:=⟨_,rfl⟩
   rw [hd] at hdl hrng ⊢
   (repeat (first|refine FW.seq ?_|refine FW.region ?_|refine FW.block ?_|refine zc.nil ?_|refine zb rfl rfl rfl ?_|refine za rfl rfl rfl ?_|refine zp rfl rfl (by first|exact List.length_map _|rfl|(simp;done)|(simp;omega)) rfl rfl ?_|refine zn rfl rfl rfl rfl rfl rfl (by first|(simp;omega)|(simp;done)) rfl rfl ?_|refine zj rfl rfl rfl (by first|(simp;omega)|(simp;done)) (by first|exact zf (by omega)|rfl) rfl rfl rfl rfl ?_|refine zD rfl rfl rfl rfl rfl rfl rfl ?_|refine xK rfl rfl rfl rfl rfl rfl rfl rfl rfl ?_))
   rw [hrw]
   obtain ⟨B,hB⟩:∃ B,zcP n E i=B:=⟨_,rfl⟩
   rw [hB]
   refine FW.le ?_ (FLe.shareP 12 rfl rfl)
   refine FW.loop (fun j:Nat=>⟨[(0,.int .i64 n),(5,.list 1 ((zN n E).map YX)),(9,.list 1 ((zN n (yR E)).map YX)),(10,WA B),(40,.int .i64 n),(41,.int .i64 i),(11,.eptr 1 [[.int .i64 i]] 0 0),(12,.eptr 1 [[.list 1 (d.map zy)]] 0 0),(13,.int .i64 (((zt E i).take j).foldl (ym d i) 0)),(51,.list 1 ((zt E i).map zy)),(52,.int .i64 (zt E i).length),(53,.int .i64 j)],[(100,⟨0,.own,3,1,B.map zy⟩)]⟩) (fun j=>j≤(zt E i).length) (fun j=>(zt E i).length - j) 0 (Nat.zero_le _) ?_ ?_
   ·rcases B with _|⟨b,l⟩
    ·show FLe _ ⟨[(0,.int .i64 n),(5,.list 1 ((zN n E).map YX)),(9,.list 1 ((zN n (yR E)).map YX)),(10,.nil),(40,.int .i64 n),(41,.int .i64 i),(11,.eptr 1 [[.int .i64 i]] 0 0),(12,.eptr 1 [[.list 1 (d.map zy)]] 0 0),(13,.int .i64 0),(51,.list 1 ((zt E i).map zy)),(52,.int .i64 (zt E i).length),(53,.int .i64 0)],[(100,⟨0,.own,3,1,[]⟩)]⟩
     exact (FLe.cv [⟨100,some 100,0,⟨0,.own,3,1,[]⟩⟩] (by repeat (first|exact .nil|refine .old rfl (by decide) rfl ?_)) (by repeat (first|exact .nil|refine .cons (.plain rfl rfl rfl) ?_)))
    ·show FLe _ ⟨[(0,.int .i64 n),(5,.list 1 ((zN n E).map YX)),(9,.list 1 ((zN n (yR E)).map YX)),(10,.own 100 0 0 (b::l).length),(40,.int .i64 n),(41,.int .i64 i),(11,.eptr 1 [[.int .i64 i]] 0 0),(12,.eptr 1 [[.list 1 (d.map zy)]] 0 0),(13,.int .i64 0),(51,.list 1 ((zt E i).map zy)),(52,.int .i64 (zt E i).length),(53,.int .i64 0)],[(100,⟨0,.own,3,1,(b::l).map zy⟩)]⟩
     exact (FLe.cv [⟨100,some 100,0,⟨0,.own,3,1,(b::l).map zy⟩⟩] (by repeat (first|exact .nil|refine .old rfl (by decide) rfl ?_)) (by repeat (first|exact .nil|refine .cons (.plain rfl rfl rfl) ?_|refine .cons (.own rfl (.head _) rfl rfl) ?_)))
   have hsl:=Xq E i
   intro j hj
   (repeat (first|refine FW.seq ?_|refine FW.region ?_|refine zc.nil ?_|refine zX rfl rfl rfl rfl ?_))
   refine FW.cond rfl (fun h=>?_) (fun h=>?_)
   ·have hlt3:j<(zt E i).length:=by simpa using h
    clear h
    obtain ⟨v,hv⟩:∃ v:Nat,nth (zt E i) j=v:=⟨(nth (zt E i) j).toNat,by have:=(yx hin (zC hlt3)).1;omega⟩
    have hvn:v<n:=by have:=(yx hin (zC hlt3)).2;omega
    have hrv:=hrng v hvn
    have hst:((zt E i).take (j+1)).foldl (ym d i) 0=ym d i (((zt E i).take j).foldl (ym d i) 0) v:=by
     rw [List.take_succ_eq_append_getElem hlt3,List.foldl_append,← nth_eq hlt3,hv];rfl
    obtain ⟨L,hL⟩:∃ L,((zt E i).take j).foldl (ym d i) 0=L:=⟨_,rfl⟩
    rw [hL] at hst ⊢
    generalize hBm:B.map zy=Bm
    have hdn:nth d ((v:Int)).toNat=nth d v:=rfl
    (repeat (first|refine FW.seq ?_|refine FW.region ?_|refine FW.block ?_|refine FW.skip ?_|refine zc.nil ?_|refine zb rfl rfl rfl ?_|refine za rfl rfl rfl ?_|refine zn rfl rfl rfl rfl rfl rfl (by first|(simp;omega)|(simp;done)) rfl rfl ?_|refine zj rfl rfl rfl (by first|(simp;omega)|(simp;done)) (by first|exact zf (by omega)|rfl) rfl rfl rfl rfl ?_|refine zd2 rfl rfl rfl rfl ?_))
    rw [hv]
    skip
    refine yc (fun h1=>?_) (fun h1=>?_)
    ·(repeat (first|refine za rfl rfl rfl ?_|refine zJ rfl rfl rfl rfl ?_|refine zj rfl rfl rfl (by first|(simp;omega)|(simp;done)) (by first|exact zf (by omega)|rfl) rfl rfl rfl ⟨_,_,rfl,rfl,rfl⟩ ?_|refine za rfl rfl ⟨_,_,rfl,rfl,rfl⟩ ?_|refine zn rfl rfl rfl rfl rfl rfl (by first|(simp;omega)|(simp;done)) rfl ⟨_,_,rfl,rfl,rfl⟩ ?_|refine zd2 rfl rfl rfl ⟨_,_,rfl,rfl,rfl⟩ ?_))
     refine yc (fun h2=>?_) (fun h2=>?_)
     ·(repeat (first|refine za rfl rfl ⟨_,_,rfl,rfl,rfl⟩ ?_|refine yG rfl rfl rfl ⟨_,_,rfl,rfl,rfl⟩ ?_))
      refine yc (fun h3=>?_) (fun h3=>?_)
      ·(repeat (first|refine FW.region ?_|refine FW.condT rfl ?_|refine zc.nil ?_|refine zb rfl rfl rfl ?_|refine za rfl rfl rfl ?_|refine zn rfl rfl rfl rfl rfl rfl (by first|omega|(simp;omega)|(simp;done)) rfl rfl ?_|refine zj rfl rfl rfl (by first|omega|(simp;omega)|(simp;done)) (by first|exact zf (by omega)|rfl) rfl rfl rfl rfl ?_|refine zu rfl rfl (by omega) rfl rfl ?_|refine zJ rfl rfl rfl rfl ?_|refine zJ rfl rfl rfl ⟨_,_,rfl,rfl,rfl⟩ ?_|refine yd rfl rfl ⟨_,_,rfl,rfl,rfl⟩ ?_))
       rw [ym,if_pos ⟨⟨by simpa using h1,by simpa using h2⟩,.inl (by simpa using h3)⟩,hdn] at hst
       refine ⟨j+1,by omega,by omega,?_⟩
       rw [hst]
       rcases B with _|⟨b,l⟩ <;> dsimp only [WA]
       ·exact (FLe.cv [⟨100,some 100,0,⟨0,.own,3,1,Bm⟩⟩] (by repeat (first|exact .nil|refine .old rfl (by decide) rfl ?_)) (by repeat (first|exact .nil|refine .cons (.plain rfl rfl rfl) ?_)))
       ·exact (FLe.cv [⟨100,some 100,0,⟨0,.own,3,1,Bm⟩⟩] (by repeat (first|exact .nil|refine .old rfl (by decide) rfl ?_)) (by repeat (first|exact .nil|refine .cons (.plain rfl rfl rfl) ?_|refine .cons (.own rfl (.head _) rfl rfl) ?_)))
      ·(repeat (first|refine zc.nil ?_|refine zJ rfl rfl rfl rfl ?_|refine zj rfl rfl rfl (by first|(simp;omega)|(simp;done)) (by first|exact zf (by omega)|rfl) rfl rfl rfl ⟨_,_,rfl,rfl,rfl⟩ ?_|refine za rfl rfl ⟨_,_,rfl,rfl,rfl⟩ ?_|refine zn rfl rfl rfl rfl rfl rfl (by first|(simp;omega)|(simp;done)) rfl ⟨_,_,rfl,rfl,rfl⟩ ?_|refine zu rfl rfl (by omega) rfl ⟨_,_,rfl,rfl,rfl⟩ ?_|refine zX rfl rfl rfl ⟨_,_,rfl,rfl,rfl⟩ ?_|refine zK rfl rfl rfl ⟨_,_,rfl,rfl,rfl⟩ ?_))
       refine FW.cond rfl (fun h4=>?_) (fun h4=>?_)
       ·(repeat (first|refine FW.region ?_|refine zc.nil ?_|refine zb rfl rfl rfl ?_|refine za rfl rfl rfl ?_|refine zn rfl rfl rfl rfl rfl rfl (by first|(simp;omega)|(simp;done)) rfl rfl ?_|refine zj rfl rfl rfl (by first|(simp;omega)|(simp;done)) (by first|exact zf (by omega)|rfl) rfl rfl rfl rfl ?_|refine zu rfl rfl (by omega) rfl rfl ?_))
        rw [ym,if_pos ⟨⟨by simpa using h1,by simpa using h2⟩,.inr (by simpa using h4)⟩,hdn] at hst
        refine ⟨j+1,by omega,by omega,?_⟩
        rw [hst]
        rcases B with _|⟨b,l⟩ <;> dsimp only [WA]
        ·exact (FLe.cv [⟨100,some 100,0,⟨0,.own,3,1,Bm⟩⟩] (by repeat (first|exact .nil|refine .old rfl (by decide) rfl ?_)) (by repeat (first|exact .nil|refine .cons (.plain rfl rfl rfl) ?_)))
        ·exact (FLe.cv [⟨100,some 100,0,⟨0,.own,3,1,Bm⟩⟩] (by repeat (first|exact .nil|refine .old rfl (by decide) rfl ?_)) (by repeat (first|exact .nil|refine .cons (.plain rfl rfl rfl) ?_|refine .cons (.own rfl (.head _) rfl rfl) ?_)))
       ·(repeat (first|refine FW.region ?_|refine FW.skip ?_|refine zc.nil ?_|refine za rfl rfl rfl ?_|refine zu rfl rfl (by omega) rfl rfl ?_))
        rw [ym,if_neg (fun q=>by simp at h3 h4;rcases q.2 with q|q;exact h3 q;rw [hdn] at q;omega)] at hst
        refine ⟨j+1,by omega,by omega,?_⟩
        rw [hst]
        rcases B with _|⟨b,l⟩ <;> dsimp only [WA]
        ·exact (FLe.cv [⟨100,some 100,0,⟨0,.own,3,1,Bm⟩⟩] (by repeat (first|exact .nil|refine .old rfl (by decide) rfl ?_)) (by repeat (first|exact .nil|refine .cons (.plain rfl rfl rfl) ?_)))
        ·exact (FLe.cv [⟨100,some 100,0,⟨0,.own,3,1,Bm⟩⟩] (by repeat (first|exact .nil|refine .old rfl (by decide) rfl ?_)) (by repeat (first|exact .nil|refine .cons (.plain rfl rfl rfl) ?_|refine .cons (.own rfl (.head _) rfl rfl) ?_)))
     ·(repeat (first|refine FW.region ?_|refine FW.skip ?_|refine FW.condF rfl ?_|refine zc.nil ?_|refine za rfl rfl rfl ?_|refine zu rfl rfl (by omega) rfl rfl ?_|refine zK rfl rfl rfl rfl ?_|refine yd rfl rfl ⟨_,_,rfl,rfl,rfl⟩ ?_))
      rw [ym,if_neg (fun q=>by simp at h2;have q2:=q.1.2;rw [hdn] at q2;omega)] at hst
      refine ⟨j+1,by omega,by omega,?_⟩
      rw [hst]
      rcases B with _|⟨b,l⟩ <;> dsimp only [WA]
      ·exact (FLe.cv [⟨100,some 100,0,⟨0,.own,3,1,Bm⟩⟩] (by repeat (first|exact .nil|refine .old rfl (by decide) rfl ?_)) (by repeat (first|exact .nil|refine .cons (.plain rfl rfl rfl) ?_)))
      ·exact (FLe.cv [⟨100,some 100,0,⟨0,.own,3,1,Bm⟩⟩] (by repeat (first|exact .nil|refine .old rfl (by decide) rfl ?_)) (by repeat (first|exact .nil|refine .cons (.plain rfl rfl rfl) ?_|refine .cons (.own rfl (.head _) rfl rfl) ?_)))
    ·(repeat (first|refine FW.region ?_|refine FW.skip ?_|refine FW.condF rfl ?_|refine zc.nil ?_|refine za rfl rfl rfl ?_|refine zu rfl rfl (by omega) rfl rfl ?_|refine zK rfl rfl rfl rfl ?_|refine yd rfl rfl ⟨_,_,rfl,rfl,rfl⟩ ?_))
     rw [ym,if_neg (fun q=>by simp at h1;omega)] at hst
     refine ⟨j+1,by omega,by omega,?_⟩
     rw [hst]
     rcases B with _|⟨b,l⟩ <;> dsimp only [WA]
     ·exact (FLe.cv [⟨100,some 100,0,⟨0,.own,3,1,Bm⟩⟩] (by repeat (first|exact .nil|refine .old rfl (by decide) rfl ?_)) (by repeat (first|exact .nil|refine .cons (.plain rfl rfl rfl) ?_)))
     ·exact (FLe.cv [⟨100,some 100,0,⟨0,.own,3,1,Bm⟩⟩] (by repeat (first|exact .nil|refine .old rfl (by decide) rfl ?_)) (by repeat (first|exact .nil|refine .cons (.plain rfl rfl rfl) ?_|refine .cons (.own rfl (.head _) rfl rfl) ?_)))
   ·obtain rfl:j=(zt E i).length:=by simp at h;omega
    clear h hj
    rw [List.take_length]
    obtain ⟨L,hL⟩:∃ L,(zt E i).foldl (ym d i) 0=L:=⟨_,rfl⟩
    rw [hL]
    have hLL:xf (zP n E i) i (zt E i)=L:=by rw [hd];exact hL
    have hcs:=UB n E i
    rw [hB] at hcs
    unfold XZ at hcs
    dsimp only at hcs
    rw [hLL] at hcs
    have hBl:B.length≤n:=hB▸zca hin (by omega)
    refine FW.exit ?_
    refine FW.seq ?_
    refine FW.seq ?_
    refine FW.join (fun _:Unit=>⟨[(0,.int .i64 n),(5,.list 1 ((zN n E).map YX)),(9,.list 1 ((zN n (yR E)).map YX)),(10,WA B),(40,.int .i64 n),(41,.int .i64 i),(11,.eptr 1 [[.int .i64 i]] 0 0),(12,.eptr 1 [[.list 1 (d.map zy)]] 0 0),(13,.int .i64 L),(97,.bool (decide (L=0∨(B≠[]∧(B.length:Int)≤L))))],[(100,⟨0,.own,3,1,B.map zy⟩)]⟩) (fun _=>True) ?_ (fun _ _=>?_)
    ·rcases B with _|⟨b,l⟩
     ·dsimp only [WA]
      (repeat (first|refine FW.region ?_|refine za rfl rfl rfl ?_|refine yG rfl rfl rfl rfl ?_))
      refine yc (fun h1=>?_) (fun h1=>?_)
      ·(repeat (first|refine zc.nil ?_|refine zJ rfl rfl rfl rfl ?_|refine yd rfl rfl ⟨_,_,rfl,rfl,rfl⟩ ?_))
       refine ⟨rfl,(),trivial,?_⟩
       rw [show decide (L=0∨(([]:List Int)≠[]∧((([]:List Int).length:Nat):Int)≤L))=true by simpa using h1]
       exact (FLe.cv [⟨100,some 100,0,⟨0,.own,3,1,[]⟩⟩] (by repeat (first|exact .nil|refine .old rfl (by decide) rfl ?_)) (by repeat (first|exact .nil|refine .cons (.plain rfl rfl rfl) ?_)))
      ·(repeat (first|refine zc.nil ?_|refine zK rfl rfl rfl rfl ?_|refine za rfl rfl ⟨_,_,rfl,rfl,rfl⟩ ?_|refine zK rfl rfl rfl ⟨_,_,rfl,rfl,rfl⟩ ?_|refine ziX rfl rfl rfl rfl ⟨_,_,rfl,rfl,rfl⟩ ?_|refine yd rfl rfl ⟨_,_,rfl,rfl,rfl⟩ ?_))
       refine ⟨rfl,(),trivial,?_⟩
       rw [show decide (L=0∨(([]:List Int)≠[]∧((([]:List Int).length:Nat):Int)≤L))=false by simpa using h1]
       exact (FLe.cv [⟨100,some 100,0,⟨0,.own,3,1,[]⟩⟩] (by repeat (first|exact .nil|refine .old rfl (by decide) rfl ?_)) (by repeat (first|exact .nil|refine .cons (.plain rfl rfl rfl) ?_)))
     ·dsimp only [WA]
      (repeat (first|refine FW.region ?_|refine za rfl rfl rfl ?_|refine yG rfl rfl rfl rfl ?_))
      refine yc (fun h1=>?_) (fun h1=>?_)
      ·(repeat (first|refine zc.nil ?_|refine zJ rfl rfl rfl rfl ?_|refine yd rfl rfl ⟨_,_,rfl,rfl,rfl⟩ ?_))
       refine ⟨rfl,(),trivial,?_⟩
       rw [show decide (L=0∨((b::l:List Int)≠[]∧(((b::l:List Int).length:Nat):Int)≤L))=true by simp at h1 ⊢;exact .inl h1]
       exact (FLe.cv [⟨100,some 100,0,⟨0,.own,3,1,(b::l).map zy⟩⟩] (by repeat (first|exact .nil|refine .old rfl (by decide) rfl ?_)) (by repeat (first|exact .nil|refine .cons (.plain rfl rfl rfl) ?_|refine .cons (.own rfl (.head _) rfl rfl) ?_)))
      ·(repeat (first|refine zc.nil ?_|refine zK rfl rfl rfl rfl ?_|refine za rfl rfl ⟨_,_,rfl,rfl,rfl⟩ ?_|refine zd2 rfl rfl rfl ⟨_,_,rfl,rfl,rfl⟩ ?_|refine zJ rfl rfl rfl ⟨_,_,rfl,rfl,rfl⟩ ?_|refine ziY rfl rfl rfl rfl (by decide) (by simp;done) rfl ⟨_,_,rfl,rfl,rfl⟩ ?_|refine yN rfl rfl rfl (by decide) rfl ⟨_,_,rfl,rfl,rfl⟩ ?_))
       refine ⟨rfl,(),trivial,?_⟩
       rw [show decide (L=0∨((b::l:List Int)≠[]∧(((b::l:List Int).length:Nat):Int)≤L))=decide (L≥(((b::l).length:Nat):Int)) by simp at h1 ⊢;intro q;exact absurd q h1]
       exact (FLe.cv [⟨100,some 100,0,⟨0,.own,3,1,(b::l).map zy⟩⟩] (by repeat (first|exact .nil|refine .old rfl (by decide) rfl ?_)) (by repeat (first|exact .nil|refine .cons (.plain rfl rfl rfl) ?_|refine .cons (.own rfl (.head _) rfl rfl) ?_)))
    ·refine FW.cond rfl (fun h=>?_) (fun h=>?_)
     ·rw [if_pos (by simpa using h)] at hcs
      (repeat (first|refine FW.region ?_|refine FW.exit ?_|refine zc.nil ?_|refine za rfl rfl rfl ?_|refine zu rfl rfl (by omega) rfl rfl ?_))
      refine ⟨i+1,by omega,by omega,?_⟩
      rw [hcs]
      generalize hBm:B.map zy=Bm
      rcases B with _|⟨b,l⟩ <;> dsimp only [WA]
      ·exact (FLe.cv [⟨100,some 100,0,⟨0,.own,3,1,Bm⟩⟩] (by repeat (first|exact .nil|refine .old rfl (by decide) rfl ?_)) (by repeat (first|exact .nil|refine .cons (.plain rfl rfl rfl) ?_)))
      ·exact (FLe.cv [⟨100,some 100,0,⟨0,.own,3,1,Bm⟩⟩] (by repeat (first|exact .nil|refine .old rfl (by decide) rfl ?_)) (by repeat (first|exact .nil|refine .cons (.plain rfl rfl rfl) ?_|refine .cons (.own rfl (.head _) rfl rfl) ?_)))
     ·have hno:¬ (L=0∨(B≠[]∧(B.length:Int)≤L)):=by simpa using h
      rw [if_neg hno] at hcs
      obtain ⟨K,hK,hKn,hway⟩:=YK hin hlt (by rw [hLL];exact fun e=>hno (.inl e))
      rw [hLL] at hK
      subst hK
      rw [show ((K+1:Nat):Int).toNat - 1=K by omega] at hcs
      clear h hno hL hLL hB hBl hrn
      rw [hd] at hcs
      refine FW.le (s':=⟨[(0,.int .i64 n),(5,.list 1 ((zN n E).map YX)),(9,.list 1 ((zN n (yR E)).map YX)),(40,.int .i64 n),(41,.int .i64 i),(11,.eptr 1 [[.int .i64 i]] 0 0),(12,.eptr 1 [[.list 1 (d.map zy)]] 0 0),(13,.int .i64 (K+1:Nat))],[]⟩) ?_ (FLe.cv [] (by repeat (first|exact .nil)) (by repeat (first|exact .nil|refine .cons (.plain rfl rfl rfl) ?_)))
      (repeat (first|refine FW.seq ?_|refine FW.region ?_|refine FW.block ?_|refine FW.skip ?_|refine zc.nil ?_|refine zb rfl rfl rfl ?_|refine zj rfl rfl rfl (by simp;done) rfl rfl rfl rfl rfl ?_|refine xq rfl rfl rfl rfl rfl rfl rfl rfl ?_))
      refine FW.loop (fun x:List Int×Nat=>⟨[(0,.int .i64 n),(5,.list 1 ((zN n E).map YX)),(9,.list 1 ((zN n (yR E)).map YX)),(40,.int .i64 n),(41,.int .i64 i),(11,.eptr 1 [[.int .i64 i]] 0 0),(12,.eptr 1 [[.list 1 (d.map zy)]] 0 0),(13,.int .i64 (K+1:Nat)),(10,.own 100 0 0 x.1.length),(16,.int .i64 x.2)],[(100,⟨0,.own,3,1,x.1.map zy⟩)]⟩) (fun x=>∃ k,x.1.length+k=K+1∧x.2<n∧Way E (zP n E i) i k x.2∧x.1++ZU E d i k x.2=(i:Int)::ZU E d i K i) (fun x=>K+1 - x.1.length) ([(i:Int)],i) ⟨K,by simp;omega,hlt,hway,rfl⟩ ?_ ?_
      ·show FLe _ ⟨[(0,.int .i64 n),(5,.list 1 ((zN n E).map YX)),(9,.list 1 ((zN n (yR E)).map YX)),(40,.int .i64 n),(41,.int .i64 i),(11,.eptr 1 [[.int .i64 i]] 0 0),(12,.eptr 1 [[.list 1 (d.map zy)]] 0 0),(13,.int .i64 (K+1:Nat)),(10,.own 100 0 0 1),(16,.int .i64 i)],[(100,⟨0,.own,3,1,[[.int .i64 i]]⟩)]⟩
       exact (FLe.cv [⟨100,some 99,0+1,⟨0,.own,3,1,[[.int .i64 i]]⟩⟩] (by repeat (first|exact .nil|refine .old rfl (by decide) rfl ?_)) (by repeat (first|exact .nil|refine .cons (.plain rfl rfl rfl) ?_|refine .cons (.own rfl (.head _) rfl rfl) ?_)))
      ·rintro ⟨P,v⟩ ⟨k,hPk,hvn,hw,hP⟩
       dsimp only at hPk hvn hw hP ⊢
       (repeat (first|refine FW.seq ?_|refine FW.region ?_|refine zc.nil ?_|refine za rfl rfl rfl ?_|refine yN rfl rfl rfl (by decide) rfl rfl ?_|refine zX rfl rfl rfl rfl ?_))
       refine FW.cond rfl (fun h=>?_) (fun h=>?_)
       ·obtain ⟨k,rfl⟩:∃ k',k=k'+1:=⟨k - 1,by simp at h;omega⟩
        clear h
        obtain ⟨j,hj,hfx,hnx,hsn,hway'⟩:=hw.step hin hlt
        rw [hd] at hfx hnx hsn hway'
        have hwo:ZU E d i (k+1) v=(xE E d i (k+1:Nat) v:Int)::ZU E d i k (xE E d i (k+1:Nat) v):=rfl
        rw [hwo] at hP
        obtain ⟨u,hu⟩:∃ u,xE E d i (k+1:Nat) v=u:=⟨_,rfl⟩
        rw [hu] at hnx hsn hway' hP
        have hvr:nth (zN n E) v=zt E v:=Zw E hvn
        have hvl:=Xq E v
        have hrn:=yl n E
        have hlft:((K+1:Nat):Int) - (P.length:Int)=(k+1:Nat):=by omega
        (repeat (first|refine FW.seq ?_|refine FW.region ?_|refine FW.block ?_|refine FW.skip ?_|refine zc.nil ?_|refine za rfl rfl rfl ?_|refine yN rfl rfl rfl (by decide) rfl rfl ?_|refine zn rfl rfl rfl rfl rfl rfl (by simp;omega) rfl rfl ?_|refine zj rfl rfl rfl (by simp;omega) (by first|exact zf (by omega)|rfl) rfl rfl rfl rfl ?_|refine zD rfl rfl rfl rfl rfl rfl rfl ?_|refine xK rfl rfl rfl rfl rfl rfl rfl rfl rfl ?_|refine zaA rfl rfl (by omega) rfl rfl ?_))
        rw [hlft,hvr]
        refine zc.le ?_ (FLe.shareP 17 rfl rfl)
        (repeat (first|refine zg1 rfl rfl rfl rfl rfl rfl rfl rfl ?_))
        refine yu (XV (zt E v) _ _ (Wi d i (k+1:Nat)) (by omega) (fun x hx=>?_)) (by repeat (first|exact zG.nil|refine zG.cons (by exact Zq.plain rfl rfl) ?_)) rfl rfl ?_
        ·have hx2:=yx hin hx
         obtain ⟨x,rfl⟩:∃ x' : Nat,x=x':=⟨x.toNat,by omega⟩
         exact zev d i (k+1:Nat) x (by omega)
        rw [hfx]
        have hj' : j<(nth (zN n E) v).length:=by rw [hvr];exact hj
        (repeat (first|refine FW.seq ?_|refine FW.region ?_|refine zc.nil ?_|refine zb rfl rfl rfl ?_|refine za rfl rfl rfl ?_|refine zn rfl rfl rfl rfl rfl rfl (by first|(simp;omega)|(simp;done)) rfl rfl ?_|refine zj rfl rfl rfl (by first|(simp;omega)|(simp;done)) (by first|exact zf (by omega)|rfl) rfl rfl rfl rfl ?_|refine xq rfl rfl rfl rfl rfl rfl rfl rfl ?_|refine Wn rfl rfl (by first|exact (List.length_map _).symm|rfl|(simp;done)|(simp;omega)) rfl rfl rfl (by decide) (by exact Yg.own rfl rfl (by decide) (by first|exact List.length_map _|exact (List.length_map _).symm|exact List.length_replicate|rfl|(simp;done)|omega|(simp;omega))) (by first|(simp;omega)|(simp;done)) (by first|(simp;omega)|(simp;done)) rfl rfl rfl ?_))
        rw [hvr]
        skip
        rw [hnx]
        skip
        refine ⟨(P++[(u:Int)],u),⟨k,by simp;omega,hsn,by rw [hd];exact hway',by rw [List.append_assoc];exact hP⟩,by simp;omega,?_⟩
        dsimp only
        rw [List.length_append,List.map_append]
        exact (FLe.cv [⟨100,some 125,0+1,⟨0,.own,3,1,P.map zy++[(u:Int)].map zy⟩⟩] (by repeat (first|exact .nil|refine .old rfl (by decide) (by first|rfl|(simp;done)) ?_)) (by repeat (first|exact .nil|refine .cons (.plain rfl rfl (by first|rfl|(simp;done))) ?_|refine .cons (.own rfl (.head _) rfl (by first|rfl|(simp;done))) ?_)))
       ·obtain rfl:k=0:=by simp at h;omega
        rw [show ZU E d i 0 v=[] from rfl,List.append_nil] at hP
        (repeat (first|refine FW.region ?_|refine FW.exit ?_|refine zc.nil ?_|refine za rfl rfl rfl ?_|refine zu rfl rfl (by omega) rfl rfl ?_))
        refine ⟨i+1,by omega,by omega,?_⟩
        rw [hcs,← hP]
        subst hP
        dsimp only [WA]
        exact (FLe.cv [⟨100,some 100,0,⟨0,.own,3,1,((i:Int)::ZU E d i K i).map zy⟩⟩] (by repeat (first|exact .nil|refine .old rfl (by decide) rfl ?_)) (by repeat (first|exact .nil|refine .cons (.plain rfl rfl rfl) ?_|refine .cons (.own rfl (.head _) rfl rfl) ?_)))
  ·obtain rfl:i=n:=by simp at h;omega
   rw [show zcP i E i=zdg i E from rfl]
   generalize zdg i E=B
   cases B with
   | nil =>
    dsimp only [WA]
    refine FW.le (s':=⟨[(10,.nil)],[]⟩) ?_ (FLe.cv [] (by repeat (first|exact .nil)) (by repeat (first|exact .nil|refine .cons (.plain rfl rfl rfl) ?_)))
    (repeat (first|refine FW.seq ?_|refine FW.region ?_|refine FW.exit ?_|refine zc.nil ?_|refine zb rfl rfl rfl ?_|refine za rfl rfl rfl ?_))
    exact FW.ret ⟨.inl rfl,.sh (.cons (.tmp 4 rfl rfl) .nil) rfl rfl⟩
   | cons b l =>
    dsimp only [WA]
    refine FW.le (s':=⟨[(10,.list 1 ((b::l).map zy))],[]⟩) ?_ ((FLe.share 10 rfl rfl (by simp)).trans (FLe.cv [] (by repeat (first|exact .nil)) (by repeat (first|exact .nil|refine .cons (.plain rfl rfl rfl) ?_))))
    (repeat (first|refine FW.seq ?_|refine FW.region ?_|refine FW.exit ?_|refine zc.nil ?_|refine zb rfl rfl rfl ?_|refine za rfl rfl rfl ?_))
    exact FW.ret ⟨.inl rfl,.sh (.cons (.tmp 4 rfl rfl) .nil) rfl rfl⟩
theorem zf7 (n:Nat) (E:List (Nat×Nat)) (hn:n≤14) (hE:E.length≤1000) (hin:InN n E):yn Try.prog 56 [.int .i64 n,.list 2 (E.map edf)] .sh (.list 1 ((zdg n E).map zy)):=
 (zew n E hn hE hin).le (zkR _) rfl
end Go.Proofs.Ytmnmakhpjgjdaaa
/-
 The contract of graph.Topo.
-/
namespace Go.Proofs.Ytmnmakhpjgjdaaa
set_option linter.unusedVariables false
open Go.RowKit

def zf0 (a q:Nat):zh:=⟨a,.hrow,96,1,[[.ptr 5000 q 0 0]]⟩
theorem zid {a q v v' n n' : Nat} {res:FV} {o:Nat→zh} {l l' : List Int} (hr:res.cl [5002,5000,5001]=true) (h2:o 5002=zf0 a q) (h0:o 5000=yH q v' n') (h1:o 5001=xy v' l'):YA [(5002,zf0 a q),(5000,yH q v n),(5001,xy v l)] [] res o where
 old k hk hl:=by
  simp at hk
  rcases hk with rfl|rfl|rfl
  ·rw [h2];exact ⟨rfl,rfl,rfl⟩
  ·rw [h0];exact ⟨rfl,rfl,rfl⟩
  ·rw [h1];exact ⟨rfl,rfl,rfl⟩
 new k hk:=by cases hk
 cl k hk:=by
  simp at hk
  rcases hk with rfl|rfl|rfl
  ·rw [h2];rfl
  ·rw [h0];rfl
  ·rw [h1];rfl
 res:=hr
set_option maxHeartbeats 4000000 in
theorem zaN (a q v:Nat) (l:List Int) (x:Int) (hl:l.length≤100000):yB Try.prog 60 [.int .i64 x,.ptr 5002 a 0 0] [(5002,zf0 a q),(5000,yH q v l.length),(5001,xy v l)] [] (fun res o=>res=.tup []∧o 5002=zf0 a q∧o 5000=yH q (v+1) (l.length+1)∧o 5001=xy (v+1) (Xf l x)):=by
 refine yB.of_body (c:=(ZO Try.prog zI zA 8)) ⟨Try.func60,rfl,Try.ntmps60,by kernel_rfl⟩ (by exact Nat.le_of_ble_eq_true rfl) ?_ ?_
 ·rintro res o ⟨rfl,h2,h0,h1⟩;exact zid rfl h2 h0 h1
 change FW _ _ _ ⟨[(0,.int .i64 x),(1,.ptr 5002 a 0 0)],[(5002,zf0 a q),(5000,yH q v l.length),(5001,xy v l)]⟩
 unfold zf0
 (repeat (first|refine FW.region ?_|refine Zu rfl rfl rfl rfl rfl rfl rfl ?_|refine zbP rfl rfl rfl (by kernel_rfl) rfl rfl ?_|refine zax rfl rfl (by kernel_rfl) rfl rfl ?_|refine za rfl rfl rfl ?_))
 refine xI (zeO q v l x hl) [(5000,5000),(5001,5001)] rfl (zB.cons rfl rfl rfl (zB.cons rfl rfl rfl zB.nil)) rfl rfl rfl rfl rfl rfl ?_
 rintro _ ob' ⟨rfl,h1,h2⟩
 refine xg.one [(5000,yH q (v+1) (l.length+1)),(5001,xy (v+1) (Xf l x))] (.tup []) rfl (by show [(5000,zh.ren _ (look {} ob' 5000)),(5001,zh.ren _ (look {} ob' 5001))]=_;rw [h1,h2];rfl) ?_
 clear h1 h2 ob'
 (repeat (first|refine zc.nil ?_))
 exact ⟨.inr rfl,_,.plain .nil rfl rfl,rfl,rfl,rfl,rfl⟩
def Ym (n:Nat) (E:List (Nat×Nat)) (i:Nat):List Int:=((zN n E).take i).foldl (fun m r=>r.foldl zbv m) (List.replicate n 0)
theorem zeT (n:Nat) (E:List (Nat×Nat)) {i:Nat} (h:i<n):Ym n E (i+1)=(zt E i).foldl zbv (Ym n E i):=by
 have hl:=yl n E
 unfold Ym
 rw [List.take_succ_eq_append_getElem (by omega),List.foldl_append,← nth_eq (by omega),Zw E h];rfl
theorem zgC (n:Nat) (E:List (Nat×Nat)):Ym n E n=za9 n E:=by
 unfold Ym za9
 rw [List.take_of_length_le (by rw [yl];exact Nat.le_refl _)]
theorem zeS {n:Nat} {E:List (Nat×Nat)} (h:InN n E) (i:Nat):(Ym n E i).length=n∧∀ w:Nat,w<n→0≤nth (Ym n E i) w∧nth (Ym n E i) w≤n:=by
 obtain ⟨k1,k2⟩:=zaC (n:=n) (rows:=(zN n E).take i) (m:=List.replicate n 0) (fun r hr=>by
  obtain ⟨u,_,rfl⟩:=List.mem_map.1 (List.mem_of_mem_take hr)
  exact ⟨ZM E u,fun w hw=>yx h hw⟩) (by simp)
 refine ⟨k1,fun w hw=>?_⟩
 have h1:(((zN n E).take i).countP fun r=>decide ((w:Int)∈r))≤((zN n E).take i).length:=List.countP_le_length
 rw [List.length_take,yl] at h1
 unfold Ym
 rw [k2 w hw,nth_eq (by simpa using hw)]
 simp
 omega
end Go.Proofs.Ytmnmakhpjgjdaaa
