/-
  Some texts as one: FmCyc2, FmTopo.
-/
import Derived.Test.YtmnmakhpjgjdaaaZK
import Derived.Test.YtmnmakhpjgjdaaaZL
/-
 The contract of graph.Cycle.
-/
namespace Go.Proofs.Ytmnmakhpjgjdaaa
set_option linter.unusedVariables false
open Go.RowKit

theorem zcm (n:Nat) (E:List (Nat×Nat)):(List.range n).map (fun v=>[FV.list 1 ((zn E v).map zy)])=(zL n E).map YO:=by
 unfold zL
 rw [List.map_map]
 rfl
def Wl:List Int→FV
 | [] => .nil
 | b :: l => .own 100 0 0 (b :: l).length
def zcx (n:Nat) (E:List (Nat×Nat)) (i:Nat):List Int:=(List.range i).foldl (XP n E) []
theorem Uo (n:Nat) (E:List (Nat×Nat)) (i:Nat):zcx n E (i+1)=XP n E (zcx n E i) i:=by
 unfold zcx
 rw [List.range_succ,List.foldl_append];rfl
theorem zbR {n:Nat} {E:List (Nat×Nat)} (h:InN n E):∀ {i:Nat},i≤n→(zcx n E i).length≤n
 | 0, _ => Nat.zero_le _
 | i+1, hi => by rw [Uo]; exact zd6 h (by omega) (zbR h (by omega))
theorem Ym (E:List (Nat×Nat)):(yP E).length=E.length:=List.length_map _
theorem yl.le {P:Program} {f:Nat} {args:List FV} {r r' : FV} (h:yl P f args .sh r) (hle:FV.le r r') (hh:r'.hand=none):yl P f args .sh r' where
 go:=h.go
 hand:=hh
 calls w I vs hI hv:=(h.calls w I vs hI hv).mono fun e w' ⟨v,e1,hb,hr⟩=>⟨v,e1,hb,Rd.le hle hr⟩
def zlD:List (List FV)→FV
 | [] => .nil
 | e :: es => .list 1 (e :: es)
theorem zkp (es:List (List FV)):FV.le (zlD es) (.list 1 es):=by
 cases es with
 | nil => exact .nil 1
 | cons e es => exact .refl _
theorem zhS (es:List (List FV)):(zlD es).hand=none:=by cases es <;> rfl
set_option maxHeartbeats 4000000 in
theorem zd8 (n:Nat) (E:List (Nat×Nat)) (hn:n≤14) (hE:E.length≤1000) (hin:InN n E):yl Try.prog 56 [.int .i64 n,.list 2 (E.map edf)] .sh (zlD ((zcW n E).map zy)):=by
 refine yl.of_body (c:=(ZJ Try.prog zH zB 128)) ⟨Try.func56,rfl,Try.ntmps56,by kernel_rfl⟩ (by simp [FV.hand]) (by exact Nat.le_of_ble_eq_true rfl) (zhS _) ?_
 change FW _ _ _ ⟨[(0,.int .i64 n),(1,.list 2 (E.map edf))],[]⟩
 (repeat (first|refine FW.seq ?_|refine FW.region ?_|refine zc.nil ?_|refine zb rfl rfl rfl ?_|refine za rfl rfl rfl ?_))
 refine xi (ZG n E (by omega) (by omega) hin) (by repeat (first|exact zG.nil|refine zG.cons (by exact Zg.plain rfl rfl) ?_)) rfl rfl ?_
 rw [zcm]
 (repeat (first|refine FW.seq ?_|refine FW.region ?_|refine FW.block ?_|refine zc.nil ?_|refine zb rfl rfl rfl ?_|refine za rfl rfl rfl ?_|refine zu rfl rfl (by exact List.length_map _) rfl rfl ?_))
 refine FW.loop (fun i:Nat=>⟨[(0,.int .i64 n),(1,.list 2 (E.map edf)),(5,.list 1 ((zL n E).map YO)),(6,.own 100 0 0 i),(22,.list 2 (E.map edf)),(23,.int .i64 E.length),(24,.int .i64 i)],[(100,⟨0,.own,75,2,((yP E).take i).map edf⟩)]⟩) (fun i=>i≤E.length) (fun i=>E.length - i) 0 (Nat.zero_le _)
  (FLe.cv [⟨100,none,0,⟨0,.own,75,2,[]⟩⟩] (by repeat (first|exact .nil|refine .new ?_)) (by repeat (first|exact .nil|refine .cons (.plain rfl rfl rfl) ?_|refine .cons (.nil rfl (.head _) rfl) ?_))) ?_
 intro i hi
 (repeat (first|refine FW.seq ?_|refine FW.region ?_|refine zc.nil ?_|refine zX rfl rfl rfl rfl ?_))
 refine FW.cond rfl (fun h=>?_) (fun h=>?_)
 ·have hlt:i<E.length:=by simpa using h
  clear h
  obtain ⟨⟨a,b⟩,he⟩:∃ e,nth E i=e:=⟨_,rfl⟩
  have hti:((yP E).take i).length=i:=by rw [List.length_take,Ym];omega
  have hts:(yP E).take (i+1)=(yP E).take i++[(b,a)]:=by
   rw [List.take_succ_eq_append_getElem (by rw [Ym];exact hlt)]
   congr 2
   rw [nth_eq hlt] at he
   simp [yP,he]
  obtain ⟨Z,hZ⟩:∃ Z,(yP E).take i=Z:=⟨_,rfl⟩
  rw [hZ] at hti hts ⊢
  (repeat (first|refine FW.seq ?_|refine FW.region ?_|refine FW.block ?_|refine FW.skip ?_|refine zc.nil ?_|refine zb rfl rfl rfl ?_|refine za rfl rfl rfl ?_|refine zp rfl rfl rfl rfl rfl rfl (by first|(simp;omega)|(simp;done)) rfl rfl ?_|refine zgz rfl rfl rfl rfl rfl rfl rfl (by decide) (by first|(simp;omega)|(simp;done)) rfl rfl ?_|refine zw rfl rfl rfl rfl rfl (by first|(simp;omega)|(simp;done)) (by first|exact zg (by omega)|rfl) rfl rfl rfl rfl ?_|refine yL rfl rfl rfl (by decide) (by first|(simp;omega)|(simp;done)) (by first|exact zg (by omega)|rfl) rfl rfl rfl ?_|refine zD rfl rfl rfl rfl rfl rfl rfl ?_|refine zi rfl rfl rfl rfl rfl rfl rfl rfl rfl ?_|refine zbu rfl rfl rfl rfl rfl rfl rfl rfl rfl ?_|refine Wb rfl rfl rfl rfl rfl rfl rfl rfl rfl rfl ?_|refine Wa rfl rfl (by first|rfl|(simp;done)|(simp;omega)) rfl rfl rfl (by decide) (by exact Yq.own rfl rfl (by decide) (by first|exact List.length_map _|exact (List.length_map _).symm|exact List.length_replicate|rfl|(simp;done)|omega|(simp;omega))) (by first|(simp;omega)|(simp;done)) (by first|(simp;omega)|(simp;done)) rfl rfl rfl ?_|refine zq rfl rfl (by omega) rfl rfl ?_))
  rw [he]
  skip
  refine ⟨i+1,by omega,by omega,?_⟩
  rw [hts,List.map_append]
  exact (FLe.cv [⟨100,some 35,0+1,⟨0,.own,75,2,Z.map edf++[(b,a)].map edf⟩⟩] (by repeat (first|exact .nil|refine .old rfl (by decide) (by first|rfl|(simp;omega)) ?_)) (by repeat (first|exact .nil|refine .cons (.plain rfl rfl (by first|rfl|(simp;omega))) ?_|refine .cons (.own rfl (.head _) rfl (by first|rfl|(simp;omega))) ?_)))
 ·obtain rfl:i=E.length:=by simp at h;omega
  clear h hi
  rw [← Ym,List.take_length]
  (repeat (first|refine FW.seq ?_|refine FW.region ?_|refine FW.exit ?_|refine za rfl rfl rfl ?_))
  refine zc.le ?_ (FLe.share 38 rfl rfl (by simp))
  refine xi (ZG n (yP E) (by omega) (by rw [Ym];omega) (xG hin)) (by repeat (first|exact zG.nil|refine zG.cons (by exact Zg.plain rfl rfl) ?_)) rfl rfl ?_
  rw [zcm]
  (repeat (first|refine FW.seq ?_|refine FW.region ?_|refine FW.block ?_|refine zc.nil ?_|refine zb rfl rfl rfl ?_|refine za rfl rfl rfl ?_))
  refine FW.loop (fun i:Nat=>⟨[(0,.int .i64 n),(5,.list 1 ((zL n E).map YO)),(9,.list 1 ((zL n (yP E)).map YO)),(10,Wl (zcx n E i)),(40,.int .i64 n),(41,.int .i64 i)],[(100,⟨0,.own,3,1,(zcx n E i).map zy⟩)]⟩) (fun i=>i≤n) (fun i=>n - i) 0 (Nat.zero_le _) ?_ ?_
  ·show FLe _ ⟨[(0,.int .i64 n),(5,.list 1 ((zL n E).map YO)),(9,.list 1 ((zL n (yP E)).map YO)),(10,.nil),(40,.int .i64 n),(41,.int .i64 0)],[(100,⟨0,.own,3,1,[]⟩)]⟩
   exact (FLe.cv [⟨100,none,0,⟨0,.own,3,1,[]⟩⟩] (by repeat (first|exact .nil|refine .new ?_)) (by repeat (first|exact .nil|refine .cons (.plain rfl rfl rfl) ?_)))
  intro i hi
  (repeat (first|refine FW.seq ?_|refine FW.region ?_|refine zc.nil ?_|refine zX rfl rfl rfl rfl ?_))
  refine FW.cond rfl (fun h=>?_) (fun h=>?_)
  ·have hlt:i<n:=by simpa using h
   clear h
   (repeat (first|refine FW.seq ?_|refine FW.region ?_|refine FW.block ?_|refine FW.skip ?_|refine zc.nil ?_|refine za rfl rfl rfl ?_|refine zw rfl rfl rfl rfl rfl (by simp;done) rfl rfl rfl rfl rfl ?_|refine zD rfl rfl rfl rfl rfl rfl rfl ?_|refine xE rfl rfl rfl rfl rfl rfl rfl rfl rfl ?_))
   refine VX (zaI n i (zL n (yP E)) hn hlt (yh n _) (Zd (xG hin)) (fun r hr=>by have:=ziz n (yP E) r hr;rw [Ym] at this;omega)) (by repeat (first|exact zG.nil|refine zG.cons (by exact Zg.plain rfl rfl) ?_)) ((List.length_map _).trans (Um hin hlt)) rfl rfl rfl ?_
   rw [show dist (zL n (yP E)) n i=zN n E i from rfl]
   have hdl:=Um hin hlt
   have hrng:=fun v (hv:v<n)=>zcH hin hlt hv
   have hrw:nth (zL n E) i=zn E i:=Zq E hlt
   have hrn:=yh n E
   refine zc.le ?_ ((FLe.share 47 rfl rfl (by rw [List.length_map];exact hdl.symm)).trans (FLe.shareP 11 rfl rfl))
   obtain ⟨d,hd⟩:∃ d,zN n E i=d:=⟨_,rfl⟩
   rw [hd] at hdl hrng ⊢
   (repeat (first|refine FW.seq ?_|refine FW.region ?_|refine FW.block ?_|refine zc.nil ?_|refine zb rfl rfl rfl ?_|refine za rfl rfl rfl ?_|refine zu rfl rfl (by first|exact List.length_map _|rfl|(simp;done)|(simp;omega)) rfl rfl ?_|refine zp rfl rfl rfl rfl rfl rfl (by first|(simp;omega)|(simp;done)) rfl rfl ?_|refine zm rfl rfl rfl (by first|(simp;omega)|(simp;done)) (by first|exact zg (by omega)|rfl) rfl rfl rfl rfl ?_|refine zD rfl rfl rfl rfl rfl rfl rfl ?_|refine xE rfl rfl rfl rfl rfl rfl rfl rfl rfl ?_))
   rw [hrw]
   obtain ⟨B,hB⟩:∃ B,zcx n E i=B:=⟨_,rfl⟩
   rw [hB]
   refine FW.le ?_ (FLe.shareP 12 rfl rfl)
   refine FW.loop (fun j:Nat=>⟨[(0,.int .i64 n),(5,.list 1 ((zL n E).map YO)),(9,.list 1 ((zL n (yP E)).map YO)),(10,Wl B),(40,.int .i64 n),(41,.int .i64 i),(11,.eptr 1 [[.int .i64 i]] 0 0),(12,.eptr 1 [[.list 1 (d.map zy)]] 0 0),(13,.int .i64 (((zn E i).take j).foldl (yi d i) 0)),(51,.list 1 ((zn E i).map zy)),(52,.int .i64 (zn E i).length),(53,.int .i64 j)],[(100,⟨0,.own,3,1,B.map zy⟩)]⟩) (fun j=>j≤(zn E i).length) (fun j=>(zn E i).length - j) 0 (Nat.zero_le _) ?_ ?_
   ·rcases B with _|⟨b,l⟩
    ·show FLe _ ⟨[(0,.int .i64 n),(5,.list 1 ((zL n E).map YO)),(9,.list 1 ((zL n (yP E)).map YO)),(10,.nil),(40,.int .i64 n),(41,.int .i64 i),(11,.eptr 1 [[.int .i64 i]] 0 0),(12,.eptr 1 [[.list 1 (d.map zy)]] 0 0),(13,.int .i64 0),(51,.list 1 ((zn E i).map zy)),(52,.int .i64 (zn E i).length),(53,.int .i64 0)],[(100,⟨0,.own,3,1,[]⟩)]⟩
     exact (FLe.cv [⟨100,some 100,0,⟨0,.own,3,1,[]⟩⟩] (by repeat (first|exact .nil|refine .old rfl (by decide) rfl ?_)) (by repeat (first|exact .nil|refine .cons (.plain rfl rfl rfl) ?_)))
    ·show FLe _ ⟨[(0,.int .i64 n),(5,.list 1 ((zL n E).map YO)),(9,.list 1 ((zL n (yP E)).map YO)),(10,.own 100 0 0 (b::l).length),(40,.int .i64 n),(41,.int .i64 i),(11,.eptr 1 [[.int .i64 i]] 0 0),(12,.eptr 1 [[.list 1 (d.map zy)]] 0 0),(13,.int .i64 0),(51,.list 1 ((zn E i).map zy)),(52,.int .i64 (zn E i).length),(53,.int .i64 0)],[(100,⟨0,.own,3,1,(b::l).map zy⟩)]⟩
     exact (FLe.cv [⟨100,some 100,0,⟨0,.own,3,1,(b::l).map zy⟩⟩] (by repeat (first|exact .nil|refine .old rfl (by decide) rfl ?_)) (by repeat (first|exact .nil|refine .cons (.plain rfl rfl rfl) ?_|refine .cons (.own rfl (.head _) rfl rfl) ?_)))
   have hsl:=Xh E i
   intro j hj
   (repeat (first|refine FW.seq ?_|refine FW.region ?_|refine zc.nil ?_|refine zX rfl rfl rfl rfl ?_))
   refine FW.cond rfl (fun h=>?_) (fun h=>?_)
   ·have hlt3:j<(zn E i).length:=by simpa using h
    clear h
    obtain ⟨v,hv⟩:∃ v:Nat,nth (zn E i) j=v:=⟨(nth (zn E i) j).toNat,by have:=(yu hin (zC hlt3)).1;omega⟩
    have hvn:v<n:=by have:=(yu hin (zC hlt3)).2;omega
    have hrv:=hrng v hvn
    have hst:((zn E i).take (j+1)).foldl (yi d i) 0=yi d i (((zn E i).take j).foldl (yi d i) 0) v:=by
     rw [List.take_succ_eq_append_getElem hlt3,List.foldl_append,← nth_eq hlt3,hv];rfl
    obtain ⟨L,hL⟩:∃ L,((zn E i).take j).foldl (yi d i) 0=L:=⟨_,rfl⟩
    rw [hL] at hst ⊢
    generalize hBm:B.map zy=Bm
    have hdn:nth d ((v:Int)).toNat=nth d v:=rfl
    (repeat (first|refine FW.seq ?_|refine FW.region ?_|refine FW.block ?_|refine FW.skip ?_|refine zc.nil ?_|refine zb rfl rfl rfl ?_|refine za rfl rfl rfl ?_|refine zp rfl rfl rfl rfl rfl rfl (by first|(simp;omega)|(simp;done)) rfl rfl ?_|refine zm rfl rfl rfl (by first|(simp;omega)|(simp;done)) (by first|exact zg (by omega)|rfl) rfl rfl rfl rfl ?_|refine zdJ rfl rfl rfl rfl ?_))
    rw [hv]
    skip
    refine yg (fun h1=>?_) (fun h1=>?_)
    ·(repeat (first|refine za rfl rfl rfl ?_|refine zI rfl rfl rfl rfl ?_|refine zm rfl rfl rfl (by first|(simp;omega)|(simp;done)) (by first|exact zg (by omega)|rfl) rfl rfl rfl ⟨_,_,rfl,rfl,rfl⟩ ?_|refine za rfl rfl ⟨_,_,rfl,rfl,rfl⟩ ?_|refine zp rfl rfl rfl rfl rfl rfl (by first|(simp;omega)|(simp;done)) rfl ⟨_,_,rfl,rfl,rfl⟩ ?_|refine zdJ rfl rfl rfl ⟨_,_,rfl,rfl,rfl⟩ ?_))
     refine yg (fun h2=>?_) (fun h2=>?_)
     ·(repeat (first|refine za rfl rfl ⟨_,_,rfl,rfl,rfl⟩ ?_|refine yO rfl rfl rfl ⟨_,_,rfl,rfl,rfl⟩ ?_))
      refine yg (fun h3=>?_) (fun h3=>?_)
      ·(repeat (first|refine FW.region ?_|refine FW.condT rfl ?_|refine zc.nil ?_|refine zb rfl rfl rfl ?_|refine za rfl rfl rfl ?_|refine zp rfl rfl rfl rfl rfl rfl (by first|omega|(simp;omega)|(simp;done)) rfl rfl ?_|refine zm rfl rfl rfl (by first|omega|(simp;omega)|(simp;done)) (by first|exact zg (by omega)|rfl) rfl rfl rfl rfl ?_|refine zq rfl rfl (by omega) rfl rfl ?_|refine zI rfl rfl rfl rfl ?_|refine zI rfl rfl rfl ⟨_,_,rfl,rfl,rfl⟩ ?_|refine yo rfl rfl ⟨_,_,rfl,rfl,rfl⟩ ?_))
       rw [yi,if_pos ⟨⟨by simpa using h1,by simpa using h2⟩,.inl (by simpa using h3)⟩,hdn] at hst
       refine ⟨j+1,by omega,by omega,?_⟩
       rw [hst]
       rcases B with _|⟨b,l⟩ <;> dsimp only [Wl]
       ·exact (FLe.cv [⟨100,some 100,0,⟨0,.own,3,1,Bm⟩⟩] (by repeat (first|exact .nil|refine .old rfl (by decide) rfl ?_)) (by repeat (first|exact .nil|refine .cons (.plain rfl rfl rfl) ?_)))
       ·exact (FLe.cv [⟨100,some 100,0,⟨0,.own,3,1,Bm⟩⟩] (by repeat (first|exact .nil|refine .old rfl (by decide) rfl ?_)) (by repeat (first|exact .nil|refine .cons (.plain rfl rfl rfl) ?_|refine .cons (.own rfl (.head _) rfl rfl) ?_)))
      ·(repeat (first|refine zc.nil ?_|refine zI rfl rfl rfl rfl ?_|refine zm rfl rfl rfl (by first|(simp;omega)|(simp;done)) (by first|exact zg (by omega)|rfl) rfl rfl rfl ⟨_,_,rfl,rfl,rfl⟩ ?_|refine za rfl rfl ⟨_,_,rfl,rfl,rfl⟩ ?_|refine zp rfl rfl rfl rfl rfl rfl (by first|(simp;omega)|(simp;done)) rfl ⟨_,_,rfl,rfl,rfl⟩ ?_|refine zq rfl rfl (by omega) rfl ⟨_,_,rfl,rfl,rfl⟩ ?_|refine zX rfl rfl rfl ⟨_,_,rfl,rfl,rfl⟩ ?_|refine zQ rfl rfl rfl ⟨_,_,rfl,rfl,rfl⟩ ?_))
       refine FW.cond rfl (fun h4=>?_) (fun h4=>?_)
       ·(repeat (first|refine FW.region ?_|refine zc.nil ?_|refine zb rfl rfl rfl ?_|refine za rfl rfl rfl ?_|refine zp rfl rfl rfl rfl rfl rfl (by first|(simp;omega)|(simp;done)) rfl rfl ?_|refine zm rfl rfl rfl (by first|(simp;omega)|(simp;done)) (by first|exact zg (by omega)|rfl) rfl rfl rfl rfl ?_|refine zq rfl rfl (by omega) rfl rfl ?_))
        rw [yi,if_pos ⟨⟨by simpa using h1,by simpa using h2⟩,.inr (by simpa using h4)⟩,hdn] at hst
        refine ⟨j+1,by omega,by omega,?_⟩
        rw [hst]
        rcases B with _|⟨b,l⟩ <;> dsimp only [Wl]
        ·exact (FLe.cv [⟨100,some 100,0,⟨0,.own,3,1,Bm⟩⟩] (by repeat (first|exact .nil|refine .old rfl (by decide) rfl ?_)) (by repeat (first|exact .nil|refine .cons (.plain rfl rfl rfl) ?_)))
        ·exact (FLe.cv [⟨100,some 100,0,⟨0,.own,3,1,Bm⟩⟩] (by repeat (first|exact .nil|refine .old rfl (by decide) rfl ?_)) (by repeat (first|exact .nil|refine .cons (.plain rfl rfl rfl) ?_|refine .cons (.own rfl (.head _) rfl rfl) ?_)))
       ·(repeat (first|refine FW.region ?_|refine FW.skip ?_|refine zc.nil ?_|refine za rfl rfl rfl ?_|refine zq rfl rfl (by omega) rfl rfl ?_))
        rw [yi,if_neg (fun q=>by simp at h3 h4;rcases q.2 with q|q;exact h3 q;rw [hdn] at q;omega)] at hst
        refine ⟨j+1,by omega,by omega,?_⟩
        rw [hst]
        rcases B with _|⟨b,l⟩ <;> dsimp only [Wl]
        ·exact (FLe.cv [⟨100,some 100,0,⟨0,.own,3,1,Bm⟩⟩] (by repeat (first|exact .nil|refine .old rfl (by decide) rfl ?_)) (by repeat (first|exact .nil|refine .cons (.plain rfl rfl rfl) ?_)))
        ·exact (FLe.cv [⟨100,some 100,0,⟨0,.own,3,1,Bm⟩⟩] (by repeat (first|exact .nil|refine .old rfl (by decide) rfl ?_)) (by repeat (first|exact .nil|refine .cons (.plain rfl rfl rfl) ?_|refine .cons (.own rfl (.head _) rfl rfl) ?_)))
     ·(repeat (first|refine FW.region ?_|refine FW.skip ?_|refine FW.condF rfl ?_|refine zc.nil ?_|refine za rfl rfl rfl ?_|refine zq rfl rfl (by omega) rfl rfl ?_|refine zQ rfl rfl rfl rfl ?_|refine yo rfl rfl ⟨_,_,rfl,rfl,rfl⟩ ?_))
      rw [yi,if_neg (fun q=>by simp at h2;have q2:=q.1.2;rw [hdn] at q2;omega)] at hst
      refine ⟨j+1,by omega,by omega,?_⟩
      rw [hst]
      rcases B with _|⟨b,l⟩ <;> dsimp only [Wl]
      ·exact (FLe.cv [⟨100,some 100,0,⟨0,.own,3,1,Bm⟩⟩] (by repeat (first|exact .nil|refine .old rfl (by decide) rfl ?_)) (by repeat (first|exact .nil|refine .cons (.plain rfl rfl rfl) ?_)))
      ·exact (FLe.cv [⟨100,some 100,0,⟨0,.own,3,1,Bm⟩⟩] (by repeat (first|exact .nil|refine .old rfl (by decide) rfl ?_)) (by repeat (first|exact .nil|refine .cons (.plain rfl rfl rfl) ?_|refine .cons (.own rfl (.head _) rfl rfl) ?_)))
    ·(repeat (first|refine FW.region ?_|refine FW.skip ?_|refine FW.condF rfl ?_|refine zc.nil ?_|refine za rfl rfl rfl ?_|refine zq rfl rfl (by omega) rfl rfl ?_|refine zQ rfl rfl rfl rfl ?_|refine yo rfl rfl ⟨_,_,rfl,rfl,rfl⟩ ?_))
     rw [yi,if_neg (fun q=>by simp at h1;omega)] at hst
     refine ⟨j+1,by omega,by omega,?_⟩
     rw [hst]
     rcases B with _|⟨b,l⟩ <;> dsimp only [Wl]
     ·exact (FLe.cv [⟨100,some 100,0,⟨0,.own,3,1,Bm⟩⟩] (by repeat (first|exact .nil|refine .old rfl (by decide) rfl ?_)) (by repeat (first|exact .nil|refine .cons (.plain rfl rfl rfl) ?_)))
     ·exact (FLe.cv [⟨100,some 100,0,⟨0,.own,3,1,Bm⟩⟩] (by repeat (first|exact .nil|refine .old rfl (by decide) rfl ?_)) (by repeat (first|exact .nil|refine .cons (.plain rfl rfl rfl) ?_|refine .cons (.own rfl (.head _) rfl rfl) ?_)))
   ·obtain rfl:j=(zn E i).length:=by simp at h;omega
    clear h hj
    rw [List.take_length]
    obtain ⟨L,hL⟩:∃ L,(zn E i).foldl (yi d i) 0=L:=⟨_,rfl⟩
    rw [hL]
    have hLL:yZ (zN n E i) i (zn E i)=L:=by rw [hd];exact hL
    have hcs:=Uo n E i
    rw [hB] at hcs
    unfold XP at hcs
    dsimp only at hcs
    rw [hLL] at hcs
    have hBl:B.length≤n:=hB▸zbR hin (by omega)
    refine FW.exit ?_
    refine FW.seq ?_
    refine FW.seq ?_
    refine FW.join (fun _:Unit=>⟨[(0,.int .i64 n),(5,.list 1 ((zL n E).map YO)),(9,.list 1 ((zL n (yP E)).map YO)),(10,Wl B),(40,.int .i64 n),(41,.int .i64 i),(11,.eptr 1 [[.int .i64 i]] 0 0),(12,.eptr 1 [[.list 1 (d.map zy)]] 0 0),(13,.int .i64 L),(97,.bool (decide (L=0∨(B≠[]∧(B.length:Int)≤L))))],[(100,⟨0,.own,3,1,B.map zy⟩)]⟩) (fun _=>True) ?_ (fun _ _=>?_)
    ·rcases B with _|⟨b,l⟩
     ·dsimp only [Wl]
      (repeat (first|refine FW.region ?_|refine za rfl rfl rfl ?_|refine yO rfl rfl rfl rfl ?_))
      refine yg (fun h1=>?_) (fun h1=>?_)
      ·(repeat (first|refine zc.nil ?_|refine zI rfl rfl rfl rfl ?_|refine yo rfl rfl ⟨_,_,rfl,rfl,rfl⟩ ?_))
       refine ⟨rfl,(),trivial,?_⟩
       rw [show decide (L=0∨(([]:List Int)≠[]∧((([]:List Int).length:Nat):Int)≤L))=true by simpa using h1]
       exact (FLe.cv [⟨100,some 100,0,⟨0,.own,3,1,[]⟩⟩] (by repeat (first|exact .nil|refine .old rfl (by decide) rfl ?_)) (by repeat (first|exact .nil|refine .cons (.plain rfl rfl rfl) ?_)))
      ·(repeat (first|refine zc.nil ?_|refine zQ rfl rfl rfl rfl ?_|refine za rfl rfl ⟨_,_,rfl,rfl,rfl⟩ ?_|refine zQ rfl rfl rfl ⟨_,_,rfl,rfl,rfl⟩ ?_|refine ziw rfl rfl rfl rfl ⟨_,_,rfl,rfl,rfl⟩ ?_|refine yo rfl rfl ⟨_,_,rfl,rfl,rfl⟩ ?_))
       refine ⟨rfl,(),trivial,?_⟩
       rw [show decide (L=0∨(([]:List Int)≠[]∧((([]:List Int).length:Nat):Int)≤L))=false by simpa using h1]
       exact (FLe.cv [⟨100,some 100,0,⟨0,.own,3,1,[]⟩⟩] (by repeat (first|exact .nil|refine .old rfl (by decide) rfl ?_)) (by repeat (first|exact .nil|refine .cons (.plain rfl rfl rfl) ?_)))
     ·dsimp only [Wl]
      (repeat (first|refine FW.region ?_|refine za rfl rfl rfl ?_|refine yO rfl rfl rfl rfl ?_))
      refine yg (fun h1=>?_) (fun h1=>?_)
      ·(repeat (first|refine zc.nil ?_|refine zI rfl rfl rfl rfl ?_|refine yo rfl rfl ⟨_,_,rfl,rfl,rfl⟩ ?_))
       refine ⟨rfl,(),trivial,?_⟩
       rw [show decide (L=0∨((b::l:List Int)≠[]∧(((b::l:List Int).length:Nat):Int)≤L))=true by simp at h1 ⊢;exact .inl h1]
       exact (FLe.cv [⟨100,some 100,0,⟨0,.own,3,1,(b::l).map zy⟩⟩] (by repeat (first|exact .nil|refine .old rfl (by decide) rfl ?_)) (by repeat (first|exact .nil|refine .cons (.plain rfl rfl rfl) ?_|refine .cons (.own rfl (.head _) rfl rfl) ?_)))
      ·(repeat (first|refine zc.nil ?_|refine zQ rfl rfl rfl rfl ?_|refine za rfl rfl ⟨_,_,rfl,rfl,rfl⟩ ?_|refine zdJ rfl rfl rfl ⟨_,_,rfl,rfl,rfl⟩ ?_|refine zI rfl rfl rfl ⟨_,_,rfl,rfl,rfl⟩ ?_|refine zix rfl rfl rfl rfl (by decide) (by simp;done) rfl ⟨_,_,rfl,rfl,rfl⟩ ?_|refine yF rfl rfl rfl (by decide) rfl ⟨_,_,rfl,rfl,rfl⟩ ?_))
       refine ⟨rfl,(),trivial,?_⟩
       rw [show decide (L=0∨((b::l:List Int)≠[]∧(((b::l:List Int).length:Nat):Int)≤L))=decide (L≥(((b::l).length:Nat):Int)) by simp at h1 ⊢;intro q;exact absurd q h1]
       exact (FLe.cv [⟨100,some 100,0,⟨0,.own,3,1,(b::l).map zy⟩⟩] (by repeat (first|exact .nil|refine .old rfl (by decide) rfl ?_)) (by repeat (first|exact .nil|refine .cons (.plain rfl rfl rfl) ?_|refine .cons (.own rfl (.head _) rfl rfl) ?_)))
    ·refine FW.cond rfl (fun h=>?_) (fun h=>?_)
     ·rw [if_pos (by simpa using h)] at hcs
      (repeat (first|refine FW.region ?_|refine FW.exit ?_|refine zc.nil ?_|refine za rfl rfl rfl ?_|refine zq rfl rfl (by omega) rfl rfl ?_))
      refine ⟨i+1,by omega,by omega,?_⟩
      rw [hcs]
      generalize hBm:B.map zy=Bm
      rcases B with _|⟨b,l⟩ <;> dsimp only [Wl]
      ·exact (FLe.cv [⟨100,some 100,0,⟨0,.own,3,1,Bm⟩⟩] (by repeat (first|exact .nil|refine .old rfl (by decide) rfl ?_)) (by repeat (first|exact .nil|refine .cons (.plain rfl rfl rfl) ?_)))
      ·exact (FLe.cv [⟨100,some 100,0,⟨0,.own,3,1,Bm⟩⟩] (by repeat (first|exact .nil|refine .old rfl (by decide) rfl ?_)) (by repeat (first|exact .nil|refine .cons (.plain rfl rfl rfl) ?_|refine .cons (.own rfl (.head _) rfl rfl) ?_)))
     ·have hno:¬ (L=0∨(B≠[]∧(B.length:Int)≤L)):=by simpa using h
      rw [if_neg hno] at hcs
      obtain ⟨K,hK,hKn,hway⟩:=Yy hin hlt (by rw [hLL];exact fun e=>hno (.inl e))
      rw [hLL] at hK
      subst hK
      rw [show ((K+1:Nat):Int).toNat - 1=K by omega] at hcs
      clear h hno hL hLL hB hBl hrn
      rw [hd] at hcs
      refine FW.le (s':=⟨[(0,.int .i64 n),(5,.list 1 ((zL n E).map YO)),(9,.list 1 ((zL n (yP E)).map YO)),(40,.int .i64 n),(41,.int .i64 i),(11,.eptr 1 [[.int .i64 i]] 0 0),(12,.eptr 1 [[.list 1 (d.map zy)]] 0 0),(13,.int .i64 (K+1:Nat))],[]⟩) ?_ (FLe.cv [] (by repeat (first|exact .nil)) (by repeat (first|exact .nil|refine .cons (.plain rfl rfl rfl) ?_)))
      (repeat (first|refine FW.seq ?_|refine FW.region ?_|refine FW.block ?_|refine FW.skip ?_|refine zc.nil ?_|refine zb rfl rfl rfl ?_|refine zm rfl rfl rfl (by simp;done) rfl rfl rfl rfl rfl ?_|refine xh rfl rfl rfl rfl rfl rfl rfl rfl ?_))
      refine FW.loop (fun x:List Int×Nat=>⟨[(0,.int .i64 n),(5,.list 1 ((zL n E).map YO)),(9,.list 1 ((zL n (yP E)).map YO)),(40,.int .i64 n),(41,.int .i64 i),(11,.eptr 1 [[.int .i64 i]] 0 0),(12,.eptr 1 [[.list 1 (d.map zy)]] 0 0),(13,.int .i64 (K+1:Nat)),(10,.own 100 0 0 x.1.length),(16,.int .i64 x.2)],[(100,⟨0,.own,3,1,x.1.map zy⟩)]⟩) (fun x=>∃ k,x.1.length+k=K+1∧x.2<n∧Way E (zN n E i) i k x.2∧x.1++ZM E d i k x.2=(i:Int)::ZM E d i K i) (fun x=>K+1 - x.1.length) ([(i:Int)],i) ⟨K,by simp;omega,hlt,hway,rfl⟩ ?_ ?_
      ·show FLe _ ⟨[(0,.int .i64 n),(5,.list 1 ((zL n E).map YO)),(9,.list 1 ((zL n (yP E)).map YO)),(40,.int .i64 n),(41,.int .i64 i),(11,.eptr 1 [[.int .i64 i]] 0 0),(12,.eptr 1 [[.list 1 (d.map zy)]] 0 0),(13,.int .i64 (K+1:Nat)),(10,.own 100 0 0 1),(16,.int .i64 i)],[(100,⟨0,.own,3,1,[[.int .i64 i]]⟩)]⟩
       exact (FLe.cv [⟨100,some 99,0+1,⟨0,.own,3,1,[[.int .i64 i]]⟩⟩] (by repeat (first|exact .nil|refine .old rfl (by decide) rfl ?_)) (by repeat (first|exact .nil|refine .cons (.plain rfl rfl rfl) ?_|refine .cons (.own rfl (.head _) rfl rfl) ?_)))
      ·rintro ⟨P,v⟩ ⟨k,hPk,hvn,hw,hP⟩
       dsimp only at hPk hvn hw hP ⊢
       (repeat (first|refine FW.seq ?_|refine FW.region ?_|refine zc.nil ?_|refine za rfl rfl rfl ?_|refine yF rfl rfl rfl (by decide) rfl rfl ?_|refine zX rfl rfl rfl rfl ?_))
       refine FW.cond rfl (fun h=>?_) (fun h=>?_)
       ·obtain ⟨k,rfl⟩:∃ k',k=k'+1:=⟨k - 1,by simp at h;omega⟩
        clear h
        obtain ⟨j,hj,hfx,hnx,hsn,hway'⟩:=hw.step hin hlt
        rw [hd] at hfx hnx hsn hway'
        have hwo:ZM E d i (k+1) v=(xw E d i (k+1:Nat) v:Int)::ZM E d i k (xw E d i (k+1:Nat) v):=rfl
        rw [hwo] at hP
        obtain ⟨u,hu⟩:∃ u,xw E d i (k+1:Nat) v=u:=⟨_,rfl⟩
        rw [hu] at hnx hsn hway' hP
        have hvr:nth (zL n E) v=zn E v:=Zq E hvn
        have hvl:=Xh E v
        have hrn:=yh n E
        have hlft:((K+1:Nat):Int) - (P.length:Int)=(k+1:Nat):=by omega
        (repeat (first|refine FW.seq ?_|refine FW.region ?_|refine FW.block ?_|refine FW.skip ?_|refine zc.nil ?_|refine za rfl rfl rfl ?_|refine yF rfl rfl rfl (by decide) rfl rfl ?_|refine zp rfl rfl rfl rfl rfl rfl (by simp;omega) rfl rfl ?_|refine zm rfl rfl rfl (by simp;omega) (by first|exact zg (by omega)|rfl) rfl rfl rfl rfl ?_|refine zD rfl rfl rfl rfl rfl rfl rfl ?_|refine xE rfl rfl rfl rfl rfl rfl rfl rfl rfl ?_|refine zan rfl rfl (by omega) rfl rfl ?_))
        rw [hlft,hvr]
        refine zc.le ?_ (FLe.shareP 17 rfl rfl)
        (repeat (first|refine zgB rfl rfl rfl rfl rfl rfl rfl rfl ?_))
        refine yJ (XM (zn E v) _ _ (XX d i (k+1:Nat)) (by omega) (fun x hx=>?_)) (by repeat (first|exact zG.nil|refine zG.cons (by exact Zg.plain rfl rfl) ?_)) rfl rfl ?_
        ·have hx2:=yu hin hx
         obtain ⟨x,rfl⟩:∃ x' : Nat,x=x':=⟨x.toNat,by omega⟩
         exact zd7 d i (k+1:Nat) x (by omega)
        rw [hfx]
        have hj' : j<(nth (zL n E) v).length:=by rw [hvr];exact hj
        (repeat (first|refine FW.seq ?_|refine FW.region ?_|refine zc.nil ?_|refine zb rfl rfl rfl ?_|refine za rfl rfl rfl ?_|refine zp rfl rfl rfl rfl rfl rfl (by first|(simp;omega)|(simp;done)) rfl rfl ?_|refine zm rfl rfl rfl (by first|(simp;omega)|(simp;done)) (by first|exact zg (by omega)|rfl) rfl rfl rfl rfl ?_|refine xh rfl rfl rfl rfl rfl rfl rfl rfl ?_|refine Wa rfl rfl (by first|exact (List.length_map _).symm|rfl|(simp;done)|(simp;omega)) rfl rfl rfl (by decide) (by exact Yq.own rfl rfl (by decide) (by first|exact List.length_map _|exact (List.length_map _).symm|exact List.length_replicate|rfl|(simp;done)|omega|(simp;omega))) (by first|(simp;omega)|(simp;done)) (by first|(simp;omega)|(simp;done)) rfl rfl rfl ?_))
        rw [hvr]
        skip
        rw [hnx]
        skip
        refine ⟨(P++[(u:Int)],u),⟨k,by simp;omega,hsn,by rw [hd];exact hway',by rw [List.append_assoc];exact hP⟩,by simp;omega,?_⟩
        dsimp only
        rw [List.length_append,List.map_append]
        exact (FLe.cv [⟨100,some 125,0+1,⟨0,.own,3,1,P.map zy++[(u:Int)].map zy⟩⟩] (by repeat (first|exact .nil|refine .old rfl (by decide) (by first|rfl|(simp;done)) ?_)) (by repeat (first|exact .nil|refine .cons (.plain rfl rfl (by first|rfl|(simp;done))) ?_|refine .cons (.own rfl (.head _) rfl (by first|rfl|(simp;done))) ?_)))
       ·obtain rfl:k=0:=by simp at h;omega
        rw [show ZM E d i 0 v=[] from rfl,List.append_nil] at hP
        (repeat (first|refine FW.region ?_|refine FW.exit ?_|refine zc.nil ?_|refine za rfl rfl rfl ?_|refine zq rfl rfl (by omega) rfl rfl ?_))
        refine ⟨i+1,by omega,by omega,?_⟩
        rw [hcs,← hP]
        subst hP
        dsimp only [Wl]
        exact (FLe.cv [⟨100,some 100,0,⟨0,.own,3,1,((i:Int)::ZM E d i K i).map zy⟩⟩] (by repeat (first|exact .nil|refine .old rfl (by decide) rfl ?_)) (by repeat (first|exact .nil|refine .cons (.plain rfl rfl rfl) ?_|refine .cons (.own rfl (.head _) rfl rfl) ?_)))
  ·obtain rfl:i=n:=by simp at h;omega
   rw [show zcx i E i=zcW i E from rfl]
   generalize zcW i E=B
   cases B with
   | nil =>
    dsimp only [Wl]
    refine FW.le (s':=⟨[(10,.nil)],[]⟩) ?_ (FLe.cv [] (by repeat (first|exact .nil)) (by repeat (first|exact .nil|refine .cons (.plain rfl rfl rfl) ?_)))
    (repeat (first|refine FW.seq ?_|refine FW.region ?_|refine FW.exit ?_|refine zc.nil ?_|refine zb rfl rfl rfl ?_|refine za rfl rfl rfl ?_))
    exact FW.ret ⟨.inl rfl,.sh (.cons (.tmp 4 rfl rfl) .nil) rfl rfl⟩
   | cons b l =>
    dsimp only [Wl]
    refine FW.le (s':=⟨[(10,.list 1 ((b::l).map zy))],[]⟩) ?_ ((FLe.share 10 rfl rfl (by simp)).trans (FLe.cv [] (by repeat (first|exact .nil)) (by repeat (first|exact .nil|refine .cons (.plain rfl rfl rfl) ?_))))
    (repeat (first|refine FW.seq ?_|refine FW.region ?_|refine FW.exit ?_|refine zc.nil ?_|refine zb rfl rfl rfl ?_|refine za rfl rfl rfl ?_))
    exact FW.ret ⟨.inl rfl,.sh (.cons (.tmp 4 rfl rfl) .nil) rfl rfl⟩
theorem zfI (n:Nat) (E:List (Nat×Nat)) (hn:n≤14) (hE:E.length≤1000) (hin:InN n E):yl Try.prog 56 [.int .i64 n,.list 2 (E.map edf)] .sh (.list 1 ((zcW n E).map zy)):=
 (zd8 n E hn hE hin).le (zkp _) rfl
end Go.Proofs.Ytmnmakhpjgjdaaa
/-
 The contract of graph.Topo.
-/
namespace Go.Proofs.Ytmnmakhpjgjdaaa
set_option linter.unusedVariables false
open Go.RowKit

def zfB (a q:Nat):zh:=⟨a,.hrow,96,1,[[.ptr 5000 q 0 0]]⟩
theorem zhM {a q v v' n n' : Nat} {res:FV} {o:Nat→zh} {l l' : List Int} (hr:res.cl [5002,5000,5001]=true) (h2:o 5002=zfB a q) (h0:o 5000=yC q v' n') (h1:o 5001=xq v' l'):Yp [(5002,zfB a q),(5000,yC q v n),(5001,xq v l)] [] res o where
 old k hk hl:=by
  simp at hk
  rcases hk with rfl|rfl|rfl
  ·rw [h2];exact ⟨rfl,rfl,rfl⟩
  ·rw [h0];exact ⟨rfl,rfl,rfl⟩
  ·rw [h1];exact ⟨rfl,rfl,rfl⟩
 new k hk:=by cases hk
 cl k hk:=by
  simp at hk
  rcases hk with rfl|rfl|rfl
  ·rw [h2];rfl
  ·rw [h0];rfl
  ·rw [h1];rfl
 res:=hr
set_option maxHeartbeats 4000000 in
theorem zay (a q v:Nat) (l:List Int) (x:Int) (hl:l.length≤100000):yy Try.prog 60 [.int .i64 x,.ptr 5002 a 0 0] [(5002,zfB a q),(5000,yC q v l.length),(5001,xq v l)] [] (fun res o=>res=.tup []∧o 5002=zfB a q∧o 5000=yC q (v+1) (l.length+1)∧o 5001=xq (v+1) (YX l x)):=by
 refine yy.of_body (c:=(ZJ Try.prog zH zB 8)) ⟨Try.func60,rfl,Try.ntmps60,by kernel_rfl⟩ (by exact Nat.le_of_ble_eq_true rfl) ?_ ?_
 ·rintro res o ⟨rfl,h2,h0,h1⟩;exact zhM rfl h2 h0 h1
 change FW _ _ _ ⟨[(0,.int .i64 x),(1,.ptr 5002 a 0 0)],[(5002,zfB a q),(5000,yC q v l.length),(5001,xq v l)]⟩
 unfold zfB
 (repeat (first|refine FW.region ?_|refine Zn rfl rfl rfl rfl rfl rfl rfl ?_|refine zbw rfl rfl rfl (by kernel_rfl) rfl rfl ?_|refine zak rfl rfl (by kernel_rfl) rfl rfl ?_|refine za rfl rfl rfl ?_))
 refine xB (zer q v l x hl) [(5000,5000),(5001,5001)] rfl (zA.cons rfl rfl rfl (zA.cons rfl rfl rfl zA.nil)) rfl rfl rfl rfl rfl rfl ?_
 rintro _ ob' ⟨rfl,h1,h2⟩
 refine xa.one [(5000,yC q (v+1) (l.length+1)),(5001,xq (v+1) (YX l x))] (.tup []) rfl (by show [(5000,zh.ren _ (look {} ob' 5000)),(5001,zh.ren _ (look {} ob' 5001))]=_;rw [h1,h2];rfl) ?_
 clear h1 h2 ob'
 (repeat (first|refine zc.nil ?_))
 exact ⟨.inr rfl,_,.plain .nil rfl rfl,rfl,rfl,rfl,rfl⟩
def Yb (n:Nat) (E:List (Nat×Nat)) (i:Nat):List Int:=((zL n E).take i).foldl (fun m r=>r.foldl zbb m) (List.replicate n 0)
theorem zew (n:Nat) (E:List (Nat×Nat)) {i:Nat} (h:i<n):Yb n E (i+1)=(zn E i).foldl zbb (Yb n E i):=by
 have hl:=yh n E
 unfold Yb
 rw [List.take_succ_eq_append_getElem (by omega),List.foldl_append,← nth_eq (by omega),Zq E h];rfl
theorem zgb (n:Nat) (E:List (Nat×Nat)):Yb n E n=zaT n E:=by
 unfold Yb zaT
 rw [List.take_of_length_le (by rw [yh];exact Nat.le_refl _)]
theorem zev {n:Nat} {E:List (Nat×Nat)} (h:InN n E) (i:Nat):(Yb n E i).length=n∧∀ w:Nat,w<n→0≤nth (Yb n E i) w∧nth (Yb n E i) w≤n:=by
 obtain ⟨k1,k2⟩:=zap (n:=n) (rows:=(zL n E).take i) (m:=List.replicate n 0) (fun r hr=>by
  obtain ⟨u,_,rfl⟩:=List.mem_map.1 (List.mem_of_mem_take hr)
  exact ⟨ZH E u,fun w hw=>yu h hw⟩) (by simp)
 refine ⟨k1,fun w hw=>?_⟩
 have h1:(((zL n E).take i).countP fun r=>decide ((w:Int)∈r))≤((zL n E).take i).length:=List.countP_le_length
 rw [List.length_take,yh] at h1
 unfold Yb
 rw [k2 w hw,nth_eq (by simpa using hw)]
 simp
 omega
end Go.Proofs.Ytmnmakhpjgjdaaa
