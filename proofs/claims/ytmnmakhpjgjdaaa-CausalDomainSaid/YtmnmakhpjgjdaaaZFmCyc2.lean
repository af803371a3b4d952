/-
  Some texts as one: FmCyc2, FmTopo.
-/
import Derived.Test.YtmnmakhpjgjdaaaZK
import Derived.Test.YtmnmakhpjgjdaaaZL
namespace Go.Proofs.Ytmnmakhpjgjdaaa
set_option linter.unusedVariables false
set_option maxHeartbeats 16000000
open Go.RowKit
theorem zea (n:Nat) (E:List (Nat×Nat)):(List.range n).map (fun v=>[FV.list 1 ((zy E v).map zD)])=(zW n E).map Xt:=by
 unfold zW;rw [List.map_map];rfl
def Vf:List Int→FV
 | [] => .nil
 | b :: l => .own 100 0 0 (b :: l).length
def zen (n:Nat) (E:List (Nat×Nat)) (i:Nat):List Int:=(List.range i).foldl (WN n E) []
theorem zaC (n:Nat) (E:List (Nat×Nat)) (i:Nat):zen n E (i+1)=WN n E (zen n E i) i:=by
 unfold zen;rw [List.range_succ,List.foldl_append];rfl
theorem zdv {n:Nat} {E:List (Nat×Nat)} (h:InN n E):∀ {i:Nat},i≤n→(zen n E i).length≤n
 | 0, _ => Nat.zero_le _
 | i+1, hi => by rw [zaC]; exact zgn h za (zdv h za)
theorem YR (E:List (Nat×Nat)):(yO E).length=E.length:=List.length_map _
theorem zX.le {P:Program} {f:Nat} {args:List FV} {r r' : FV} (h:zX P f args .sh r) (hle:FV.le r r') (hh:r'.hand=none):zX P f args .sh r' where
 go:=h.go
 hand:=hh
 calls w I vs hI hv:=(h.calls w I vs hI hv).mono fun e w' ⟨v,e1,hb,hr⟩=>⟨v,e1,hb,Rd.le hle hr⟩
def zpo:List (List FV)→FV
 | [] => .nil
 | e :: es => .list 1 (e :: es)
theorem znR (es:List (List FV)):FV.le (zpo es) (.list 1 es):=by
 cases es with
 | nil => exact .nil 1
 | cons e es => exact .refl _
theorem zk5 (es:List (List FV)):(zpo es).hand=none:=by cases es <;> rfl
theorem zgp (n:Nat) (E:List (Nat×Nat)) (hn:n≤14) (hE:E.length≤1000) (hin:InN n E):zX Try.prog 56 [.int .i64 n,.list 2 (E.map edf)] .sh (zpo ((zeY n E).map zD)):=by
 refine zX.of_body (c:=(xx Try.prog zE zt 128)) ⟨Try.func56,rfl,Try.ntmps56,by kernel_rfl⟩ zH zw (zk5 _) ?_;change FW _ _ _ ⟨[(0,.int .i64 n),(1,.list 2 (E.map edf))],[]⟩;refine zb ?_;refine yl (Yf n E za za hin) (by repeat (first|exact zu.nil|refine zu.cons zm ?_)) rfl rfl ?_;rw [zea];refine zb ?_;refine FW.loop (fun i:Nat=>⟨[(0,.int .i64 n),(1,.list 2 (E.map edf)),(5,.list 1 ((zW n E).map Xt)),(6,.own 100 0 0 i),(22,.list 2 (E.map edf)),(23,.int .i64 E.length),(24,.int .i64 i)],[(100,⟨0,.own,75,2,((yO E).take i).map edf⟩)]⟩) (fun i=>i≤E.length) (fun i=>E.length - i) 0 (Nat.zero_le _)
  (FLe.cv [⟨100,none,0,⟨0,.own,75,2,[]⟩⟩] zf zd) ?_
 intro i hi;refine zb ?_;refine FW.cond rfl (fun h=>?_) (fun h=>?_)
 ·have hlt:i<E.length:=by simpa using h
  clear h;obtain ⟨⟨a,b⟩,he⟩:∃ e,nth E i=e:=⟨_,rfl⟩
  have hti:((yO E).take i).length=i:=by rw [List.length_take,YR];omega
  have hts:(yO E).take (i+1)=(yO E).take i++[(b,a)]:=by
   rw [List.take_succ_eq_append_getElem (by rw [YR];exact hlt)];congr 2;rw [nth_eq hlt] at he;simp [yO,he]
  obtain ⟨Z,hZ⟩:∃ Z,(yO E).take i=Z:=⟨_,rfl⟩
  rw [hZ] at hti hts ⊢;refine zb ?_;rw [he];skip;refine ⟨i+1,by omega,by omega,?_⟩;rw [hts,List.map_append];exact (FLe.cv [⟨100,some 35,0+1,⟨0,.own,75,2,Z.map edf++[(b,a)].map edf⟩⟩] zf zd)
 ·obtain rfl:i=E.length:=by simp at h;omega
  clear h hi;rw [← YR,List.take_length];refine zb ?_;refine zn.le ?_ (FLe.share 38 rfl rfl zc);refine yl (Yf n (yO E) za (by rw [YR];omega) (xU hin)) (by repeat (first|exact zu.nil|refine zu.cons zm ?_)) rfl rfl ?_;rw [zea];refine zb ?_;refine FW.loop (fun i:Nat=>⟨[(0,.int .i64 n),(5,.list 1 ((zW n E).map Xt)),(9,.list 1 ((zW n (yO E)).map Xt)),(10,Vf (zen n E i)),(40,.int .i64 n),(41,.int .i64 i)],[(100,⟨0,.own,3,1,(zen n E i).map zD⟩)]⟩) (fun i=>i≤n) (fun i=>n - i) 0 (Nat.zero_le _) ?_ ?_
  ·show FLe _ ⟨[(0,.int .i64 n),(5,.list 1 ((zW n E).map Xt)),(9,.list 1 ((zW n (yO E)).map Xt)),(10,.nil),(40,.int .i64 n),(41,.int .i64 0)],[(100,⟨0,.own,3,1,[]⟩)]⟩;exact (FLe.cv [⟨100,none,0,⟨0,.own,3,1,[]⟩⟩] zf zd)
  intro i hi;refine zb ?_;refine FW.cond rfl (fun h=>?_) (fun h=>?_)
  ·have hlt:i<n:=by simpa using h
   clear h;refine zb ?_;refine Wq (zb0 n i (zW n (yO E)) hn hlt (yq n _) (Zt (xU hin)) (fun r hr=>by have:=zlT n (yO E) r hr;rw [YR] at this;omega)) (by repeat (first|exact zu.nil|refine zu.cons zm ?_)) ((List.length_map _).trans (zaA hin hlt)) rfl rfl rfl ?_;rw [show dist (zW n (yO E)) n i=zY n E i from rfl];have hdl:=zaA hin hlt;have hrng:=fun v (hv:v<n)=>zez hin hlt hv;have hrw:nth (zW n E) i=zy E i:=ZO E hlt;have hrn:=yq n E;refine zn.le ?_ ((FLe.share 47 rfl rfl (by rw [List.length_map];exact hdl.symm)).trans (FLe.shareP 11 rfl rfl));obtain ⟨d,hd⟩:∃ d,zY n E i=d:=⟨_,rfl⟩
   rw [hd] at hdl hrng ⊢;refine zb ?_;rw [hrw];obtain ⟨B,hB⟩:∃ B,zen n E i=B:=⟨_,rfl⟩
   rw [hB];refine FW.le ?_ (FLe.shareP 12 rfl rfl);refine FW.loop (fun j:Nat=>⟨[(0,.int .i64 n),(5,.list 1 ((zW n E).map Xt)),(9,.list 1 ((zW n (yO E)).map Xt)),(10,Vf B),(40,.int .i64 n),(41,.int .i64 i),(11,.eptr 1 [[.int .i64 i]] 0 0),(12,.eptr 1 [[.list 1 (d.map zD)]] 0 0),(13,.int .i64 (((zy E i).take j).foldl (yr d i) 0)),(51,.list 1 ((zy E i).map zD)),(52,.int .i64 (zy E i).length),(53,.int .i64 j)],[(100,⟨0,.own,3,1,B.map zD⟩)]⟩) (fun j=>j≤(zy E i).length) (fun j=>(zy E i).length - j) 0 (Nat.zero_le _) ?_ ?_
   ·rcases B with _|⟨b,l⟩
    ·show FLe _ ⟨[(0,.int .i64 n),(5,.list 1 ((zW n E).map Xt)),(9,.list 1 ((zW n (yO E)).map Xt)),(10,.nil),(40,.int .i64 n),(41,.int .i64 i),(11,.eptr 1 [[.int .i64 i]] 0 0),(12,.eptr 1 [[.list 1 (d.map zD)]] 0 0),(13,.int .i64 0),(51,.list 1 ((zy E i).map zD)),(52,.int .i64 (zy E i).length),(53,.int .i64 0)],[(100,⟨0,.own,3,1,[]⟩)]⟩;exact (FLe.cv [⟨100,some 100,0,⟨0,.own,3,1,[]⟩⟩] zf zd)
    ·show FLe _ ⟨[(0,.int .i64 n),(5,.list 1 ((zW n E).map Xt)),(9,.list 1 ((zW n (yO E)).map Xt)),(10,.own 100 0 0 (b::l).length),(40,.int .i64 n),(41,.int .i64 i),(11,.eptr 1 [[.int .i64 i]] 0 0),(12,.eptr 1 [[.list 1 (d.map zD)]] 0 0),(13,.int .i64 0),(51,.list 1 ((zy E i).map zD)),(52,.int .i64 (zy E i).length),(53,.int .i64 0)],[(100,⟨0,.own,3,1,(b::l).map zD⟩)]⟩;exact (FLe.cv [⟨100,some 100,0,⟨0,.own,3,1,(b::l).map zD⟩⟩] zf zd)
   have hsl:=XR E i;intro j hj;refine zb ?_;refine FW.cond rfl (fun h=>?_) (fun h=>?_)
   ·have hlt3:j<(zy E i).length:=by simpa using h
    clear h;obtain ⟨v,hv⟩:∃ v:Nat,nth (zy E i) j=v:=⟨(nth (zy E i) j).toNat,by have:=(yA hin (zC hlt3)).1;omega⟩
    have hvn:v<n:=by have:=(yA hin (zC hlt3)).2;omega
    have hrv:=hrng v hvn;have hst:((zy E i).take (j+1)).foldl (yr d i) 0=yr d i (((zy E i).take j).foldl (yr d i) 0) v:=by
     rw [List.take_succ_eq_append_getElem hlt3,List.foldl_append,← nth_eq hlt3,hv];rfl
    obtain ⟨L,hL⟩:∃ L,((zy E i).take j).foldl (yr d i) 0=L:=⟨_,rfl⟩
    rw [hL] at hst ⊢;generalize hBm:B.map zD=Bm;have hdn:nth d ((v:Int)).toNat=nth d v:=rfl;refine zb ?_;rw [hv];skip;refine zP (fun h1=>?_) (fun h1=>?_)
    ·refine zb ?_;refine zP (fun h2=>?_) (fun h2=>?_)
     ·refine zb ?_;refine zP (fun h3=>?_) (fun h3=>?_)
      ·refine zb ?_;rw [yr,if_pos ⟨⟨by simpa using h1,by simpa using h2⟩,.inl (by simpa using h3)⟩,hdn] at hst;refine ⟨j+1,by omega,by omega,?_⟩;rw [hst];rcases B with _|⟨b,l⟩ <;> dsimp only [Vf]
       ·exact (FLe.cv [⟨100,some 100,0,⟨0,.own,3,1,Bm⟩⟩] zf zd)
       ·exact (FLe.cv [⟨100,some 100,0,⟨0,.own,3,1,Bm⟩⟩] zf zd)
      ·refine zb ?_;refine FW.cond rfl (fun h4=>?_) (fun h4=>?_)
       ·refine zb ?_;rw [yr,if_pos ⟨⟨by simpa using h1,by simpa using h2⟩,.inr (by simpa using h4)⟩,hdn] at hst;refine ⟨j+1,by omega,by omega,?_⟩;rw [hst];rcases B with _|⟨b,l⟩ <;> dsimp only [Vf]
        ·exact (FLe.cv [⟨100,some 100,0,⟨0,.own,3,1,Bm⟩⟩] zf zd)
        ·exact (FLe.cv [⟨100,some 100,0,⟨0,.own,3,1,Bm⟩⟩] zf zd)
       ·refine zb ?_;rw [yr,if_neg (fun q=>by simp at h3 h4;rcases q.2 with q|q;exact h3 q;rw [hdn] at q;omega)] at hst;refine ⟨j+1,by omega,by omega,?_⟩;rw [hst];rcases B with _|⟨b,l⟩ <;> dsimp only [Vf]
        ·exact (FLe.cv [⟨100,some 100,0,⟨0,.own,3,1,Bm⟩⟩] zf zd)
        ·exact (FLe.cv [⟨100,some 100,0,⟨0,.own,3,1,Bm⟩⟩] zf zd)
     ·refine zb ?_;rw [yr,if_neg (fun q=>by simp at h2;have q2:=q.1.2;rw [hdn] at q2;omega)] at hst;refine ⟨j+1,by omega,by omega,?_⟩;rw [hst];rcases B with _|⟨b,l⟩ <;> dsimp only [Vf]
      ·exact (FLe.cv [⟨100,some 100,0,⟨0,.own,3,1,Bm⟩⟩] zf zd)
      ·exact (FLe.cv [⟨100,some 100,0,⟨0,.own,3,1,Bm⟩⟩] zf zd)
    ·refine zb ?_;rw [yr,if_neg (fun q=>by simp at h1;omega)] at hst;refine ⟨j+1,by omega,by omega,?_⟩;rw [hst];rcases B with _|⟨b,l⟩ <;> dsimp only [Vf]
     ·exact (FLe.cv [⟨100,some 100,0,⟨0,.own,3,1,Bm⟩⟩] zf zd)
     ·exact (FLe.cv [⟨100,some 100,0,⟨0,.own,3,1,Bm⟩⟩] zf zd)
   ·obtain rfl:j=(zy E i).length:=by simp at h;omega
    clear h hj;rw [List.take_length];obtain ⟨L,hL⟩:∃ L,(zy E i).foldl (yr d i) 0=L:=⟨_,rfl⟩
    rw [hL];have hLL:xa (zY n E i) i (zy E i)=L:=by rw [hd];exact hL
    have hcs:=zaC n E i;rw [hB] at hcs;unfold WN at hcs;dsimp only at hcs;rw [hLL] at hcs;have hBl:B.length≤n:=hB▸zdv hin za;refine FW.exit ?_;refine FW.seq ?_;refine FW.seq ?_;refine FW.join (fun _:Unit=>⟨[(0,.int .i64 n),(5,.list 1 ((zW n E).map Xt)),(9,.list 1 ((zW n (yO E)).map Xt)),(10,Vf B),(40,.int .i64 n),(41,.int .i64 i),(11,.eptr 1 [[.int .i64 i]] 0 0),(12,.eptr 1 [[.list 1 (d.map zD)]] 0 0),(13,.int .i64 L),(97,.bool (decide (L=0∨(B≠[]∧(B.length:Int)≤L))))],[(100,⟨0,.own,3,1,B.map zD⟩)]⟩) (fun _=>True) ?_ (fun _ _=>?_)
    ·rcases B with _|⟨b,l⟩
     ·dsimp only [Vf];refine zb ?_;refine zP (fun h1=>?_) (fun h1=>?_)
      ·refine zb ?_;refine ⟨rfl,(),trivial,?_⟩;rw [show decide (L=0∨(([]:List Int)≠[]∧((([]:List Int).length:Nat):Int)≤L))=true by simpa using h1];exact (FLe.cv [⟨100,some 100,0,⟨0,.own,3,1,[]⟩⟩] zf zd)
      ·refine zb ?_;refine ⟨rfl,(),trivial,?_⟩;rw [show decide (L=0∨(([]:List Int)≠[]∧((([]:List Int).length:Nat):Int)≤L))=false by simpa using h1];exact (FLe.cv [⟨100,some 100,0,⟨0,.own,3,1,[]⟩⟩] zf zd)
     ·dsimp only [Vf];refine zb ?_;refine zP (fun h1=>?_) (fun h1=>?_)
      ·refine zb ?_;refine ⟨rfl,(),trivial,?_⟩;rw [show decide (L=0∨((b::l:List Int)≠[]∧(((b::l:List Int).length:Nat):Int)≤L))=true by simp at h1 ⊢;exact .inl h1];exact (FLe.cv [⟨100,some 100,0,⟨0,.own,3,1,(b::l).map zD⟩⟩] zf zd)
      ·refine zb ?_;refine ⟨rfl,(),trivial,?_⟩;rw [show decide (L=0∨((b::l:List Int)≠[]∧(((b::l:List Int).length:Nat):Int)≤L))=decide (L≥(((b::l).length:Nat):Int)) by simp at h1 ⊢;intro q;exact absurd q h1];exact (FLe.cv [⟨100,some 100,0,⟨0,.own,3,1,(b::l).map zD⟩⟩] zf zd)
    ·refine FW.cond rfl (fun h=>?_) (fun h=>?_)
     ·rw [if_pos (by simpa using h)] at hcs;refine zb ?_;refine ⟨i+1,by omega,by omega,?_⟩;rw [hcs];generalize hBm:B.map zD=Bm;rcases B with _|⟨b,l⟩ <;> dsimp only [Vf]
      ·exact (FLe.cv [⟨100,some 100,0,⟨0,.own,3,1,Bm⟩⟩] zf zd)
      ·exact (FLe.cv [⟨100,some 100,0,⟨0,.own,3,1,Bm⟩⟩] zf zd)
     ·have hno:¬ (L=0∨(B≠[]∧(B.length:Int)≤L)):=by simpa using h
      rw [if_neg hno] at hcs;obtain ⟨K,hK,hKn,hway⟩:=Xf hin hlt (by rw [hLL];exact fun e=>hno (.inl e));rw [hLL] at hK;subst hK;rw [show ((K+1:Nat):Int).toNat - 1=K by omega] at hcs;clear h hno hL hLL hB hBl hrn;rw [hd] at hcs;refine FW.le (s':=⟨[(0,.int .i64 n),(5,.list 1 ((zW n E).map Xt)),(9,.list 1 ((zW n (yO E)).map Xt)),(40,.int .i64 n),(41,.int .i64 i),(11,.eptr 1 [[.int .i64 i]] 0 0),(12,.eptr 1 [[.list 1 (d.map zD)]] 0 0),(13,.int .i64 (K+1:Nat))],[]⟩) ?_ (FLe.cv [] zB zd);refine zb ?_;refine FW.loop (fun x:List Int×Nat=>⟨[(0,.int .i64 n),(5,.list 1 ((zW n E).map Xt)),(9,.list 1 ((zW n (yO E)).map Xt)),(40,.int .i64 n),(41,.int .i64 i),(11,.eptr 1 [[.int .i64 i]] 0 0),(12,.eptr 1 [[.list 1 (d.map zD)]] 0 0),(13,.int .i64 (K+1:Nat)),(10,.own 100 0 0 x.1.length),(16,.int .i64 x.2)],[(100,⟨0,.own,3,1,x.1.map zD⟩)]⟩) (fun x=>∃ k,x.1.length+k=K+1∧x.2<n∧Way E (zY n E i) i k x.2∧x.1++Yk E d i k x.2=(i:Int)::Yk E d i K i) (fun x=>K+1 - x.1.length) ([(i:Int)],i) ⟨K,by simp;omega,hlt,hway,rfl⟩ ?_ ?_
      ·show FLe _ ⟨[(0,.int .i64 n),(5,.list 1 ((zW n E).map Xt)),(9,.list 1 ((zW n (yO E)).map Xt)),(40,.int .i64 n),(41,.int .i64 i),(11,.eptr 1 [[.int .i64 i]] 0 0),(12,.eptr 1 [[.list 1 (d.map zD)]] 0 0),(13,.int .i64 (K+1:Nat)),(10,.own 100 0 0 1),(16,.int .i64 i)],[(100,⟨0,.own,3,1,[[.int .i64 i]]⟩)]⟩;exact (FLe.cv [⟨100,some 99,0+1,⟨0,.own,3,1,[[.int .i64 i]]⟩⟩] zf zd)
      ·rintro ⟨P,v⟩ ⟨k,hPk,hvn,hw,hP⟩;dsimp only at hPk hvn hw hP ⊢;refine zb ?_;refine FW.cond rfl (fun h=>?_) (fun h=>?_)
       ·obtain ⟨k,rfl⟩:∃ k',k=k'+1:=⟨k - 1,by simp at h;omega⟩
        clear h;obtain ⟨j,hj,hfx,hnx,hsn,hway'⟩:=hw.step hin hlt;rw [hd] at hfx hnx hsn hway';have hwo:Yk E d i (k+1) v=(xL E d i (k+1:Nat) v:Int)::Yk E d i k (xL E d i (k+1:Nat) v):=rfl;rw [hwo] at hP;obtain ⟨u,hu⟩:∃ u,xL E d i (k+1:Nat) v=u:=⟨_,rfl⟩
        rw [hu] at hnx hsn hway' hP;have hvr:nth (zW n E) v=zy E v:=ZO E hvn;have hvl:=XR E v;have hrn:=yq n E;have hlft:((K+1:Nat):Int) - (P.length:Int)=(k+1:Nat):=by omega
        (repeat (first|refine FW.seq ?_|refine FW.region ?_|refine FW.block ?_|refine FW.skip ?_|refine zn.nil ?_|refine zG rfl rfl rfl ?_|refine zby rfl rfl rfl zg rfl rfl ?_|refine XM rfl rfl rfl rfl rfl rfl zx rfl rfl ?_|refine xc rfl rfl rfl zx Xa rfl rfl rfl rfl ?_|refine zak rfl rfl rfl rfl rfl rfl rfl ?_|refine zbB rfl rfl rfl rfl rfl rfl rfl rfl rfl ?_|refine zlR rfl rfl za rfl rfl ?_))
        rw [hlft,hvr];refine zn.le ?_ (FLe.shareP 17 rfl rfl);refine zb ?_;refine zS (WI (zy E v) _ _ (WU d i (k+1:Nat)) za (fun x hx=>?_)) (by repeat (first|exact zu.nil|refine zu.cons zm ?_)) rfl rfl ?_
        ·have hx2:=yA hin hx;obtain ⟨x,rfl⟩:∃ x' : Nat,x=x':=⟨x.toNat,by omega⟩
         exact zgo d i (k+1:Nat) x za
        rw [hfx];have hj' : j<(nth (zW n E) v).length:=by rw [hvr];exact hj
        refine zb ?_;rw [hvr];skip;rw [hnx];skip;refine ⟨(P++[(u:Int)],u),⟨k,by simp;omega,hsn,by rw [hd];exact hway',by rw [List.append_assoc];exact hP⟩,by simp;omega,?_⟩;dsimp only;rw [List.length_append,List.map_append];exact (FLe.cv [⟨100,some 125,0+1,⟨0,.own,3,1,P.map zD++[(u:Int)].map zD⟩⟩] zf zd)
       ·obtain rfl:k=0:=by simp at h;omega
        rw [show Yk E d i 0 v=[] from rfl,List.append_nil] at hP;refine zb ?_;refine ⟨i+1,by omega,by omega,?_⟩;rw [hcs,← hP];subst hP;dsimp only [Vf];exact (FLe.cv [⟨100,some 100,0,⟨0,.own,3,1,((i:Int)::Yk E d i K i).map zD⟩⟩] zf zd)
  ·obtain rfl:i=n:=by simp at h;omega
   rw [show zen i E i=zeY i E from rfl];generalize zeY i E=B;cases B with
   | nil =>
    dsimp only [Vf];refine FW.le (s':=⟨[(10,.nil)],[]⟩) ?_ (FLe.cv [] zB zd);refine zb ?_;exact FW.ret ⟨.inl rfl,.sh (.cons (.tmp 4 rfl rfl) .nil) rfl rfl⟩
   | cons b l =>
    dsimp only [Vf];refine FW.le (s':=⟨[(10,.list 1 ((b::l).map zD))],[]⟩) ?_ ((FLe.share 10 rfl rfl zc).trans (FLe.cv [] zB zd));refine zb ?_;exact FW.ret ⟨.inl rfl,.sh (.cons (.tmp 4 rfl rfl) .nil) rfl rfl⟩
theorem ziw (n:Nat) (E:List (Nat×Nat)) (hn:n≤14) (hE:E.length≤1000) (hin:InN n E):zX Try.prog 56 [.int .i64 n,.list 2 (E.map edf)] .sh (.list 1 ((zeY n E).map zD)):=
 (zgp n E hn hE hin).le (znR _) rfl
def zin (a q:Nat):zq:=⟨a,.hrow,96,1,[[.ptr 5000 q 0 0]]⟩
theorem zkX {a q v v' n n' : Nat} {res:FV} {o:Nat→zq} {l l' : List Int} (hr:res.cl [5002,5000,5001]=true) (h2:o 5002=zin a q) (h0:o 5000=yI q v' n') (h1:o 5001=xD v' l'):YV [(5002,zin a q),(5000,yI q v n),(5001,xD v l)] [] res o where
 old k hk hl:=by
  simp at hk;rcases hk with rfl|rfl|rfl
  ·rw [h2];exact ⟨rfl,rfl,rfl⟩
  ·rw [h0];exact ⟨rfl,rfl,rfl⟩
  ·rw [h1];exact ⟨rfl,rfl,rfl⟩
 new k hk:=by cases hk
 cl k hk:=by
  simp at hk;rcases hk with rfl|rfl|rfl
  ·rw [h2];rfl
  ·rw [h0];rfl
  ·rw [h1];rfl
 res:=hr
theorem zbP (a q v:Nat) (l:List Int) (x:Int) (hl:l.length≤100000):yD Try.prog 60 [.int .i64 x,.ptr 5002 a 0 0] [(5002,zin a q),(5000,yI q v l.length),(5001,xD v l)] [] (fun res o=>res=.tup []∧o 5002=zin a q∧o 5000=yI q (v+1) (l.length+1)∧o 5001=xD (v+1) (XC l x)):=by
 refine yD.of_body (c:=(xx Try.prog zE zt 8)) ⟨Try.func60,rfl,Try.ntmps60,by kernel_rfl⟩ zw ?_ ?_
 ·rintro res o ⟨rfl,h2,h0,h1⟩;exact zkX rfl h2 h0 h1
 change FW _ _ _ ⟨[(0,.int .i64 x),(1,.ptr 5002 a 0 0)],[(5002,zin a q),(5000,yI q v l.length),(5001,xD v l)]⟩;unfold zin;refine zb ?_;refine xR (zgF q v l x hl) [(5000,5000),(5001,5001)] rfl (zJ.cons rfl rfl rfl (zJ.cons rfl rfl rfl zJ.nil)) rfl rfl rfl rfl rfl rfl ?_;rintro _ ob' ⟨rfl,h1,h2⟩;refine xf.one [(5000,yI q (v+1) (l.length+1)),(5001,xD (v+1) (XC l x))] (.tup []) rfl (by show [(5000,zq.ren _ (look {} ob' 5000)),(5001,zq.ren _ (look {} ob' 5001))]=_;rw [h1,h2];rfl) ?_;clear h1 h2 ob';refine zb ?_;exact ⟨.inr rfl,_,.plain .nil rfl rfl,rfl,rfl,rfl,rfl⟩
def YF (n:Nat) (E:List (Nat×Nat)) (i:Nat):List Int:=((zW n E).take i).foldl (fun m r=>r.foldl zcz m) (List.replicate n 0)
theorem zgP (n:Nat) (E:List (Nat×Nat)) {i:Nat} (h:i<n):YF n E (i+1)=(zy E i).foldl zcz (YF n E i):=by
 have hl:=yq n E;unfold YF;rw [List.take_succ_eq_append_getElem za,List.foldl_append,← nth_eq za,ZO E h];rfl
theorem zi5 (n:Nat) (E:List (Nat×Nat)):YF n E n=zcb n E:=by
 unfold YF zcb;rw [List.take_of_length_le (by rw [yq];exact Nat.le_refl _)]
theorem zgO {n:Nat} {E:List (Nat×Nat)} (h:InN n E) (i:Nat):(YF n E i).length=n∧∀ w:Nat,w<n→0≤nth (YF n E i) w∧nth (YF n E i) w≤n:=by
 obtain ⟨k1,k2⟩:=zbD (n:=n) (rows:=(zW n E).take i) (m:=List.replicate n 0) (fun r hr=>by
  obtain ⟨u,_,rfl⟩:=List.mem_map.1 (List.mem_of_mem_take hr);exact ⟨Yg E u,fun w hw=>yA h hw⟩) zc
 refine ⟨k1,fun w hw=>?_⟩;have h1:(((zW n E).take i).countP fun r=>decide ((w:Int)∈r))≤((zW n E).take i).length:=List.countP_le_length;rw [List.length_take,yq] at h1;unfold YF;rw [k2 w hw,nth_eq (by simpa using hw)];simp;omega
end Go.Proofs.Ytmnmakhpjgjdaaa
