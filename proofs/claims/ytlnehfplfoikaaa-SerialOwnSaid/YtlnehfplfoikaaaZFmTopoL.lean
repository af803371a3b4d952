/-
  Some texts as one: FmTopoL, FmLives03, FmPerm, FmSer5, FmX, FmSer6.
-/
import Derived.Test.YtlnehfplfoikaaaZFmSer4
import Derived.Test.YtlnehfplfoikaaaZM
import Derived.Test.YtlnehfplfoikaaaZCycRef
import Derived.Test.YtlnehfplfoikaaaZC
import Derived.Test.YtlnehfplfoikaaaZFmSer2
import Derived.Test.YtlnehfplfoikaaaZG
namespace Go.Proofs.Ytlnehfplfoikaaa
set_option linter.unusedVariables false
set_option maxHeartbeats 16000000
open Go.RowKit
theorem zag (n:Nat) (E:List (Nat×Nat)) (hn:n≤300) (hE:E.length≤100000) (hin:InN n E) (hac:(yq n E).length=n):yI Try.prog 16 [.int .i64 n,.list 2 (E.map edf)] [] [4000] (fun res o=>res=.wrap .tup [.own 4000 1 0 n,.bool true]∧o 4000=⟨1,.own,3,1,(yq n E).map zj⟩):=by
 refine yI.of_body (c:=(xa Try.prog zD zq 104)) ⟨Try.func16,rfl,Try.ntmps16,by kernel_rfl⟩ zp ?_ ?_
 ·rintro res o ⟨rfl,h⟩;exact ⟨(fun k hk=>by cases hk),(fun k hk=>by obtain rfl:=List.mem_singleton.1 hk;rw [h];exact ⟨Nat.zero_lt_one,fun _=>rfl⟩),(fun k hk=>by obtain rfl:=List.mem_singleton.1 hk;rw [h];rfl),rfl⟩
 change FW _ _ _ ⟨[(0,.int .i64 n),(1,.list 2 (E.map edf))],[]⟩;have hrl:=yh n E;have hrn:=fun v (hv:v<n)=>xG E hv;refine za ?_;refine yg (xS n E zb zb hin) (by repeat (first|exact zx.nil|refine zx.cons zt ?_)) rfl rfl ?_;rw [zaO];refine za ?_;rw [show List.replicate n [FV.int .i64 0]=(List.replicate n 0).map zj by rw [List.map_replicate];rfl];refine FW.loop (fun i:Nat=>⟨[(0,.int .i64 n),(6,.list 1 ((zP n E).map ZP)),(7,.own 100 0 0 n),(26,.list 1 ((zP n E).map ZP)),(27,.int .i64 n),(28,.int .i64 i)],[(100,⟨0,.own,3,1,(Zn n E i).map zj⟩)]⟩) (fun i=>i≤n) (fun i=>n - i) 0 (Nat.zero_le _) ?_ ?_
 ·rw [hrl,show Zn n E 0=List.replicate n 0 from rfl];obtain ⟨z,hz⟩:∃ z,(List.replicate n (0:Int)).map zj=z:=⟨_,rfl⟩
  rw [hz];exact (FLe.cv [⟨100,some 25,0+1,⟨0,.own,3,1,z⟩⟩] zf zd)
 intro i hi;obtain ⟨hml,hmb⟩:=zcW hin i;refine za ?_;refine FW.cond rfl (fun h=>?_) (fun h=>?_)
 ·have hlt:i<n:=by simpa using h
  clear h;have hsl:=Ye E i;have hms:=zcX n E hlt;refine za ?_;rw [hrn i hlt];skip;generalize Zn n E i=M at hml hmb hms;refine FW.loop (fun j:Nat=>⟨[(0,.int .i64 n),(6,.list 1 ((zP n E).map ZP)),(7,.own 100 0 0 n),(26,.list 1 ((zP n E).map ZP)),(27,.int .i64 n),(28,.int .i64 i),(32,.list 1 ((zy E i).map zj)),(33,.int .i64 (zy E i).length),(34,.int .i64 j)],[(100,⟨0,.own,3,1,(((zy E i).take j).foldl UJ M).map zj⟩)]⟩) (fun j=>j≤(zy E i).length) (fun j=>(zy E i).length - j) 0 (Nat.zero_le _) ?_ ?_
  ·show FLe _ ⟨[(0,.int .i64 n),(6,.list 1 ((zP n E).map ZP)),(7,.own 100 0 0 n),(26,.list 1 ((zP n E).map ZP)),(27,.int .i64 n),(28,.int .i64 i),(32,.list 1 ((zy E i).map zj)),(33,.int .i64 (zy E i).length),(34,.int .i64 0)],[(100,⟨0,.own,3,1,M.map zj⟩)]⟩;exact (FLe.cv [⟨100,some 100,0,⟨0,.own,3,1,M.map zj⟩⟩] zf zd)
  intro j hj;refine za ?_;refine FW.cond rfl (fun h=>?_) (fun h=>?_)
  ·have hlt2:j<(zy E i).length:=by simpa using h
   clear h;obtain ⟨w,hw⟩:∃ w:Nat,nth (zy E i) j=w:=⟨(nth (zy E i) j).toNat,by have:=(yr hin (zL hlt2)).1;omega⟩
   have hwn:w<n:=by have:=(yr hin (zL hlt2)).2;omega
   have hst:((zy E i).take (j+1)).foldl UJ M=(((zy E i).take j).foldl UJ M).set w (nth (((zy E i).take j).foldl UJ M) w+1):=by
    rw [List.take_succ_eq_append_getElem hlt2,List.foldl_append,← nth_eq hlt2,hw];rfl
   have hbd:0≤nth (((zy E i).take j).foldl UJ M) w∧nth (((zy E i).take j).foldl UJ M) w≤n+1:=by
    rw [Vo (n:=n) (List.Nodup.sublist (List.take_sublist _ _) (xT E i)) (fun q hq=>yr hin (List.mem_of_mem_take hq)) hml w hwn];have:=hmb w hwn;split <;> omega
   have hzl:(((zy E i).take j).foldl UJ M).length=n:=by rw [Vn];exact hml
   obtain ⟨Z,hZ⟩:∃ Z,((zy E i).take j).foldl UJ M=Z:=⟨_,rfl⟩
   rw [hZ] at hst hbd hzl ⊢;refine za ?_;rw [hw,Int.toNat_natCast];refine za ?_;rw [show (zj (nth Z w)).set 0 (.int .i64 (nth Z w+1))=zj (nth Z w+1) from rfl,← List.map_set,← hst];skip;refine ⟨j+1,by omega,by omega,?_⟩;obtain ⟨Y,hY⟩:∃ Y,(((zy E i).take (j+1)).foldl UJ M).map zj=Y:=⟨_,rfl⟩
   rw [hY];exact (FLe.cv [⟨100,some 100,0,⟨0,.own,3,1,Y⟩⟩] zf zd)
  ·obtain rfl:j=(zy E i).length:=by simp at h;omega
   clear h hj;rw [List.take_length,← hms];refine za ?_;refine ⟨i+1,by omega,by omega,?_⟩;exact (FLe.cv [⟨100,some 100,0,⟨0,.own,3,1,(Zn n E (i+1)).map zj⟩⟩] zf zd)
 ·obtain rfl:i=n:=by simp at h;omega
  clear h hi hml hmb;rw [zeF];obtain ⟨hml,hmc⟩:=UP hin;have hcb:∀ w,zcq i E [] w≤i:=fun w=>by
   have:zcq i E [] w≤(List.range i).length:=List.countP_le_length;rwa [List.length_range] at this
  refine za ?_;refine zit (f:=.own 46 (0+1) 0 0) rfl (.inr (.inl ⟨_,_,_,_,rfl,⟨by show zX.own≠.dead;decide,rfl⟩⟩)) rfl rfl rfl ?_;refine zb2 rfl rfl rfl rfl rfl ?_;refine za ?_;obtain ⟨n,hni⟩:∃ n,i=n:=⟨_,rfl⟩
  subst hni;generalize hMM:Uu i E=M at hml hmc;obtain ⟨n,hni⟩:∃ n,n=i:=⟨_,rfl⟩
  subst hni;refine FW.loop (fun k:Nat=>⟨[(0,.int .i64 n),(6,.list 1 ((zP n E).map ZP)),(7,.own 100 0 0 n),(12,.ptr 110 0 0 0),(13,.wrap (.fn 42) [.ptr 110 0 0 0]),(49,.own 100 0 0 n),(50,.int .i64 n),(51,.int .i64 k)],[(100,⟨0,.own,3,1,M.map zj⟩),(110,⟨0,.hrow,75,1,[[.ptr 111 0 0 0]]⟩),(111,⟨0,.hrow,76,1,[[.own 112 0 0 (xd M k).length]]⟩),(112,⟨0,.own,3,1,(xd M k).map zj⟩)]⟩) (fun k=>k≤n) (fun k=>n - k) 0 (Nat.zero_le _) ?_ ?_
  ·show FLe _ ⟨[(0,.int .i64 n),(6,.list 1 ((zP n E).map ZP)),(7,.own 100 0 0 n),(12,.ptr 110 0 0 0),(13,.wrap (.fn 42) [.ptr 110 0 0 0]),(49,.own 100 0 0 n),(50,.int .i64 n),(51,.int .i64 0)],[(100,⟨0,.own,3,1,M.map zj⟩),(110,⟨0,.hrow,75,1,[[.ptr 111 0 0 0]]⟩),(111,⟨0,.hrow,76,1,[[.own 112 0 0 0]]⟩),(112,⟨0,.own,3,1,[]⟩)]⟩;exact (FLe.cv [⟨100,some 100,0,⟨0,.own,3,1,M.map zj⟩⟩,⟨110,some 12,0+1,⟨0,.hrow,75,1,[[.ptr 111 0 0 0]]⟩⟩,⟨111,some 47,0+1,⟨0,.hrow,76,1,[[.own 112 0 0 0]]⟩⟩,⟨112,some 46,0+1,⟨0,.own,3,1,[]⟩⟩] zf zd)
  intro k hk;refine za ?_;refine FW.cond rfl (fun h=>?_) (fun h=>?_)
  ·have hlt:k<n:=by simpa using h
   clear h;have hmk:=hmc k hlt;have hck:=hcb k;have hrs:xd M (k+1)=if nth M k=0 then ZX (xd M k) k else xd M k:=by
    unfold xd;rw [List.range_succ,List.foldl_append];rfl
   have hrl:(xd M k).length≤k:=xr (ZE M k).2.1 fun x hx=>(((ZE M k).2.2 x).1 hx).1;obtain ⟨H,hH⟩:∃ H,xd M k=H:=⟨_,rfl⟩
   rw [hH] at hrs hrl ⊢;refine za ?_;refine FW.cond rfl (fun h=>?_) (fun h=>?_)
   ·rw [if_pos (by simpa using h)] at hrs;refine za ?_;refine zb4 rfl (Ub 0 0 0 H k zb) [(5002,110),(5000,111),(5001,112)] rfl (zF.cons rfl rfl rfl (zF.cons rfl rfl rfl (zF.cons rfl rfl rfl zF.nil))) rfl rfl rfl rfl rfl rfl ?_;rintro _ ob' ⟨rfl,h2,h0,h1⟩;refine yH.one [(110,⟨0,.hrow,75,1,[[.ptr 111 0 0 0]]⟩),(111,⟨0,.hrow,76,1,[[.own 112 (0+1) 0 (H.length+1)]]⟩),(112,⟨0+1,.own,3,1,(ZX H k).map zj⟩)] (.tup []) rfl (by show [(110,zn.ren _ (look {} ob' 5002)),(111,zn.ren _ (look {} ob' 5000)),(112,zn.ren _ (look {} ob' 5001))]=_;rw [h2,h0,h1];rfl) ?_;clear h2 h0 h1 ob';refine za ?_;refine ⟨k+1,by omega,by omega,?_⟩;rw [hrs];have hpl:=Vm H k;generalize ZX H k=Y at hpl;rw [hpl];exact (FLe.cv [⟨100,some 100,0,⟨0,.own,3,1,M.map zj⟩⟩,⟨110,some 110,0,⟨0,.hrow,75,1,[[.ptr 111 0 0 0]]⟩⟩,⟨111,some 111,0,⟨0,.hrow,76,1,[[.own 112 0 0 (H.length+1)]]⟩⟩,⟨112,some 112,0+1,⟨0,.own,3,1,Y.map zj⟩⟩] zf zd)
   ·rw [if_neg (by simpa using h)] at hrs;refine za ?_;refine ⟨k+1,by omega,by omega,?_⟩;rw [hrs];exact (FLe.cv [⟨100,some 100,0,⟨0,.own,3,1,M.map zj⟩⟩,⟨110,some 110,0,⟨0,.hrow,75,1,[[.ptr 111 0 0 0]]⟩⟩,⟨111,some 111,0,⟨0,.hrow,76,1,[[.own 112 0 0 H.length]]⟩⟩,⟨112,some 112,0,⟨0,.own,3,1,H.map zj⟩⟩] zf zd)
  ·obtain rfl:k=n:=by simp at h;omega
   clear h hk;have hTI:=TI.start hin;have hst:yn k E=⟨M,xd M k,[]⟩:=by unfold yn;rw [hMM]
   have hend:(zZ E (k+1) (yn k E)).out=yq k E:=rfl;rw [hst] at hTI hend;refine za ?_;obtain ⟨n,hni⟩:∃ n,n=k:=⟨_,rfl⟩
   subst hni;generalize xd M n=H at hTI hend;clear hMM hst hcb hmc hml;refine FW.loop (fun s:zaX=>⟨[(0,.int .i64 n),(6,.list 1 ((zP n E).map ZP)),(7,.own 100 0 0 n),(12,.ptr 110 0 0 0),(13,.wrap (.fn 42) [.ptr 110 0 0 0]),(16,.own 101 0 0 s.out.length),(17,.wrap (.bound 44) [.ptr 111 0 0 0])],[(101,⟨0,.own,3,1,s.out.map zj⟩),(100,⟨0,.own,3,1,s.m.map zj⟩),(110,⟨0,.hrow,75,1,[[.ptr 111 0 0 0]]⟩),(111,⟨0,.hrow,76,1,[[.own 112 0 0 s.h.length]]⟩),(112,⟨0,.own,3,1,s.h.map zj⟩)]⟩) (fun s=>TI n E s∧∃ k,n<s.out.length+k∧(zZ E k s).out=yq n E) (fun s=>n - s.out.length) ⟨M,H,[]⟩ ⟨hTI,n+1,by show n<0+(n+1);omega,hend⟩ ?_ ?_
   ·show FLe _ ⟨[(0,.int .i64 n),(6,.list 1 ((zP n E).map ZP)),(7,.own 100 0 0 n),(12,.ptr 110 0 0 0),(13,.wrap (.fn 42) [.ptr 110 0 0 0]),(16,.own 101 0 0 0),(17,.wrap (.bound 44) [.ptr 111 0 0 0])],[(101,⟨0,.own,3,1,[]⟩),(100,⟨0,.own,3,1,M.map zj⟩),(110,⟨0,.hrow,75,1,[[.ptr 111 0 0 0]]⟩),(111,⟨0,.hrow,76,1,[[.own 112 0 0 H.length]]⟩),(112,⟨0,.own,3,1,H.map zj⟩)]⟩;exact (FLe.cv [⟨101,none,0,⟨0,.own,3,1,[]⟩⟩,⟨100,some 100,0,⟨0,.own,3,1,M.map zj⟩⟩,⟨110,some 110,0,⟨0,.hrow,75,1,[[.ptr 111 0 0 0]]⟩⟩,⟨111,some 111,0,⟨0,.hrow,76,1,[[.own 112 0 0 H.length]]⟩⟩,⟨112,some 112,0,⟨0,.own,3,1,H.map zj⟩⟩] zf zd)
   clear hTI hend M H;rintro ⟨m,h,out⟩ ⟨hTI,fu,hfu,hend⟩;dsimp only at hfu hend ⊢;have hhl:h.length≤n:=hTI.hle;have hml:m.length=n:=hTI.len;have hol:out.length≤n:=hTI.le;refine za ?_;refine zgv rfl (XP 0 0 h) [(5000,111),(5001,112)] rfl (zF.cons rfl rfl rfl (zF.cons rfl rfl rfl zF.nil)) rfl rfl rfl rfl rfl rfl ?_;rintro _ ob' ⟨rfl,h1,h2⟩;refine yH.one [(111,⟨0,.hrow,76,1,[[.own 112 0 0 h.length]]⟩),(112,⟨0,.own,3,1,h.map zj⟩)] (.int .i64 h.length) rfl (by show [(111,zn.ren _ (look {} ob' 5000)),(112,zn.ren _ (look {} ob' 5001))]=_;rw [h1,h2];rfl) ?_;clear h1 h2 ob';refine za ?_;refine FW.cond rfl (fun hc=>?_) (fun hc=>?_)
   ·obtain ⟨k,hk⟩:∃ k,h.length=k+1:=⟨h.length - 1,by simp at hc;omega⟩
    clear hc;refine za ?_;refine xe (zeu 0 0 h k hk zb) [(5000,111),(5001,112)] rfl (zF.cons rfl rfl rfl (zF.cons rfl rfl rfl zF.nil)) rfl rfl rfl rfl rfl rfl ?_;rintro _ ob' ⟨rfl,h1,h2⟩;refine yH.one [(111,⟨0,.hrow,76,1,[[.own 112 (0+1) 0 k]]⟩),(112,⟨0+1,.own,3,1,((yy h k).take k).map zj⟩)] (.iface 3 (.int .i64 (nth (yy h k) k))) rfl (by show [(111,zn.ren _ (look {} ob' 5000)),(112,zn.ren _ (look {} ob' 5001))]=_;rw [h1,h2];rfl) ?_;clear h1 h2 ob';obtain ⟨v,hv,hvn,hvo,hm0,hmin,hDI,hN,hR⟩:=hTI.first hk;dsimp only at hv hvo hm0 hmin hDI hN hR;rw [hv];have hstep:yF E ⟨m,h,out⟩=⟨((zy E v).foldl decr (m,(yy h k).take k)).1,((zy E v).foldl decr (m,(yy h k).take k)).2,out++[(v:Int)]⟩:=by
     unfold yF;dsimp only;rw [show h.length - 1=k by omega,hv];rfl
    have hTI':=hTI.step hin (by rintro e;rw [show h=[] from e] at hk;simp at hk);rw [hstep] at hTI';have hend' : ∀ f,fu=f+1→(zZ E f (yF E ⟨m,h,out⟩)).out=yq n E:=fun f hf=>by
     subst hf;rw [← hend];exact (congrArg zaX.out (show zZ E (f+1) ⟨m,h,out⟩=zZ E f (yF E ⟨m,h,out⟩) from if_neg (by rintro e;rw [show h=[] from e] at hk;simp at hk))).symm
    rw [hstep] at hend';have hsl:=Ye E v;refine za ?_;rw [hrn v hvn];obtain ⟨O,hO⟩:∃ O,out++[(v:Int)]=O:=⟨_,rfl⟩
    obtain ⟨Om,hOm⟩:∃ Om,out.map zj++[[.int .i64 v]]=Om:=⟨_,rfl⟩
    have hOO:O.map zj=Om:=by rw [← hO,← hOm,List.map_append];rfl
    have hOl:Om.length=O.length:=by rw [← hOO,List.length_map]
    have hOl2:O.length=out.length+1:=by rw [← hO];simp
    rw [hO] at hDI hN hR hTI' hend';rw [hOm,hOl];have htl:((yy h k).take k).length=k:=by rw [List.length_take,Vl];omega
    obtain ⟨H0,hH0⟩:∃ H0,(yy h k).take k=H0:=⟨_,rfl⟩
    rw [hH0] at hDI htl hTI' hend' ⊢;clear hstep hH0 hv hmin;refine FW.loop (fun j:Nat=>⟨[(0,.int .i64 n),(6,.list 1 ((zP n E).map ZP)),(7,.own 100 0 0 n),(12,.ptr 110 0 0 0),(13,.wrap (.fn 42) [.ptr 110 0 0 0]),(16,.own 101 0 0 O.length),(17,.wrap (.bound 44) [.ptr 111 0 0 0]),(78,.list 1 ((zy E v).map zj)),(79,.int .i64 (zy E v).length),(80,.int .i64 j)],[(101,⟨0,.own,3,1,O.map zj⟩),(100,⟨0,.own,3,1,(((zy E v).take j).foldl decr (m,H0)).1.map zj⟩),(110,⟨0,.hrow,75,1,[[.ptr 111 0 0 0]]⟩),(111,⟨0,.hrow,76,1,[[.own 112 0 0 (((zy E v).take j).foldl decr (m,H0)).2.length]]⟩),(112,⟨0,.own,3,1,(((zy E v).take j).foldl decr (m,H0)).2.map zj⟩)]⟩) (fun j=>j≤(zy E v).length) (fun j=>(zy E v).length - j) 0 (Nat.zero_le _) ?_ ?_
    ·show FLe _ ⟨[(0,.int .i64 n),(6,.list 1 ((zP n E).map ZP)),(7,.own 100 0 0 n),(12,.ptr 110 0 0 0),(13,.wrap (.fn 42) [.ptr 110 0 0 0]),(16,.own 101 0 0 O.length),(17,.wrap (.bound 44) [.ptr 111 0 0 0]),(78,.list 1 ((zy E v).map zj)),(79,.int .i64 (zy E v).length),(80,.int .i64 0)],[(101,⟨0,.own,3,1,O.map zj⟩),(100,⟨0,.own,3,1,m.map zj⟩),(110,⟨0,.hrow,75,1,[[.ptr 111 0 0 0]]⟩),(111,⟨0,.hrow,76,1,[[.own 112 0 0 H0.length]]⟩),(112,⟨0,.own,3,1,H0.map zj⟩)]⟩;rw [← hOO,htl];exact (FLe.cv [⟨101,some 74,0+1,⟨0,.own,3,1,O.map zj⟩⟩,⟨100,some 100,0,⟨0,.own,3,1,m.map zj⟩⟩,⟨110,some 110,0,⟨0,.hrow,75,1,[[.ptr 111 0 0 0]]⟩⟩,⟨111,some 111,0,⟨0,.hrow,76,1,[[.own 112 0 0 k]]⟩⟩,⟨112,some 112,0+1,⟨0,.own,3,1,H0.map zj⟩⟩] zf zd)
    intro j hj;have hDj:=DI.fold (r1:=(zy E v).take j) (r2:=(zy E v).drop j) hR (by rw [List.take_append_drop];exact hDI) (by rw [List.take_append_drop];exact xT E v) (by rw [List.take_append_drop];exact fun w hw=>yr hin hw);have hst:∀ hl:j<(zy E v).length,((zy E v).take (j+1)).foldl decr (m,H0)=decr (((zy E v).take j).foldl decr (m,H0)) (nth (zy E v) j):=fun hl=>by
     rw [List.take_succ_eq_append_getElem hl,List.foldl_append,← nth_eq hl];rfl
    have hlast:j=(zy E v).length→(zy E v).foldl decr (m,H0)=((zy E v).take j).foldl decr (m,H0):=fun e=>by rw [e,List.take_length]
    generalize ((zy E v).take j).foldl decr (m,H0)=q at hDj hst hlast;obtain ⟨qm,qh⟩:=q;have hql:qm.length=n:=hDj.len;have hqh:qh.length≤n:=xr hDj.hN fun x hx=>((hDj.hM x).1 hx).1;dsimp only;refine za ?_;refine FW.cond rfl (fun hc=>?_) (fun hc=>?_)
    ·have hlt2:j<(zy E v).length:=by simpa using hc
     clear hc hlast;have hst:=hst hlt2;obtain ⟨w,hw⟩:∃ w:Nat,nth (zy E v) j=w:=⟨(nth (zy E v) j).toNat,by have:=(yr hin (zL hlt2)).1;omega⟩
     have hwn:w<n:=by have:=(yr hin (zL hlt2)).2;omega
     have hbd:0≤nth qm w∧nth qm w≤n+1:=by
      have h1:=hDj.cnt w hwn;have h2:zcq n E O w≤(List.range n).length:=List.countP_le_length;rw [List.length_range] at h2;dsimp only at h1;rw [h1];split <;> omega
     have hdec:decr (qm,qh) (w:Int)=(qm.set w (nth qm w - 1),if nth qm w - 1=0 then ZX qh w else qh):=by unfold decr;rw [Int.toNat_natCast]
     rw [hw,hdec] at hst;obtain ⟨Z,hZ⟩:∃ Z,qm.set w (nth qm w - 1)=Z:=⟨_,rfl⟩
     have hZl:Z.length=n:=by rw [← hZ];simpa using hql
     have hZw:nth Z w=nth qm w - 1:=by rw [← hZ];exact zR zb
     rw [hZ] at hst;refine za ?_;rw [hw,Int.toNat_natCast];refine za ?_;rw [show (zj (nth qm w)).set 0 (.int .i64 (nth qm w - 1))=zj (nth qm w - 1) from rfl,← List.map_set,hZ];refine za ?_;rw [hZw];skip;refine FW.cond rfl (fun hc=>?_) (fun hc=>?_)
     ·rw [if_pos (by simpa using hc)] at hst;refine za ?_;refine zb4 rfl (Ub 0 0 0 qh w zb) [(5002,110),(5000,111),(5001,112)] rfl (zF.cons rfl rfl rfl (zF.cons rfl rfl rfl (zF.cons rfl rfl rfl zF.nil))) rfl rfl rfl rfl rfl rfl ?_;rintro _ ob' ⟨rfl,h2,h0,h1⟩;refine yH.one [(110,⟨0,.hrow,75,1,[[.ptr 111 0 0 0]]⟩),(111,⟨0,.hrow,76,1,[[.own 112 (0+1) 0 (qh.length+1)]]⟩),(112,⟨0+1,.own,3,1,(ZX qh w).map zj⟩)] (.tup []) rfl (by show [(110,zn.ren _ (look {} ob' 5002)),(111,zn.ren _ (look {} ob' 5000)),(112,zn.ren _ (look {} ob' 5001))]=_;rw [h2,h0,h1];rfl) ?_;clear h2 h0 h1 ob';refine za ?_;refine ⟨j+1,by omega,by omega,?_⟩;rw [hst];dsimp only;have hpl:=Vm qh w;generalize ZX qh w=Y at hpl;rw [hpl];exact (FLe.cv [⟨101,some 101,0,⟨0,.own,3,1,O.map zj⟩⟩,⟨100,some 100,0,⟨0,.own,3,1,Z.map zj⟩⟩,⟨110,some 110,0,⟨0,.hrow,75,1,[[.ptr 111 0 0 0]]⟩⟩,⟨111,some 111,0,⟨0,.hrow,76,1,[[.own 112 0 0 (qh.length+1)]]⟩⟩,⟨112,some 112,0+1,⟨0,.own,3,1,Y.map zj⟩⟩] zf zd)
     ·rw [if_neg (by simpa using hc)] at hst;refine za ?_;refine ⟨j+1,by omega,by omega,?_⟩;rw [hst];dsimp only;exact (FLe.cv [⟨101,some 101,0,⟨0,.own,3,1,O.map zj⟩⟩,⟨100,some 100,0,⟨0,.own,3,1,Z.map zj⟩⟩,⟨110,some 110,0,⟨0,.hrow,75,1,[[.ptr 111 0 0 0]]⟩⟩,⟨111,some 111,0,⟨0,.hrow,76,1,[[.own 112 0 0 qh.length]]⟩⟩,⟨112,some 112,0,⟨0,.own,3,1,qh.map zj⟩⟩] zf zd)
    ·have hje:j=(zy E v).length:=by simp at hc;omega
     rw [hlast hje] at hTI' hend';clear hc hlast hst;refine za ?_;refine ⟨⟨qm,qh,O⟩,⟨hTI',fu - 1,by show n<O.length+(fu - 1);omega,hend' _ zb⟩,by show n - O.length<n - out.length;have:=hTI'.le;dsimp only at this;omega,?_⟩;exact (FLe.cv [⟨101,some 101,0,⟨0,.own,3,1,O.map zj⟩⟩,⟨100,some 100,0,⟨0,.own,3,1,qm.map zj⟩⟩,⟨110,some 110,0,⟨0,.hrow,75,1,[[.ptr 111 0 0 0]]⟩⟩,⟨111,some 111,0,⟨0,.hrow,76,1,[[.own 112 0 0 qh.length]]⟩⟩,⟨112,some 112,0,⟨0,.own,3,1,qh.map zj⟩⟩] zf zd)
   ·have hh:h=[]:=by
     cases h with
     | nil => rfl
     | cons x h => simp at hc
    subst hh;clear hc;rw [Xz E fu _ rfl] at hend;dsimp only at hend;subst hend;generalize yq n E=O at hol hac;subst hac;refine za ?_;refine FW.cond rfl (fun hc=>?_) (fun hc=>?_)
    ·exfalso;simp at hc
    ·refine za ?_;refine FW.le (s':=⟨[(4,.own 4000 1 0 O.length),(5,.bool true)],[(4000,⟨1,.own,3,1,O.map zj⟩)]⟩) ?_ (FLe.cv [⟨4000,some 101,0,⟨1,.own,3,1,O.map zj⟩⟩] zf zd);exact FW.ret ⟨.inl rfl,_,.pair rfl rfl rfl (fun _ _ e=>by cases e) (fun _ _ e=>by cases e),rfl,rfl⟩
theorem We (n:Nat) (E:List (Nat×Nat)) (hn:n≤14) (hE:E.length≤1000) (hin:InN n E):zY Try.prog 14 [.int .i64 n,.list 2 (E.map edf)] .sh (zij ((yO E n).map zj)):=by
 rw [← Yp hin];exact zcI n E hn hE hin
theorem ziT {n:Nat} {E:List (Nat×Nat)} (h:E.all (fun e=>Nat.blt e.1 n && Nat.blt e.2 n)=true):InN n E:=fun e he=>by
 have:=List.all_eq_true.1 h e he;simpa using this
theorem zY.sh_of_ow {P:Program} {f:Nat} {args:List FV} {E sz:Nat} {r:FV} (h:zY P f args (.ow E sz) r):zY P f args .sh r where
 go:=h.go
 hand:=h.hand
 calls w I vs hI hv:=(h.calls w I vs hI hv).mono fun e w' ⟨v,e1,hb,hr⟩=>by
  obtain ⟨es,us,rfl,hw,ho,hrow,hrd⟩:=hr;refine ⟨v,e1,hb,?_⟩;have hm:RdL w' (fun b=>I b∨(w.heap.size≤b∧b<w'.heap.size)) us es.flatten:=hrd.mono fun b hb=>⟨.inr ⟨hb.1,hb.2.1⟩,rfl⟩
  rcases hrow.2 with ⟨rfl,h0⟩|⟨b,cap,cur,rfl,hlow,hgg,hn,_,hcs,htk⟩
  ·exact Rd.list none 0 0 sz es us h0 (Nat.le_refl _) hw ho (fun h=>absurd rfl h) hm.1 hm.2
  ·refine Rd.list (some ⟨b,0,none⟩) es.length cap sz es us rfl hn hw ho (fun _=>⟨b,0,rfl,.inr ⟨hlow,(Array.getElem?_eq_some_iff.1 hgg).1⟩,fun j u hu=>?_⟩) hm.1 hm.2;rw [cell_of_row _ b _ cur _ (0,0) hgg];rw [← htk,List.getElem?_take] at hu;split at hu
   ·simpa using hu
   ·cases hu
def zcp.fv (v:zcp):List FV:=[.int .i64 v.check,.int .i64 v.cls,.int .i64 v.arg,.list 1 (v.ord.map zj),.list 3 (v.ed.map EdV.fv)]
def zcp.raw (v:zcp):List FV:=[.int .i64 v.check,.int .i64 v.cls,.int .i64 v.arg,if v.cls=5∨v.check=0 then .nil else .list 1 (v.ord.map zj),if v.cls=5 then .list 3 (v.ed.map EdV.fv) else .nil]
def Wz (l:List OpV) (s:Bool):zcp:=if xB l=true then zcj l s else ⟨0,0,0,[],[]⟩
def zaJ (l:List OpV):Int:=if xB l=true then 0 else 22
theorem zhX (l:List OpV) (s:Bool):FV.le (.tup [.agg (Wz l s).raw,.int .i64 (zaJ l)]) (.tup [.agg (Wz l s).fv,.int .i64 (zaJ l)]):=by
 refine .tup (.cons (.agg (.cons (.refl _) (.cons (.refl _) (.cons (.refl _) (.cons ?_ (.cons ?_ .nil)))))) (.cons (.refl _) .nil))
 ·split
  ·rename_i h;have:(Wz l s).ord=[]:=by
    unfold Wz at h ⊢;split
    ·rename_i hd;rw [if_pos hd] at h;unfold zcj at h ⊢;cases ht:Zb l with
     | some v => rw [ht] at h; dsimp only at h; unfold cOf at h; split at h <;> omega
     | none =>
      rw [ht] at h;dsimp only at h ⊢;by_cases hc:ym l s=[]
      ·rw [if_pos hc] at h;dsimp only at h;unfold cOf at h;split at h <;> omega
      ·rw [if_neg hc]
    ·rfl
   rw [this];exact .nil 1
  ·exact .refl _
 ·split
  ·exact .refl _
  ·rename_i h;have:(Wz l s).ed=[]:=by
    unfold Wz at h ⊢;split
    ·rename_i hd;rw [if_pos hd] at h;unfold zcj at h ⊢;cases ht:Zb l with
     | some v => rfl
     | none =>
      rw [ht] at h;dsimp only at h ⊢;by_cases hc:ym l s=[]
      ·rw [if_pos hc]
      ·rw [if_neg hc] at h;exact absurd rfl h
    ·rfl
   rw [this];exact .nil 3
theorem WN (l:List OpV) (i:Nat) (hi:i<l.length):zY Try.prog 18 ([.int .i64 i]++[zfq l]) .fr (.bool (!zS (nth l i))):=by
 refine zY.of_body (c:=(xa Try.prog zD zq 10)) ⟨Try.func18,rfl,Try.ntmps18,by kernel_rfl⟩ zC zp rfl ?_;change FW _ _ _ ⟨[(0,.int .i64 i),(1,.eptr 1 [[.list 8 (l.map OpV.fv)]] 0 0)],[]⟩;refine za ?_;refine zV (XX (nth l i)) (by repeat (first|exact zx.nil|refine zx.cons zt ?_)) rfl rfl ?_;refine za ?_;exact FW.ret ⟨.inl rfl,zm rfl rfl rfl rfl⟩
theorem zhS (s:Bool):cOf s≠0:=by unfold cOf;split <;> decide
theorem zjx (s:Bool) (a:Int) (o:List Int):(⟨cOf s,2,a,o,[]⟩:zcp).raw=[.int .i64 (cOf s),.int .i64 2,.int .i64 a,.list 1 (o.map zj),.nil]:=by
 have:=zhS s;unfold zcp.raw;dsimp only;rw [if_neg zb,if_neg zg]
theorem zjw (s:Bool) (a:Int) (o:List Int):(⟨cOf s,0,a,o,[]⟩:zcp).raw=[.int .i64 (cOf s),.int .i64 0,.int .i64 a,.list 1 (o.map zj),.nil]:=by
 have:=zhS s;unfold zcp.raw;dsimp only;rw [if_neg zb,if_neg zg]
theorem zjy (s:Bool) (a:Int) (e:List EdV):(⟨cOf s,5,a,[],e⟩:zcp).raw=[.int .i64 (cOf s),.int .i64 5,.int .i64 a,.nil,.list 3 (e.map EdV.fv)]:=by
 unfold zcp.raw;dsimp only;rw [if_pos (.inl rfl),if_pos rfl]
theorem Ua {l:List OpV} {i:Nat} (hi:i<l.length):ZM (XZ l) (l.length - i) i=if XZ l i=true then some i else ZM (XZ l) (l.length - (i+1)) (i+1):=by
 rw [show l.length - i=(l.length - (i+1))+1 by omega];rfl
theorem YT (l:List OpV) (s:Bool) (hl:l.length≤12) (hin:∀ o∈l,zgU o):zY Try.prog 6 [.list 8 (l.map OpV.fv),.bool s] .sh (.tup [.agg (Wz l s).fv,.int .i64 (zaJ l)]):=by
 refine zY.le ?_ (zhX l s) rfl;have hwr:=Xu l zb hin;obtain ⟨R,hR⟩:∃ R,Wz l s=R:=⟨_,rfl⟩
 obtain ⟨E,hE⟩:∃ E,zaJ l=E:=⟨_,rfl⟩
 rw [hR,hE];refine zY.of_body (c:=(xa Try.prog zD zq 121)) ⟨Try.func6,rfl,Try.ntmps6,by kernel_rfl⟩ zC zp rfl ?_;change FW _ _ _ ⟨[(0,.list 8 (l.map OpV.fv)),(1,.bool s)],[]⟩;refine za ?_;refine yg hwr (by repeat (first|exact zx.nil|refine zx.cons zt ?_)) rfl rfl ?_;refine za ?_;cases hd:xB l with
 | false =>
  have hRf:R=⟨0,0,0,[],[]⟩:=by rw [← hR];unfold Wz;rw [if_neg (by rw [hd];decide)]
  have hEf:E=22:=by rw [← hE];unfold zaJ;rw [if_neg (by rw [hd];decide)]
  subst hRf;subst hEf;refine za ?_;refine FW.ret ⟨.inl rfl,.sh (.cons (xt rfl rfl rfl rfl rfl rfl zg) (.cons (.tmp 5 rfl rfl) .nil)) ?_ rfl⟩;simp [zcp.raw,zaK];rfl
 | true=>
  have hEf:E=0:=by rw [← hE];unfold zaJ;rw [if_pos hd]
  subst hEf;have hRf:zcj l s=R:=by rw [← hR];unfold Wz;rw [if_pos hd]
  rw [show wM l true=.smap (Zd l l.length) from rfl];have hDm:=Xc.1 hd;have hwk:=Wc (l:=l) (i:=l.length) (Nat.le_refl _) hin;have hlk:=zcV l l.length;have hiw:=fun a b=>zcm (l:=l) (a:=a) (b:=b);generalize Zd l l.length=W at hwk hlk;obtain ⟨n,hn⟩:∃ n,l.length=n:=⟨_,rfl⟩
  have hstep:=fun i (hi:i<l.length)=>Ua (l:=l) hi;rw [hn] at hl hlk hiw hstep;refine za ?_;refine FW.join (fun _:Unit=>⟨[(1,.bool s),(2,.ptr 101 0 0 0),(4,.ptr 102 0 0 0),(6,.smap W),(8,.ptr 103 0 0 0)],[(101,⟨0,.own,23,1,[[.list 8 (l.map OpV.fv)]]⟩),(102,⟨0,.own,32,5,[[.int .i64 0,.int .i64 0,.int .i64 0,.nil,.nil]]⟩),(103,⟨0,.own,32,5,[[.int .i64 (cOf s),.int .i64 0,.int .i64 0,.nil,.nil]]⟩)]⟩) (fun _=>True) ?_ (fun _ _=>?_)
  ·refine FW.cond rfl (fun h=>?_) (fun h=>?_)
   ·subst h;refine za ?_;exact ⟨rfl,(),trivial,(FLe.cv [⟨101,some 2,0+1,⟨0,.own,23,1,[[.list 8 (l.map OpV.fv)]]⟩⟩,⟨102,some 4,0+1,⟨0,.own,32,5,[[.int .i64 0,.int .i64 0,.int .i64 0,.nil,.nil]]⟩⟩,⟨103,some 8,0+1,⟨0,.own,32,5,[[.int .i64 (cOf true),.int .i64 0,.int .i64 0,.nil,.nil]]⟩⟩] zf zd)⟩
   ·subst h;refine za ?_;exact ⟨rfl,(),trivial,(FLe.cv [⟨101,some 2,0+1,⟨0,.own,23,1,[[.list 8 (l.map OpV.fv)]]⟩⟩,⟨102,some 4,0+1,⟨0,.own,32,5,[[.int .i64 0,.int .i64 0,.int .i64 0,.nil,.nil]]⟩⟩,⟨103,some 8,0+1,⟨0,.own,32,5,[[.int .i64 (cOf false),.int .i64 0,.int .i64 0,.nil,.nil]]⟩⟩] zf zd)⟩
  refine za ?_;rw [hn];refine FW.loop (fun i:Nat=>⟨[(1,.bool s),(2,.ptr 101 0 0 0),(4,.ptr 102 0 0 0),(6,.smap W),(8,.ptr 103 0 0 0),(31,.list 8 (l.map OpV.fv)),(32,.int .i64 n),(33,.int .i64 i)],[(101,⟨0,.own,23,1,[[.list 8 (l.map OpV.fv)]]⟩),(102,⟨0,.own,32,5,[[.int .i64 0,.int .i64 0,.int .i64 0,.nil,.nil]]⟩),(103,⟨0,.own,32,5,[[.int .i64 (cOf s),.int .i64 0,.int .i64 0,.nil,.nil]]⟩)]⟩) (fun i=>i≤n∧ZM (XZ l) (n - i) i=Zb l) (fun i=>n - i) 0 ⟨Nat.zero_le _,by unfold Zb;rw [hn,Nat.sub_zero]⟩ ?_ ?_
  ·show FLe _ ⟨[(1,.bool s),(2,.ptr 101 0 0 0),(4,.ptr 102 0 0 0),(6,.smap W),(8,.ptr 103 0 0 0),(31,.list 8 (l.map OpV.fv)),(32,.int .i64 n),(33,.int .i64 0)],[(101,⟨0,.own,23,1,[[.list 8 (l.map OpV.fv)]]⟩),(102,⟨0,.own,32,5,[[.int .i64 0,.int .i64 0,.int .i64 0,.nil,.nil]]⟩),(103,⟨0,.own,32,5,[[.int .i64 (cOf s),.int .i64 0,.int .i64 0,.nil,.nil]]⟩)]⟩;exact (FLe.cv [⟨101,some 101,0,⟨0,.own,23,1,[[.list 8 (l.map OpV.fv)]]⟩⟩,⟨102,some 102,0,⟨0,.own,32,5,[[.int .i64 0,.int .i64 0,.int .i64 0,.nil,.nil]]⟩⟩,⟨103,some 103,0,⟨0,.own,32,5,[[.int .i64 (cOf s),.int .i64 0,.int .i64 0,.nil,.nil]]⟩⟩] zf zd)
  rintro i ⟨hi,hth⟩;refine za ?_;refine FW.cond rfl (fun hc=>?_) (fun hc=>?_)
  ·have hlt:i<n:=by simpa using hc
   clear hc;have hlt2:i<l.length:=by omega
   have ho:=hin _ (zL hlt2);rw [hstep i hlt] at hth;have hkd:=hDm.kind i hlt2;have hkf:=zf6 ho.2.2.1 ho.2.2.2.2.1;have htb:XZ l i=(zS (nth l i) && decide ((nth l i).res≠0) && !(zaW l n (nth l i).key (nth l i).res).isSome):=by unfold XZ;rw [hiw]
   have hlk:=hlk (nth l i).key (nth l i).res;obtain ⟨o,hoo⟩:∃ o,nth l i=o:=⟨_,rfl⟩
   rw [hoo] at hkd hkf htb hlk;have hic:zS o=o.done:=by unfold zS;rcases hkd with e|e <;> simp [e]
   rw [hic] at htb;refine za ?_;rw [hoo];skip;refine zca (e:=3) zbI hwk hkf hlk rfl rfl rfl rfl rfl rfl rfl ?_;refine za ?_;cases hdn:o.done with
   | false =>
    rw [hdn,Bool.false_and,Bool.false_and] at htb;rw [htb,if_neg zg] at hth;refine za ?_;exact ⟨i+1,⟨by omega,hth⟩,by omega,(FLe.cv [⟨101,some 101,0,⟨0,.own,23,1,[[.list 8 (l.map OpV.fv)]]⟩⟩,⟨102,some 102,0,⟨0,.own,32,5,[[.int .i64 0,.int .i64 0,.int .i64 0,.nil,.nil]]⟩⟩,⟨103,some 103,0,⟨0,.own,32,5,[[.int .i64 (cOf s),.int .i64 0,.int .i64 0,.nil,.nil]]⟩⟩] zf zd)⟩
   | true=>
    rw [hdn,Bool.true_and] at htb;refine za ?_;refine zJ (fun h1=>?_) (fun h1=>?_)
    ·have h1' : o.res≠0:=by simpa using h1
     rw [decide_eq_true h1',Bool.true_and] at htb;refine za ?_;cases hws:(zaW l n o.key o.res).isSome with
     | true =>
      rw [hws] at htb;rw [htb,if_neg zg] at hth;refine za ?_;exact ⟨i+1,⟨by omega,hth⟩,by omega,(FLe.cv [⟨101,some 101,0,⟨0,.own,23,1,[[.list 8 (l.map OpV.fv)]]⟩⟩,⟨102,some 102,0,⟨0,.own,32,5,[[.int .i64 0,.int .i64 0,.int .i64 0,.nil,.nil]]⟩⟩,⟨103,some 103,0,⟨0,.own,32,5,[[.int .i64 (cOf s),.int .i64 0,.int .i64 0,.nil,.nil]]⟩⟩] zf zd)⟩
     | false =>
      rw [hws] at htb;rw [htb,if_pos zg] at hth;have hRR:R=⟨cOf s,2,o.key,[(i:Int)],[]⟩:=by rw [← hRf];unfold zcj;rw [← hth];dsimp only;rw [hoo]
      subst hRR
      (repeat (first|refine FW.seq ?_|refine FW.condT rfl ?_|refine FW.draw ?_|refine xE rfl rfl rfl rfl rfl (by simp;done) rfl rfl rfl rfl rfl ?_|refine Zh rfl rfl rfl ?_|refine Zp rfl rfl rfl rfl rfl rfl zg rfl rfl ?_))
      refine zeO (es:=[zj (i:Int)]) rfl rfl rfl (by refine xw.int rfl rfl ?_;exact xw.nil) rfl rfl rfl rfl rfl ?_;refine zw ?_;refine ⟨by kernel_rfl,?_⟩;refine za ?_;refine FW.ret ⟨.inl rfl,.sh (.cons (xt rfl rfl rfl rfl rfl rfl zg) (.cons (.tmp 5 rfl rfl) .nil)) ?_ rfl⟩;rw [zjx];rfl
    ·have h1' : ¬ o.res≠0:=by simpa using h1
     rw [decide_eq_false h1',Bool.false_and] at htb;rw [htb,if_neg zg] at hth;refine za ?_;exact ⟨i+1,⟨by omega,hth⟩,by omega,(FLe.cv [⟨101,some 101,0,⟨0,.own,23,1,[[.list 8 (l.map OpV.fv)]]⟩⟩,⟨102,some 102,0,⟨0,.own,32,5,[[.int .i64 0,.int .i64 0,.int .i64 0,.nil,.nil]]⟩⟩,⟨103,some 103,0,⟨0,.own,32,5,[[.int .i64 (cOf s),.int .i64 0,.int .i64 0,.nil,.nil]]⟩⟩] zf zd)⟩
  ·obtain rfl:i=n:=by simp at hc;omega
   clear hc hstep hlk hwk hiw hi;obtain ⟨n,hni⟩:∃ n,n=i:=⟨_,rfl⟩
   rw [← hni] at hl hn hth ⊢;rw [Nat.sub_self] at hth;have hth:Zb l=none:=hth.symm;have hes:=(XH l s zb).sh_of_ow;have hel:=Yr l s l.length;have hin2:=zbQ l s;obtain ⟨X,hX⟩:∃ X,yb l s=X:=⟨_,rfl⟩
   have hXl:X.length≤576:=by
    rw [← hX];refine Nat.le_trans hel ?_;exact Nat.le_trans (Nat.mul_le_mul (Nat.mul_le_mul (Nat.le_refl 4) (by omega:l.length≤12)) (by omega:l.length≤12)) zg
   have hcy:=fun h=>zbf l s zb h;have hpl:(prs X).length=X.length:=by unfold prs;rw [List.length_map]
   have hcr:ym l s=yO (prs X) n:=by unfold ym;rw [hX,hn]
   have hor:Xm l s=(yq n (prs X)).filter fun x=>zS (nth l x.toNat):=by unfold Xm;rw [hX,hn]
   rw [hX] at hes hin2 hcy;rw [hn] at hin2;have hC:=We n (prs X) zb zb hin2;rw [← hcr] at hC;clear hel;refine za ?_;refine yg hes (by repeat (first|exact zx.nil|refine zx.cons zt ?_)) rfl rfl ?_;refine za ?_;refine FW.loop (fun k:Nat=>⟨[(2,.ptr 101 0 0 0),(4,.ptr 102 0 0 0),(8,.ptr 103 0 0 0),(13,.list 3 (X.map EdV.fv)),(14,.own 104 0 0 k),(72,.list 3 (X.map EdV.fv)),(73,.int .i64 X.length),(74,.int .i64 k)],[(101,⟨0,.own,23,1,[[.list 8 (l.map OpV.fv)]]⟩),(102,⟨0,.own,32,5,[[.int .i64 0,.int .i64 0,.int .i64 0,.nil,.nil]]⟩),(103,⟨0,.own,32,5,[[.int .i64 (cOf s),.int .i64 0,.int .i64 0,.nil,.nil]]⟩),(104,⟨0,.own,56,2,((prs X).take k).map edf⟩)]⟩) (fun k=>k≤X.length) (fun k=>X.length - k) 0 (Nat.zero_le _) ?_ ?_
   ·show FLe _ ⟨[(2,.ptr 101 0 0 0),(4,.ptr 102 0 0 0),(8,.ptr 103 0 0 0),(13,.list 3 (X.map EdV.fv)),(14,.own 104 0 0 0),(72,.list 3 (X.map EdV.fv)),(73,.int .i64 X.length),(74,.int .i64 0)],[(101,⟨0,.own,23,1,[[.list 8 (l.map OpV.fv)]]⟩),(102,⟨0,.own,32,5,[[.int .i64 0,.int .i64 0,.int .i64 0,.nil,.nil]]⟩),(103,⟨0,.own,32,5,[[.int .i64 (cOf s),.int .i64 0,.int .i64 0,.nil,.nil]]⟩),(104,⟨0,.own,56,2,[]⟩)]⟩;exact (FLe.cv [⟨101,some 101,0,⟨0,.own,23,1,[[.list 8 (l.map OpV.fv)]]⟩⟩,⟨102,some 102,0,⟨0,.own,32,5,[[.int .i64 0,.int .i64 0,.int .i64 0,.nil,.nil]]⟩⟩,⟨103,some 103,0,⟨0,.own,32,5,[[.int .i64 (cOf s),.int .i64 0,.int .i64 0,.nil,.nil]]⟩⟩,⟨104,none,0,⟨0,.own,56,2,[]⟩⟩] zf zd)
   intro k hk;have hkl:((prs X).take k).length=k:=by rw [List.length_take];omega
   have hks:∀ h:k<X.length,(prs X).take (k+1)=(prs X).take k++[((nth X k).1,(nth X k).2.1)]:=fun h=>by
    rw [List.take_succ_eq_append_getElem zb];congr 2;rw [nth_eq h];simp [prs]
   have hlast:k=X.length→(prs X).take k=prs X:=fun e=>by rw [e,← hpl,List.take_length]
   generalize (prs X).take k=Z at hkl hks hlast;subst hkl;refine za ?_;refine FW.cond rfl (fun hc=>?_) (fun hc=>?_)
   ·have hlt:Z.length<X.length:=by simpa using hc
    clear hc hlast;have hks:=hks hlt;obtain ⟨⟨a,b,w⟩,he⟩:∃ e,nth X Z.length=e:=⟨_,rfl⟩
    rw [he] at hks;refine za ?_;rw [he];skip;refine ⟨Z.length+1,by omega,by omega,?_⟩;rw [hks,List.map_append];exact (FLe.cv [⟨101,some 101,0,⟨0,.own,23,1,[[.list 8 (l.map OpV.fv)]]⟩⟩,⟨102,some 102,0,⟨0,.own,32,5,[[.int .i64 0,.int .i64 0,.int .i64 0,.nil,.nil]]⟩⟩,⟨103,some 103,0,⟨0,.own,32,5,[[.int .i64 (cOf s),.int .i64 0,.int .i64 0,.nil,.nil]]⟩⟩,⟨104,some 85,0+1,⟨0,.own,56,2,Z.map edf++[(a,b)].map edf⟩⟩] zf zd)
   ·have hZ:=hlast (by simp at hc;omega);subst hZ;clear hc hlast hks hk;refine za ?_;rw [hn];refine zi.le ?_ (FLe.share 14 rfl rfl zc);skip;refine yg hC yN rfl rfl ?_;refine za ?_;cases hcc:ym l s with
    | nil=>
     have hRR:R=⟨cOf s,0,0,Xm l s,[]⟩:=by rw [← hRf];unfold zcj;rw [hth];dsimp only;rw [if_pos hcc]
     rw [show zij (([]:List Int).map zj)=.nil from rfl];have hO:=(ZD hin2 (by rw [← hcr];exact hcc)).2;have hTL:=zag n (prs X) zb zb hin2 hO.len;subst hRR;rw [hor];generalize yq n (prs X)=T at hO hTL;have hTl:=hO.len;have hkp:(T.filter fun x=>zS (nth l x.toNat))=yQ (fun x=>!zS (nth l x.toNat)) T:=by unfold yQ;simp
     rw [hkp];have hD:=ZK 1 T 18 [zfq l] (fun x=>!zS (nth l x.toNat)) zb (fun x hx=>by
      have hr:=hO.rng x hx;have:=WN l x.toNat zb;rw [show ((x.toNat:Nat):Int)=x by omega] at this;exact this)
     rw [hTl] at hD;have hKl:=ZY (fun x=>!zS (nth l x.toNat)) T T.length;rw [List.take_length,hTl] at hKl;generalize yQ (fun x=>!zS (nth l x.toNat)) T=K at hD hKl;clear hRf hkp hcr hor hcy hC hes;refine za ?_;rw [hn];refine xe hTL [(4000,105)] rfl zF.nil rfl rfl rfl rfl rfl rfl ?_;rintro _ ob' ⟨rfl,h4⟩;refine yH.one [(105,⟨1,.own,3,1,T.map zj⟩)] (.wrap .tup [.own 105 1 0 n,.bool true]) rfl (by show [(105,zn.ren _ (look {} ob' 4000))]=_;rw [h4];rfl) ?_;clear h4 ob' hTL;refine za ?_;refine ZF rfl rfl rfl rfl rfl ?_;refine ZF rfl rfl rfl rfl rfl ?_
     (repeat (first|refine FW.seq ?_|refine FW.region ?_|refine zi.nil ?_|refine zO rfl rfl rfl ?_|refine zG rfl rfl rfl ?_))
     refine zi.le ?_ (FLe.shareP 2 rfl rfl)
     (repeat (first|refine Yz rfl rfl rfl rfl ?_))
     refine xe hD [(5000,105)] rfl (zF.cons rfl rfl rfl zF.nil) rfl rfl rfl rfl rfl rfl ?_;rintro _ ob' ⟨rfl,h4⟩;obtain ⟨Ze,hZe⟩:∃ Ze,(K++List.replicate (n - K.length) 0).map zj=Ze:=⟨_,rfl⟩
     have hZt:(Ze.drop 0).take K.length=K.map zj:=by rw [← hZe,List.drop_zero,List.map_append,List.take_left' (List.length_map _)]
     rw [hZe] at h4;refine yH.one [(105,⟨1,.own,3,1,Ze⟩)] (.own 105 1 0 K.length) rfl (by show [(105,zn.ren _ (look {} ob' 5000))]=_;rw [h4];rfl) ?_;clear h4 ob' hD;refine zi.le ?_ (FLe.shut (i:=105) rfl);refine zi.le ?_ (FLe.list (d:=117) (i:=105) (f:=.list 1 (K.map zj)) rfl rfl (by rw [hZt]));refine za ?_;refine FW.ret ⟨.inl rfl,.sh (.cons (xt rfl rfl rfl rfl rfl rfl zg) (.cons (.tmp 5 rfl rfl) .nil)) ?_ rfl⟩;rw [zjw];rfl
    | cons c0 cs =>
     have hRR:R=⟨cOf s,5,(nth l (nth (ym l s) 0).toNat).key,[],XC l s (ym l s) (ym l s).length⟩:=by rw [← hRf];unfold zcj;rw [hth];dsimp only;rw [if_neg (by rw [hcc];simp)]
     rw [show zij ((c0::cs).map zj)=.list 1 ((c0::cs).map zj) from rfl];have hne:ym l s≠[]:=by rw [hcc];simp
     obtain ⟨a,b,ha,_,hal,_,_⟩:=zcF hne (i:=0) (by rw [hcc];simp);have hcl:(ym l s).length≤n:=by rw [hcr,← Yp hin2];exact Xa hin2 (Nat.le_refl n)
     have hcy:=(hcy hne zb).sh_of_ow;rw [ha,Int.toNat_natCast] at hRR;subst hRR;obtain ⟨Y,hY⟩:∃ Y,XC l s (ym l s) (ym l s).length=Y:=⟨_,rfl⟩
     rw [hY] at hcy ⊢;have hc0:0<(ym l s).length:=by rw [hcc];simp
     rw [← hcc];obtain ⟨C,hCC⟩:∃ C,ym l s=C:=⟨_,rfl⟩
     rw [hCC] at hcy ha hc0 ⊢;clear hRf hcr hor hC hes hY hcc hcl;skip;refine zcc rfl rfl rfl (by intro e;rw [List.map_eq_nil_iff] at e;subst e;cases hc0) rfl rfl ?_;refine yf ?_;rw [ha];refine zw ?_;refine zht hcy (by repeat (first|exact zx.nil|refine zx.cons zt ?_)) rfl rfl ?_;refine zw ?_;refine ⟨by kernel_rfl,?_⟩;refine za ?_;refine FW.ret ⟨.inl rfl,.sh (.cons (xt rfl rfl rfl rfl rfl rfl zg) (.cons (.tmp 5 rfl rfl) .nil)) ?_ rfl⟩;rw [zjy];rfl
def ziU (C:List FV):FV→Bool
 | .int _ n => C.all fun q => match q with
  | .int _ m => decide (m ≠ n)
  | .bool _ => true
  | _ => false
 | _ => false
def FV.avo (C:List FV):FV→Bool
 | .int _ _|.bool _|.str _|.nil|.undef => true
 | .list _ es => es.flatten.all FV.flat && (es.isEmpty || es.flatten.any (ziU C))
 | .agg cs => avos cs
 | .tup cs => avos cs
 | _ => false
where avos:List FV→Bool
 | [] => true
 | f :: fs => f.avo C && avos fs
theorem FV.avos_get {C:List FV}:∀ {fs:List FV},FV.avo.avos C fs=true→∀ (j:Nat) f,fs[j]? = some f→f.avo C=true
 | [], _, j, f, h => by simp at h
 | g :: fs, h, 0, f, hf => by simp only [FV.avo.avos, Bool.and_eq_true] at h; simp at hf; subst hf; exact h.1
 | g :: fs, h, j+1, f, hf => by simp only [FV.avo.avos, Bool.and_eq_true] at h; simp at hf; exact FV.avos_get h.2 j f hf
theorem Rd.avoid {w w1:World} {I F I' : Nat→Prop} {b0:Nat} {cur:Array Value} {T:TypeId} {fr:Nat×Nat} {C:List FV} (hblk:w.heap[b0]? = some (.cells cur T fr)) (hC:RdL w1 I' cur.toList C) (hI:∀ b,I b→b=b0∨F b) {v:Value} {f:FV} (h:Rd w I v f):f.avo C=true→Rd w F v f:=by
 induction h with
 | undef v => exact fun _ => .undef v
 | int k n => exact fun _ => .int k n
 | bool b => exact fun _ => .bool b
 | str s => exact fun _ => .str s
 | nil => exact fun _ => .nil
 | list A n c sz es us hn hc he ho hA hl hr _=>
  intro hv;simp only [FV.avo,Bool.and_eq_true,Bool.or_eq_true] at hv;obtain ⟨hfl,hany⟩:=hv;refine Rd.list A n c sz es us hn hc he ho (fun hne=>?_) hl (fun j u f hu hf=>(hr j u f hu hf).flat (List.all_eq_true.1 hfl _ (List.mem_of_getElem? hf)) _ _);obtain ⟨b,off,e,hb,hcell⟩:=hA hne;refine ⟨b,off,e,?_,hcell⟩;rcases hI b hb with rfl|hF
  ·exfalso;rcases hany with h0|h1
   ·have:es=[]:=by simpa using h0
    subst this;exact hne (by simpa using hn.symm)
   ·obtain ⟨g,hg,hlone⟩:=List.any_eq_true.1 h1;obtain ⟨j,hj,rfl⟩:=List.getElem_of_mem hg;have hju:j<us.length:=by omega
    have hrd:=hr j us[j] es.flatten[j] (by simp [hju]) (by simp [hj]);generalize es.flatten[j]=g at hlone hrd;cases g with
    | int k n=>
     have hce:=hcell j us[j] (by simp [hju]);have hu:us[j]=.int k n:=by
      generalize us[j]=u at hrd;cases hrd;rfl
     rw [cell_of_row w b _ cur _ _ hblk,hu] at hce;have hcl:off+j<cur.toList.length:=by
      obtain ⟨q,_⟩:=Array.getElem?_eq_some_iff.1 hce;simpa using q
     have hq:=hC.2 (off+j) (.int k n) (C[off+j]'(by rw [← hC.1];exact hcl)) (by simpa using hce) zc;have hall:=List.all_eq_true.1 hlone _ (List.getElem_mem (l:=C) (by rw [← hC.1];exact hcl));generalize C[off+j]'(by rw [← hC.1];exact hcl)=q at hq hall;cases hq with
     | int => simp at hall
     | undef => simp at hall
     | perm => simp at hall
    | _ => simp [ziU] at hlone
  ·exact hF
 | agg us fs hl _ ih => exact fun hv => Rd.agg us fs hl (fun j u f hu hf => ih j u f hu hf (FV.avos_get hv j f hf))
 | tup us fs hl _ ih => exact fun hv => Rd.tup us fs hl (fun j u f hu hf => ih j u f hu hf (FV.avos_get hv j f hf))
 | _ => intro hv; simp [FV.avo] at hv
section
variable {c:Ctx} {w0 w:World} {J:JJ} {s:FSt} {a:Act} {β:Nat→Option Nat} {dst:Option Nat} {ty:TypeId} {pos:String} {after:Array Edge} {g:Option (Nat×Bool)}
theorem Uq (h:FR c.N w0 J s a w β) {o:Oper} (d E sz:Nat) (es:List (List FV)) (cur:Array Value) (hw:∀ e∈es,e.length=sz) (ho:∀ f∈es.flatten,f.one=true) (hr:RdL w (Imm J w β s) cur.toList es.flatten) (hm:es.length≤maxLen)
  (hrun:(execOp a.eval o).run c.P w=.ok (.value (.slice (some ⟨w.heap.size,0,none⟩) es.length es.length)) (w.alloc (.cells cur E))) :
  yL c w0 J s a o w (.own d ((s.ob d).ver+1) 0 es.length) [(d,⟨(s.ob d).ver+1,.full,E,sz,es⟩)]:=by
 obtain ⟨v,w',β',hrun',hF,hV,hver⟩:=ZB h d E sz es cur hw ho hr hm hrun;rw [hrun] at hrun';injection hrun' with q1 q2
 injection q1 with q1
 subst q1;subst q2;have hob:(s.wr [(d,⟨(s.ob d).ver+1,.own,E,sz,es⟩)]).ob d=⟨(s.ob d).ver+1,.own,E,sz,es⟩:=by show (FSt.set s d _).ob d=_;rw [FSt.ob_set,if_pos rfl]
 have hO:=hV (by rw [hob];exact fun q=>by cases q) (by rw [hob]);obtain ⟨A,cc,e1,e2,e3,e4,e5⟩:=hO.ex;injection e1 with eA en ec
 subst ec;rw [hob] at e5;have hs:∀ k,(s.wr [(d,⟨(s.ob d).ver+1,.full,E,sz,es⟩)]).ob k=if d=k then { (s.wr [(d,⟨(s.ob d).ver+1,.own,E,sz,es⟩)]).ob d with life:=.full } else (s.wr [(d,⟨(s.ob d).ver+1,.own,E,sz,es⟩)]).ob k:=fun k=>by
  show (FSt.set s d _).ob k=if d=k then { (FSt.set s d _).ob d with life:=.full } else (FSt.set s d _).ob k
  rw [FSt.ob_set,FSt.ob_set,FSt.ob_set];by_cases hk:d=k
  ·rw [if_pos hk,if_pos hk,if_pos rfl]
  ·rw [if_neg hk,if_neg hk,if_neg hk]
 have hF2:=hF.lives d .full (fun _=>by rw [hob];rfl) (fun q=>by rw [hob] at q;cases q) (fun _=>by rw [hob];rfl) hs (fun _=>rfl) (fun _ hq=>by
  have hrl:((s.wr [(d,⟨(s.ob d).ver+1,.own,E,sz,es⟩)]).ob d).life.row=true:=by rw [hob];rfl
  have hR:=hq.rowR hrl;refine ObR.ofRow ⟨hR.wide,hR.one,hR.row⟩ ?_ rfl;show ∀ b cur,_→_→_;intro b cur' hb hc;rw [hob] at hc ⊢;obtain ⟨o',_,_,k3⟩:=e5 b hb;have:=k3 cur' hc;simpa using this)
 refine ⟨_,_,_,hrun,hF2,fun _ _=>?_,fun id ver e=>?_⟩
 ·rw [hs d,if_pos rfl];refine ⟨by rfl,?_⟩;have:=hO.ex;rw [hob] at this ⊢;exact this
 ·have:=hver id ver e;rw [hs id];split
  ·rename_i hk;subst hk;exact this
  ·exact this
theorem Wu (h:FR c.N w0 J s a w β) (d:Nat) {T e n:Nat} (hT:(c.ty T).k=.slice e) (he:(c.ty e).k≠.other) (ps:Array (Nat×Operand)) (es:List (List FV)) (hn:es.length=n) (hw:∀ x∈es,x.length=(c.ty e).size) (ho:∀ f∈es.flatten,f.one=true)
  (hcap:n * (c.ty e).size≤16777216) (hnm:n≤16777216)
  (hf:xx (fun i=>some (i * (c.ty e).size,(c.ty e).size)) (List.replicate (n * (c.ty e).size) .undef) (s.parts ps)=some es.flatten) :
  yL c w0 J s a ⟨some d,.buildSlice T n ps,ty,pos,after,g⟩ w (.own d ((s.ob d).ver+1) 0 n) [(d,⟨(s.ob d).ver+1,.full,e,(c.ty e).size,es⟩)]:=by
 obtain ⟨dd,i,z,ht⟩:=c.get hT zc;have hd:=ht.k;rw [hT] at hd;obtain rfl:=yo hd;have hs:=yi (c:=c) he w;obtain ⟨zz,hz,_,_⟩:=yw he w;obtain ⟨A0,hA0⟩:∃ A0:Array Value,(if n * (c.ty e).size=0 then (Array.range (n * (c.ty e).size)).map (fun x=>(#[]:Array Value)[x % (#[]:Array Value).size]!) else (Array.range (n * (c.ty e).size)).map (fun x=>zz.cells[x % zz.cells.size]!))=A0:=⟨_,rfl⟩
 have hsz:A0.size=n * (c.ty e).size:=by rw [← hA0];split <;> simp
 have hu:=RdL.undefs (w:=w) (I:=Imm J w β s) A0.toList;rw [Array.length_toList,hsz] at hu;obtain ⟨A',h1,h2⟩:=h.parts ps hu hf;subst hn;refine Uq h d e (c.ty e).size es A' hw ho h2 (by unfold maxLen;omega) ?_;have hcap' : ¬ (16777216<es.length * (c.ty e).size):=by omega
 by_cases h0:es.length * (c.ty e).size=0
 ·rw [if_pos h0] at hA0;simp [execOp,Instr.buildSlice,run_underlying ht.u,hs,h0,newRow] at hA0 h1 ⊢;rw [hA0,h1];simp
 ·rw [if_neg h0] at hA0;simp [execOp,Instr.buildSlice,run_underlying ht.u,hs,hcap',h0,hz,newRow,hA0] at h1 ⊢;rw [h1];simp
end
section
variable {c:Ctx} {ops:Array Oper} {rest:List Oper} {t:List (Nat×FV)} {ob:List (Nat×zn)} {d:Nat} {ty:TypeId} {pos:String} {af:Array Edge} {g:Option (Nat×Bool)} {Q:FSt→Prop}
theorem zeX {T e n sz by_:Nat} {kk:TK} {z:List FV} {es:List (List FV)} {ps:List (Nat×Operand)} {v0 E0 sz0:Nat} {lf0:zX} {es0:List (List FV)} (hT:(c.ty T).k=.slice e) (he:c.ty e=⟨kk,sz,by_,z⟩) (hk:kk.known=true) (hf:xw ⟨t,ob⟩ sz 0 ps es) (hn:ps.length=n) (hm:Nat.ble (n * sz) 16777216=true) (hm2:Nat.ble n 16777216=true) (hv:(⟨t,ob⟩:FSt).ob d=⟨v0,lf0,E0,sz0,es0⟩) (hd:Nat.blt d c.N=true) (hw:zM ops ⟨t,ob⟩ (⟨some d,.buildSlice T n ps.toArray,ty,pos,af,g⟩:Oper) true)
  (k:zi c ops rest ⟨((d,(.own d (v0+1) 0 n))::t),((d,⟨v0+1,.full,e,sz,es⟩)::ob)⟩ Q):zi c ops ((⟨some d,.buildSlice T n ps.toArray,ty,pos,af,g⟩:Oper)::rest) ⟨t,ob⟩ Q:=fun QQ w0 J a w β hQ hF=>by
 unfold wpList;rw [if_pos (hw.model hF)];refine .inl ?_;subst hn;obtain ⟨l1,l2,l3⟩:=hf.len;have hfill:=hf.fill [] zc;have:=Wu (ty:=ty) (pos:=pos) (after:=af) (g:=g) hF d (n:=ps.length) hT (by rw [he];exact TK.known_ne hk) ps.toArray es l1 (by rw [he];exact l2) l3 (by rw [he];exact Nat.le_of_ble_eq_true hm) (Nat.le_of_ble_eq_true hm2) (by rw [he];simpa [FSt.parts] using hfill);rw [yZ hv,he] at this;exact this.wp (fun _ e=>by injection e with e;subst e;exact Nat.le_of_ble_eq_true hd) fun a' w' β' hF'=>k QQ w0 J a' w' β' hQ hF'
theorem zgw {f id ver E sz n:Nat} {x y:Operand} {q:Bool} {es:List (List FV)} {res:FV} {ts:Array TypeId} (hs:zY c.P f [.list sz es,.bool q] .sh res) (hx:(⟨t,ob⟩:FSt).ev x=.own id ver 0 n) (hy:(⟨t,ob⟩:FSt).ev y=.bool q) (hb:(⟨t,ob⟩:FSt).ob id=⟨ver,.full,E,sz,es⟩) (hn:n=es.length) (hfl:es.flatten.all FV.flat=true) (hav:res.avo es.flatten=true) (hd:Nat.blt d c.N=true)
  (hw:zM ops ⟨t,ob⟩ (⟨some d,.call { callee:=.value (.func f),args:=#[x,y],argTypes:=ts },ty,pos,af,g⟩:Oper) true)
  (k:zi c ops rest ⟨(d,res)::t,(id,⟨ver,.own,E,sz,es⟩)::ob⟩ Q):zi c ops ((⟨some d,.call { callee:=.value (.func f),args:=#[x,y],argTypes:=ts },ty,pos,af,g⟩:Oper)::rest) ⟨t,ob⟩ Q:=fun QQ w0 J a w β hQ hF=>by
 unfold wpList;rw [if_pos (hw.model hF)];refine .inl ?_;subst hn;have hl:((⟨t,ob⟩:FSt).ob id).life≠.dead:=by rw [hb];exact fun q=>by cases q
 have hrl:((⟨t,ob⟩:FSt).ob id).life.row=true:=by rw [hb];rfl
 have hwd:=((hF.obj id hl).rowR hrl).wide;have hone:=((hF.obj id hl).rowR hrl).one;have hroom:=(hF.obj id hl).roomR hrl;obtain ⟨A,cc,e1,e2,e3,e4,e5⟩:=(hF.ev_own hx hl (by rw [hb])).ex;have hey:=hF.ev_bool hy;rw [hb] at hwd hone e5 hroom;obtain ⟨I,hI,hrd,hout⟩:∃ I:Nat→Prop,(∀ b,I b→b<w.heap.size)∧Rd w I (a.eval x) (.list sz es)∧∀ w' v,Below w.heap.size w w'→Rd w' (fun b=>I b∨(w.heap.size≤b∧b<w'.heap.size)) v res→Rd w' (fun b=>w.heap.size≤b∧b<w'.heap.size) v res:=by
  rw [e1];cases hbd:β id with
  | none =>
   obtain ⟨rfl,rfl⟩:=e4 hbd;have hn0:es.length=0:=by omega
   have hnil:es=[]:=List.eq_nil_of_length_eq_zero hn0;refine ⟨fun _=>False,fun _ h=>h.elim,?_,fun w' v _ h=>h.mono fun b hb'=>⟨hb'.resolve_left (fun q=>q),rfl⟩⟩;rw [hnil];exact Rd.list none 0 0 sz [] [] rfl (Nat.le_refl _) zc zc (fun q=>absurd rfl q) rfl (fun j u f hu=>by simp at hu)
  | some b0=>
   obtain ⟨cur,cap,hblk,hnc,hm2,hcs,hr,hrow⟩:=hF.block hl hrl hbd;obtain ⟨o',rfl,k2,k3⟩:=e5 b0 hbd;have ho' : o'=0:=by have:=k2 (.inr rfl);rw [Nat.zero_mul] at this;exact this
   subst ho';rw [hb] at hblk hcs hr hrow hnc;have hcur:cur.size=es.length * sz:=hroom b0 cur hbd hblk;have hall:cur.toList.take (es.length * sz)=cur.toList:=List.take_of_length_le (by simp [hcur]);dsimp only at hr;rw [hall] at hr;have hb0:b0<w.heap.size:=((hF.obj id hl).lt hbd).2;refine ⟨fun b=>b=b0,fun b e=>e▸hb0,?_,fun w' v hbel h=>?_⟩
   ·refine Rd.list (some ⟨b0,0,none⟩) _ cc _ _ cur.toList rfl e2 hwd hone (fun _=>⟨b0,0,rfl,rfl,fun j u hu=>?_⟩) hr.1 (fun j u f hu hf=>(hr.2 j u f hu hf).flat (List.all_eq_true.1 hfl _ (List.mem_of_getElem? hf)) _ _);rw [cell_of_row w b0 _ cur _ (0,0) hblk];simpa using hu
   ·have hblk' : w'.heap[b0]? = some (.cells cur E (0,0)):=by rw [hbel.block b0 hb0];exact hblk
    exact Rd.avoid hblk' hr (fun b hb'=>hb') h hav
 have hc:=hs.calls w I [a.eval x,a.eval y] hI ⟨rfl,fun j u g hu hg=>by
  match j,hu,hg with
  | 0, hu, hg => simp at hu hg; subst hu; subst hg; exact hrd
  | 1, hu, hg => simp at hu hg; subst hu; subst hg; rw [hey]; exact .bool q
  | j+2, hu, hg => simp at hu⟩
 unfold Oper.wp;have hrun:∀ xs:Array Operand,(execOp a.eval ⟨some d,.call { callee:=.value (.func f),args:=xs,argTypes:=ts },ty,pos,af,g⟩).run c.P w=.ok (.enter f (xs.map a.eval)) w:=fun xs=>by
  have:=yS (P:=c.P) hs.go (xs.map a.eval) w;simp [execOp,resolve,Act.eval,Deferred.ofValue,invoke,this]
 have hmap:#[x,y].map a.eval=#[a.eval x,a.eval y]:=by simp
 rw [hrun,Oper.upon_enter,hmap];refine hc.mono ?_;rintro e w' ⟨v,rfl,hbel,hr⟩;have hfr:=hout w' v hbel hr;have hG:=hF.grow hbel;have hG2:FR c.N w0 J ⟨t,(id,⟨ver,.own,E,sz,es⟩)::ob⟩ a w' β:=hG.lives id .own (fun _=>by rw [hb];rfl) (fun q=>by rw [hb] at q;cases q) (fun _=>by rw [hb];rfl) (fun k=>by
   have:=FSt.ob_set ⟨t,ob⟩ id ⟨ver,.own,E,sz,es⟩ k;rw [hb];exact this) (fun _=>rfl) (fun _ hq=>by
  have hR:=hq.rowR hrl;exact ObR.ofRow ⟨hR.wide,hR.one,hR.row⟩ (ZQ.own rfl) rfl)
 have hrd2:Rd w' (Imm J w' β ⟨t,(id,⟨ver,.own,E,sz,es⟩)::ob⟩) v res:=hfr.mono fun b hb'=>⟨⟨hb'.2,hF.fresh b (Nat.le_trans hF.bel.size hb'.1) (.inl hb'.1),fun i hm e=>by
  have:=((hG2.obj i (zX.mine_ne hm)).lt e).2;have hold:((⟨t,ob⟩:FSt).ob i).life≠.dead:=by
   by_cases hi:id=i
   ·subst hi;exact hl
   ·have h2:=FSt.ob_set ⟨t,ob⟩ id ⟨ver,.own,E,sz,es⟩ i;rw [if_neg hi] at h2;have hm':=zX.mine_ne hm;intro h3;exact hm' (by rw [show (⟨t,(id,⟨ver,.own,E,sz,es⟩)::ob⟩:FSt).ob i=(⟨t,ob⟩:FSt).ob i from h2];exact h3)
  have:=((hF.obj i hold).lt e).2;omega⟩,rfl⟩
 have hP:=hG2.put (Nat.le_of_ble_eq_true hd) (VR.of_rd hrd2 hs.hand) (fun id ver e=>(FV.no_hands hs.hand e).elim);exact k QQ w0 J _ _ _ hQ hP
end
theorem zdx (x y:EdV):zd5 Try.prog 28 x.fv y.fv (decide (x=y)):=by
 refine ⟨by kernel_rfl,fun w=>?_⟩;obtain ⟨a1,a2,a3⟩:=x;obtain ⟨b1,b2,b3⟩:=y;show (Op.equalIn 10000 28 (.agg #[.int .i64 a1,.int .i64 a2,.int .i64 a3]) (.agg #[.int .i64 b1,.int .i64 b2,.int .i64 b3])).run Try.prog w=_;have hS:Try.prog.underlying 28=some (.struct (Try.prog.fieldsOf 28)):=by kernel_rfl
 have hp:Try.prog.stoodInHeld 28=false:=by kernel_rfl
 rw [show (10000:Nat)=9999+1 from rfl,run_equalIn_agg w 9999 28 _ _ hS hp];simp only [Program.fieldsOf,Try.underlying28];simp [go_sem];by_cases h1:a1=b1
 ·by_cases h2:a2=b2
  ·by_cases h3:a3=b3 <;> simp [h1,h2,h3]
  ·simp [h1,h2];omega
 ·simp [h1];omega
def zeD (r:Int):List OpV:=[⟨0,2,0,1,0,0,1,true⟩,⟨0,2,0,2,r,2,3,true⟩]
theorem zjg:Wz (zeD 0) false=⟨3,5,0,[],[(0,1,4),(1,0,4)]⟩:=by decide +kernel
theorem zjk:prs (yb (zeD 1) true)=[(0,1),(0,1)]:=by decide +kernel
theorem zjl:yq 2 [(0,1),(0,1)]=[0,1]:=by
 have h:=zdh (n:=2) (E:=[(0,1),(0,1)]) (ziT rfl);rw [show rtK [(0,1),(0,1)] 2 2 []=some [0,1] by decide +kernel] at h;split at h
 ·cases h
 ·injection h with h;exact h.symm
theorem zjh:Wz (zeD 1) true=⟨4,0,0,[0,1],[]⟩:=by
 have ho:Xm (zeD 1) true=[0,1]:=by
  unfold Xm;rw [zjk,show (zeD 1).length=2 from rfl,zjl];decide +kernel
 unfold Wz zcj;rw [if_pos (by decide +kernel),show Zb (zeD 1)=none by decide +kernel,ho];rw [show ym (zeD 1) true=[] by decide +kernel];rfl
theorem zji:zaJ (zeD 0)=0:=by decide +kernel
theorem zjj:zaJ (zeD 1)=0:=by decide +kernel
theorem Ya:zY Try.prog 9 [] .fr (.bool true):=by
 have hA:=YT (zeD 0) false zg (fun o ho=>by simp only [zeD,List.mem_cons,List.not_mem_nil,or_false] at ho;rcases ho with rfl|rfl <;> (unfold zgU I64;decide));have hB:=YT (zeD 1) true zg (fun o ho=>by simp only [zeD,List.mem_cons,List.not_mem_nil,or_false] at ho;rcases ho with rfl|rfl <;> (unfold zgU I64;decide));rw [zjg,zji] at hA;rw [zjh,zjj] at hB;change zY _ _ [.list 8 [OpV.fv ⟨0,2,0,1,0,0,1,true⟩,OpV.fv ⟨0,2,0,2,0,2,3,true⟩],_] _ _ at hA;refine zY.of_body (c:=(xa Try.prog zD zq 64)) ⟨Try.func9,rfl,Try.ntmps9,by kernel_rfl⟩ zC zp rfl ?_;change FW _ _ _ ⟨[],[]⟩;refine za ?_;refine zeX (es:=[OpV.fv ⟨0,2,0,1,0,0,1,true⟩,OpV.fv ⟨0,2,0,2,0,2,3,true⟩]) rfl rfl rfl (by refine xw.agg rfl rfl rfl ?_;refine xw.agg rfl rfl rfl ?_;exact xw.nil) rfl rfl rfl rfl rfl rfl ?_;refine za ?_;refine zgw hA rfl rfl rfl rfl (by decide +kernel) (by decide +kernel) rfl rfl ?_;refine za ?_;refine zi.le ?_ (FLe.share 8 rfl rfl (by rfl));refine yg hB yN rfl rfl ?_;refine za ?_;refine zi2 rfl rfl rfl rfl (zdx (0,1,4) (0,1,4)) rfl ⟨_,_,rfl,rfl,rfl⟩ ?_;refine za ?_;refine Xq (es:=[0,1].map zj) rfl rfl rfl (by refine xw.int rfl rfl ?_;refine xw.int rfl rfl ?_;exact xw.nil) rfl rfl rfl rfl rfl ⟨_,_,rfl,rfl,rfl⟩ ?_;refine zV (Xv [0,1] [0,1] zg zg) yN rfl ⟨_,_,rfl,rfl,rfl⟩ ?_;refine za ?_;exact FW.ret ⟨.inl rfl,zm rfl rfl rfl rfl⟩
end Go.Proofs.Ytlnehfplfoikaaa
