/-
  Some texts as one: FmTopoL, FmDel, FmCauD.
-/
import Derived.Test.YtmnmakhpjgjdaaaZFmCyc2
import Derived.Test.YtmnmakhpjgjdaaaZK
import Derived.Test.YtmnmakhpjgjdaaaZD
import Derived.Test.YtmnmakhpjgjdaaaZFmW
import Derived.Test.YtmnmakhpjgjdaaaZOrderPlain
namespace Go.Proofs.Ytmnmakhpjgjdaaa
set_option linter.unusedVariables false
set_option maxHeartbeats 16000000
open Go.RowKit
theorem zjV (n:Nat) (E:List (Nat×Nat)) (hn:n≤300) (hE:E.length≤100000) (hin:InN n E) (hac:(yM n E).length=n):yD Try.prog 36 [.int .i64 n,.list 2 (E.map edf)] [] [4000] (fun res o=>res=.wrap .tup [.own 4000 1 0 n,.bool true]∧o 4000=⟨1,.own,3,1,(yM n E).map zD⟩):=by
 refine yD.of_body (c:=(xx Try.prog zE zt 104)) ⟨Try.func36,rfl,Try.ntmps36,by kernel_rfl⟩ zw ?_ ?_
 ·rintro res o ⟨rfl,h⟩;exact ⟨(fun k hk=>by cases hk),(fun k hk=>by obtain rfl:=List.mem_singleton.1 hk;rw [h];exact ⟨Nat.zero_lt_one,fun _=>rfl⟩),(fun k hk=>by obtain rfl:=List.mem_singleton.1 hk;rw [h];rfl),rfl⟩
 change FW _ _ _ ⟨[(0,.int .i64 n),(1,.list 2 (E.map edf))],[]⟩;have hrl:=yq n E;have hrn:=fun v (hv:v<n)=>ZO E hv;refine zb ?_;refine yl (Yf n E za za hin) (by repeat (first|exact zu.nil|refine zu.cons zm ?_)) rfl rfl ?_;rw [zea];refine zb ?_;rw [show List.replicate n [FV.int .i64 0]=(List.replicate n 0).map zD by rw [List.map_replicate];rfl];refine FW.loop (fun i:Nat=>⟨[(0,.int .i64 n),(6,.list 1 ((zW n E).map Xt)),(7,.own 100 0 0 n),(26,.list 1 ((zW n E).map Xt)),(27,.int .i64 n),(28,.int .i64 i)],[(100,⟨0,.own,3,1,(YF n E i).map zD⟩)]⟩) (fun i=>i≤n) (fun i=>n - i) 0 (Nat.zero_le _) ?_ ?_
 ·rw [hrl,show YF n E 0=List.replicate n 0 from rfl];obtain ⟨z,hz⟩:∃ z,(List.replicate n (0:Int)).map zD=z:=⟨_,rfl⟩
  rw [hz];exact (FLe.cv [⟨100,some 25,0+1,⟨0,.own,3,1,z⟩⟩] zf zd)
 intro i hi;obtain ⟨hml,hmb⟩:=zgO hin i;refine zb ?_;refine FW.cond rfl (fun h=>?_) (fun h=>?_)
 ·have hlt:i<n:=by simpa using h
  clear h;have hsl:=XR E i;have hms:=zgP n E hlt;refine zb ?_;rw [hrn i hlt];skip;generalize YF n E i=M at hml hmb hms;refine FW.loop (fun j:Nat=>⟨[(0,.int .i64 n),(6,.list 1 ((zW n E).map Xt)),(7,.own 100 0 0 n),(26,.list 1 ((zW n E).map Xt)),(27,.int .i64 n),(28,.int .i64 i),(32,.list 1 ((zy E i).map zD)),(33,.int .i64 (zy E i).length),(34,.int .i64 j)],[(100,⟨0,.own,3,1,(((zy E i).take j).foldl zcz M).map zD⟩)]⟩) (fun j=>j≤(zy E i).length) (fun j=>(zy E i).length - j) 0 (Nat.zero_le _) ?_ ?_
  ·show FLe _ ⟨[(0,.int .i64 n),(6,.list 1 ((zW n E).map Xt)),(7,.own 100 0 0 n),(26,.list 1 ((zW n E).map Xt)),(27,.int .i64 n),(28,.int .i64 i),(32,.list 1 ((zy E i).map zD)),(33,.int .i64 (zy E i).length),(34,.int .i64 0)],[(100,⟨0,.own,3,1,M.map zD⟩)]⟩;exact (FLe.cv [⟨100,some 100,0,⟨0,.own,3,1,M.map zD⟩⟩] zf zd)
  intro j hj;refine zb ?_;refine FW.cond rfl (fun h=>?_) (fun h=>?_)
  ·have hlt2:j<(zy E i).length:=by simpa using h
   clear h;obtain ⟨w,hw⟩:∃ w:Nat,nth (zy E i) j=w:=⟨(nth (zy E i) j).toNat,by have:=(yA hin (zC hlt2)).1;omega⟩
   have hwn:w<n:=by have:=(yA hin (zC hlt2)).2;omega
   have hst:((zy E i).take (j+1)).foldl zcz M=(((zy E i).take j).foldl zcz M).set w (nth (((zy E i).take j).foldl zcz M) w+1):=by
    rw [List.take_succ_eq_append_getElem hlt2,List.foldl_append,← nth_eq hlt2,hw];rfl
   have hbd:0≤nth (((zy E i).take j).foldl zcz M) w∧nth (((zy E i).take j).foldl zcz M) w≤n+1:=by
    rw [za9 (n:=n) (List.Nodup.sublist (List.take_sublist _ _) (Yg E i)) (fun q hq=>yA hin (List.mem_of_mem_take hq)) hml w hwn];have:=hmb w hwn;split <;> omega
   have hzl:(((zy E i).take j).foldl zcz M).length=n:=by rw [za8];exact hml
   obtain ⟨Z,hZ⟩:∃ Z,((zy E i).take j).foldl zcz M=Z:=⟨_,rfl⟩
   rw [hZ] at hst hbd hzl ⊢;refine zb ?_;rw [hw,Int.toNat_natCast];refine zb ?_;rw [show (zD (nth Z w)).set 0 (.int .i64 (nth Z w+1))=zD (nth Z w+1) from rfl,← List.map_set,← hst];skip;refine ⟨j+1,by omega,by omega,?_⟩;obtain ⟨Y,hY⟩:∃ Y,(((zy E i).take (j+1)).foldl zcz M).map zD=Y:=⟨_,rfl⟩
   rw [hY];exact (FLe.cv [⟨100,some 100,0,⟨0,.own,3,1,Y⟩⟩] zf zd)
  ·obtain rfl:j=(zy E i).length:=by simp at h;omega
   clear h hj;rw [List.take_length,← hms];refine zb ?_;refine ⟨i+1,by omega,by omega,?_⟩;exact (FLe.cv [⟨100,some 100,0,⟨0,.own,3,1,(YF n E (i+1)).map zD⟩⟩] zf zd)
 ·obtain rfl:i=n:=by simp at h;omega
  clear h hi hml hmb;rw [zi5];obtain ⟨hml,hmc⟩:=zcJ hin;have hcb:∀ w,zf9 i E [] w≤i:=fun w=>by
   have:zf9 i E [] w≤(List.range i).length:=List.countP_le_length;rwa [List.length_range] at this
  refine zb ?_;refine zn4 (f:=.own 46 (0+1) 0 0) rfl (.inr (.inl ⟨_,_,_,_,rfl,⟨by show yf.own≠.dead;decide,rfl⟩⟩)) rfl rfl rfl ?_;refine zfP rfl rfl rfl rfl rfl ?_;refine zb ?_;obtain ⟨n,hni⟩:∃ n,i=n:=⟨_,rfl⟩
  subst hni;generalize hMM:zcb i E=M at hml hmc;obtain ⟨n,hni⟩:∃ n,n=i:=⟨_,rfl⟩
  subst hni;refine FW.loop (fun k:Nat=>⟨[(0,.int .i64 n),(6,.list 1 ((zW n E).map Xt)),(7,.own 100 0 0 n),(12,.ptr 110 0 0 0),(13,.wrap (.fn 60) [.ptr 110 0 0 0]),(49,.own 100 0 0 n),(50,.int .i64 n),(51,.int .i64 k)],[(100,⟨0,.own,3,1,M.map zD⟩),(110,⟨0,.hrow,96,1,[[.ptr 111 0 0 0]]⟩),(111,⟨0,.hrow,97,1,[[.own 112 0 0 (xQ M k).length]]⟩),(112,⟨0,.own,3,1,(xQ M k).map zD⟩)]⟩) (fun k=>k≤n) (fun k=>n - k) 0 (Nat.zero_le _) ?_ ?_
  ·show FLe _ ⟨[(0,.int .i64 n),(6,.list 1 ((zW n E).map Xt)),(7,.own 100 0 0 n),(12,.ptr 110 0 0 0),(13,.wrap (.fn 60) [.ptr 110 0 0 0]),(49,.own 100 0 0 n),(50,.int .i64 n),(51,.int .i64 0)],[(100,⟨0,.own,3,1,M.map zD⟩),(110,⟨0,.hrow,96,1,[[.ptr 111 0 0 0]]⟩),(111,⟨0,.hrow,97,1,[[.own 112 0 0 0]]⟩),(112,⟨0,.own,3,1,[]⟩)]⟩;exact (FLe.cv [⟨100,some 100,0,⟨0,.own,3,1,M.map zD⟩⟩,⟨110,some 12,0+1,⟨0,.hrow,96,1,[[.ptr 111 0 0 0]]⟩⟩,⟨111,some 47,0+1,⟨0,.hrow,97,1,[[.own 112 0 0 0]]⟩⟩,⟨112,some 46,0+1,⟨0,.own,3,1,[]⟩⟩] zf zd)
  intro k hk;refine zb ?_;refine FW.cond rfl (fun h=>?_) (fun h=>?_)
  ·have hlt:k<n:=by simpa using h
   clear h;have hmk:=hmc k hlt;have hck:=hcb k;have hrs:xQ M (k+1)=if nth M k=0 then XC (xQ M k) k else xQ M k:=by
    unfold xQ;rw [List.range_succ,List.foldl_append];rfl
   have hrl:(xQ M k).length≤k:=YH (Xh M k).2.1 fun x hx=>(((Xh M k).2.2 x).1 hx).1;obtain ⟨H,hH⟩:∃ H,xQ M k=H:=⟨_,rfl⟩
   rw [hH] at hrs hrl ⊢;refine zb ?_;refine FW.cond rfl (fun h=>?_) (fun h=>?_)
   ·rw [if_pos (by simpa using h)] at hrs;refine zb ?_;refine zfR rfl (zbP 0 0 0 H k za) [(5002,110),(5000,111),(5001,112)] rfl (zJ.cons rfl rfl rfl (zJ.cons rfl rfl rfl (zJ.cons rfl rfl rfl zJ.nil))) rfl rfl rfl rfl rfl rfl ?_;rintro _ ob' ⟨rfl,h2,h0,h1⟩;refine xf.one [(110,⟨0,.hrow,96,1,[[.ptr 111 0 0 0]]⟩),(111,⟨0,.hrow,97,1,[[.own 112 (0+1) 0 (H.length+1)]]⟩),(112,⟨0+1,.own,3,1,(XC H k).map zD⟩)] (.tup []) rfl (by show [(110,zq.ren _ (look {} ob' 5002)),(111,zq.ren _ (look {} ob' 5000)),(112,zq.ren _ (look {} ob' 5001))]=_;rw [h2,h0,h1];rfl) ?_;clear h2 h0 h1 ob';refine zb ?_;refine ⟨k+1,by omega,by omega,?_⟩;rw [hrs];have hpl:=za6 H k;generalize XC H k=Y at hpl;rw [hpl];exact (FLe.cv [⟨100,some 100,0,⟨0,.own,3,1,M.map zD⟩⟩,⟨110,some 110,0,⟨0,.hrow,96,1,[[.ptr 111 0 0 0]]⟩⟩,⟨111,some 111,0,⟨0,.hrow,97,1,[[.own 112 0 0 (H.length+1)]]⟩⟩,⟨112,some 112,0+1,⟨0,.own,3,1,Y.map zD⟩⟩] zf zd)
   ·rw [if_neg (by simpa using h)] at hrs;refine zb ?_;refine ⟨k+1,by omega,by omega,?_⟩;rw [hrs];exact (FLe.cv [⟨100,some 100,0,⟨0,.own,3,1,M.map zD⟩⟩,⟨110,some 110,0,⟨0,.hrow,96,1,[[.ptr 111 0 0 0]]⟩⟩,⟨111,some 111,0,⟨0,.hrow,97,1,[[.own 112 0 0 H.length]]⟩⟩,⟨112,some 112,0,⟨0,.own,3,1,H.map zD⟩⟩] zf zd)
  ·obtain rfl:k=n:=by simp at h;omega
   clear h hk;have hTI:=TI.start hin;have hst:yx k E=⟨M,xQ M k,[]⟩:=by unfold yx;rw [hMM]
   have hend:(yg E (k+1) (yx k E)).out=yM k E:=rfl;rw [hst] at hTI hend;refine zb ?_;obtain ⟨n,hni⟩:∃ n,n=k:=⟨_,rfl⟩
   subst hni;generalize xQ M n=H at hTI hend;clear hMM hst hcb hmc hml;refine FW.loop (fun s:zel=>⟨[(0,.int .i64 n),(6,.list 1 ((zW n E).map Xt)),(7,.own 100 0 0 n),(12,.ptr 110 0 0 0),(13,.wrap (.fn 60) [.ptr 110 0 0 0]),(16,.own 101 0 0 s.out.length),(17,.wrap (.bound 62) [.ptr 111 0 0 0])],[(101,⟨0,.own,3,1,s.out.map zD⟩),(100,⟨0,.own,3,1,s.m.map zD⟩),(110,⟨0,.hrow,96,1,[[.ptr 111 0 0 0]]⟩),(111,⟨0,.hrow,97,1,[[.own 112 0 0 s.h.length]]⟩),(112,⟨0,.own,3,1,s.h.map zD⟩)]⟩) (fun s=>TI n E s∧∃ k,n<s.out.length+k∧(yg E k s).out=yM n E) (fun s=>n - s.out.length) ⟨M,H,[]⟩ ⟨hTI,n+1,by show n<0+(n+1);omega,hend⟩ ?_ ?_
   ·show FLe _ ⟨[(0,.int .i64 n),(6,.list 1 ((zW n E).map Xt)),(7,.own 100 0 0 n),(12,.ptr 110 0 0 0),(13,.wrap (.fn 60) [.ptr 110 0 0 0]),(16,.own 101 0 0 0),(17,.wrap (.bound 62) [.ptr 111 0 0 0])],[(101,⟨0,.own,3,1,[]⟩),(100,⟨0,.own,3,1,M.map zD⟩),(110,⟨0,.hrow,96,1,[[.ptr 111 0 0 0]]⟩),(111,⟨0,.hrow,97,1,[[.own 112 0 0 H.length]]⟩),(112,⟨0,.own,3,1,H.map zD⟩)]⟩;exact (FLe.cv [⟨101,none,0,⟨0,.own,3,1,[]⟩⟩,⟨100,some 100,0,⟨0,.own,3,1,M.map zD⟩⟩,⟨110,some 110,0,⟨0,.hrow,96,1,[[.ptr 111 0 0 0]]⟩⟩,⟨111,some 111,0,⟨0,.hrow,97,1,[[.own 112 0 0 H.length]]⟩⟩,⟨112,some 112,0,⟨0,.own,3,1,H.map zD⟩⟩] zf zd)
   clear hTI hend M H;rintro ⟨m,h,out⟩ ⟨hTI,fu,hfu,hend⟩;dsimp only at hfu hend ⊢;have hhl:h.length≤n:=hTI.hle;have hml:m.length=n:=hTI.len;have hol:out.length≤n:=hTI.le;refine zb ?_;refine zlC rfl (Uh 0 0 h) [(5000,111),(5001,112)] rfl (zJ.cons rfl rfl rfl (zJ.cons rfl rfl rfl zJ.nil)) rfl rfl rfl rfl rfl rfl ?_;rintro _ ob' ⟨rfl,h1,h2⟩;refine xf.one [(111,⟨0,.hrow,97,1,[[.own 112 0 0 h.length]]⟩),(112,⟨0,.own,3,1,h.map zD⟩)] (.int .i64 h.length) rfl (by show [(111,zq.ren _ (look {} ob' 5000)),(112,zq.ren _ (look {} ob' 5001))]=_;rw [h1,h2];rfl) ?_;clear h1 h2 ob';refine zb ?_;refine FW.cond rfl (fun hc=>?_) (fun hc=>?_)
   ·obtain ⟨k,hk⟩:∃ k,h.length=k+1:=⟨h.length - 1,by simp at hc;omega⟩
    clear hc;refine zb ?_;refine xR (ziQ 0 0 h k hk za) [(5000,111),(5001,112)] rfl (zJ.cons rfl rfl rfl (zJ.cons rfl rfl rfl zJ.nil)) rfl rfl rfl rfl rfl rfl ?_;rintro _ ob' ⟨rfl,h1,h2⟩;refine xf.one [(111,⟨0,.hrow,97,1,[[.own 112 (0+1) 0 k]]⟩),(112,⟨0+1,.own,3,1,((yL h k).take k).map zD⟩)] (.iface 3 (.int .i64 (nth (yL h k) k))) rfl (by show [(111,zq.ren _ (look {} ob' 5000)),(112,zq.ren _ (look {} ob' 5001))]=_;rw [h1,h2];rfl) ?_;clear h1 h2 ob';obtain ⟨v,hv,hvn,hvo,hm0,hmin,hDI,hN,hR⟩:=hTI.first hk;dsimp only at hv hvo hm0 hmin hDI hN hR;rw [hv];have hstep:yS E ⟨m,h,out⟩=⟨((zy E v).foldl decr (m,(yL h k).take k)).1,((zy E v).foldl decr (m,(yL h k).take k)).2,out++[(v:Int)]⟩:=by
     unfold yS;dsimp only;rw [show h.length - 1=k by omega,hv];rfl
    have hTI':=hTI.step hin (by rintro e;rw [show h=[] from e] at hk;simp at hk);rw [hstep] at hTI';have hend' : ∀ f,fu=f+1→(yg E f (yS E ⟨m,h,out⟩)).out=yM n E:=fun f hf=>by
     subst hf;rw [← hend];exact (congrArg zel.out (show yg E (f+1) ⟨m,h,out⟩=yg E f (yS E ⟨m,h,out⟩) from if_neg (by rintro e;rw [show h=[] from e] at hk;simp at hk))).symm
    rw [hstep] at hend';have hsl:=XR E v;refine zb ?_;rw [hrn v hvn];obtain ⟨O,hO⟩:∃ O,out++[(v:Int)]=O:=⟨_,rfl⟩
    obtain ⟨Om,hOm⟩:∃ Om,out.map zD++[[.int .i64 v]]=Om:=⟨_,rfl⟩
    have hOO:O.map zD=Om:=by rw [← hO,← hOm,List.map_append];rfl
    have hOl:Om.length=O.length:=by rw [← hOO,List.length_map]
    have hOl2:O.length=out.length+1:=by rw [← hO];simp
    rw [hO] at hDI hN hR hTI' hend';rw [hOm,hOl];have htl:((yL h k).take k).length=k:=by rw [List.length_take,za5];omega
    obtain ⟨H0,hH0⟩:∃ H0,(yL h k).take k=H0:=⟨_,rfl⟩
    rw [hH0] at hDI htl hTI' hend' ⊢;clear hstep hH0 hv hmin;refine FW.loop (fun j:Nat=>⟨[(0,.int .i64 n),(6,.list 1 ((zW n E).map Xt)),(7,.own 100 0 0 n),(12,.ptr 110 0 0 0),(13,.wrap (.fn 60) [.ptr 110 0 0 0]),(16,.own 101 0 0 O.length),(17,.wrap (.bound 62) [.ptr 111 0 0 0]),(78,.list 1 ((zy E v).map zD)),(79,.int .i64 (zy E v).length),(80,.int .i64 j)],[(101,⟨0,.own,3,1,O.map zD⟩),(100,⟨0,.own,3,1,(((zy E v).take j).foldl decr (m,H0)).1.map zD⟩),(110,⟨0,.hrow,96,1,[[.ptr 111 0 0 0]]⟩),(111,⟨0,.hrow,97,1,[[.own 112 0 0 (((zy E v).take j).foldl decr (m,H0)).2.length]]⟩),(112,⟨0,.own,3,1,(((zy E v).take j).foldl decr (m,H0)).2.map zD⟩)]⟩) (fun j=>j≤(zy E v).length) (fun j=>(zy E v).length - j) 0 (Nat.zero_le _) ?_ ?_
    ·show FLe _ ⟨[(0,.int .i64 n),(6,.list 1 ((zW n E).map Xt)),(7,.own 100 0 0 n),(12,.ptr 110 0 0 0),(13,.wrap (.fn 60) [.ptr 110 0 0 0]),(16,.own 101 0 0 O.length),(17,.wrap (.bound 62) [.ptr 111 0 0 0]),(78,.list 1 ((zy E v).map zD)),(79,.int .i64 (zy E v).length),(80,.int .i64 0)],[(101,⟨0,.own,3,1,O.map zD⟩),(100,⟨0,.own,3,1,m.map zD⟩),(110,⟨0,.hrow,96,1,[[.ptr 111 0 0 0]]⟩),(111,⟨0,.hrow,97,1,[[.own 112 0 0 H0.length]]⟩),(112,⟨0,.own,3,1,H0.map zD⟩)]⟩;rw [← hOO,htl];exact (FLe.cv [⟨101,some 74,0+1,⟨0,.own,3,1,O.map zD⟩⟩,⟨100,some 100,0,⟨0,.own,3,1,m.map zD⟩⟩,⟨110,some 110,0,⟨0,.hrow,96,1,[[.ptr 111 0 0 0]]⟩⟩,⟨111,some 111,0,⟨0,.hrow,97,1,[[.own 112 0 0 k]]⟩⟩,⟨112,some 112,0+1,⟨0,.own,3,1,H0.map zD⟩⟩] zf zd)
    intro j hj;have hDj:=DI.fold (r1:=(zy E v).take j) (r2:=(zy E v).drop j) hR (by rw [List.take_append_drop];exact hDI) (by rw [List.take_append_drop];exact Yg E v) (by rw [List.take_append_drop];exact fun w hw=>yA hin hw);have hst:∀ hl:j<(zy E v).length,((zy E v).take (j+1)).foldl decr (m,H0)=decr (((zy E v).take j).foldl decr (m,H0)) (nth (zy E v) j):=fun hl=>by
     rw [List.take_succ_eq_append_getElem hl,List.foldl_append,← nth_eq hl];rfl
    have hlast:j=(zy E v).length→(zy E v).foldl decr (m,H0)=((zy E v).take j).foldl decr (m,H0):=fun e=>by rw [e,List.take_length]
    generalize ((zy E v).take j).foldl decr (m,H0)=q at hDj hst hlast;obtain ⟨qm,qh⟩:=q;have hql:qm.length=n:=hDj.len;have hqh:qh.length≤n:=YH hDj.hN fun x hx=>((hDj.hM x).1 hx).1;dsimp only;refine zb ?_;refine FW.cond rfl (fun hc=>?_) (fun hc=>?_)
    ·have hlt2:j<(zy E v).length:=by simpa using hc
     clear hc hlast;have hst:=hst hlt2;obtain ⟨w,hw⟩:∃ w:Nat,nth (zy E v) j=w:=⟨(nth (zy E v) j).toNat,by have:=(yA hin (zC hlt2)).1;omega⟩
     have hwn:w<n:=by have:=(yA hin (zC hlt2)).2;omega
     have hbd:0≤nth qm w∧nth qm w≤n+1:=by
      have h1:=hDj.cnt w hwn;have h2:zf9 n E O w≤(List.range n).length:=List.countP_le_length;rw [List.length_range] at h2;dsimp only at h1;rw [h1];split <;> omega
     have hdec:decr (qm,qh) (w:Int)=(qm.set w (nth qm w - 1),if nth qm w - 1=0 then XC qh w else qh):=by unfold decr;rw [Int.toNat_natCast]
     rw [hw,hdec] at hst;obtain ⟨Z,hZ⟩:∃ Z,qm.set w (nth qm w - 1)=Z:=⟨_,rfl⟩
     have hZl:Z.length=n:=by rw [← hZ];simpa using hql
     have hZw:nth Z w=nth qm w - 1:=by rw [← hZ];exact zM za
     rw [hZ] at hst;refine zb ?_;rw [hw,Int.toNat_natCast];refine zb ?_;rw [show (zD (nth qm w)).set 0 (.int .i64 (nth qm w - 1))=zD (nth qm w - 1) from rfl,← List.map_set,hZ];refine zb ?_;rw [hZw];skip;refine FW.cond rfl (fun hc=>?_) (fun hc=>?_)
     ·rw [if_pos (by simpa using hc)] at hst;refine zb ?_;refine zfR rfl (zbP 0 0 0 qh w za) [(5002,110),(5000,111),(5001,112)] rfl (zJ.cons rfl rfl rfl (zJ.cons rfl rfl rfl (zJ.cons rfl rfl rfl zJ.nil))) rfl rfl rfl rfl rfl rfl ?_;rintro _ ob' ⟨rfl,h2,h0,h1⟩;refine xf.one [(110,⟨0,.hrow,96,1,[[.ptr 111 0 0 0]]⟩),(111,⟨0,.hrow,97,1,[[.own 112 (0+1) 0 (qh.length+1)]]⟩),(112,⟨0+1,.own,3,1,(XC qh w).map zD⟩)] (.tup []) rfl (by show [(110,zq.ren _ (look {} ob' 5002)),(111,zq.ren _ (look {} ob' 5000)),(112,zq.ren _ (look {} ob' 5001))]=_;rw [h2,h0,h1];rfl) ?_;clear h2 h0 h1 ob';refine zb ?_;refine ⟨j+1,by omega,by omega,?_⟩;rw [hst];dsimp only;have hpl:=za6 qh w;generalize XC qh w=Y at hpl;rw [hpl];exact (FLe.cv [⟨101,some 101,0,⟨0,.own,3,1,O.map zD⟩⟩,⟨100,some 100,0,⟨0,.own,3,1,Z.map zD⟩⟩,⟨110,some 110,0,⟨0,.hrow,96,1,[[.ptr 111 0 0 0]]⟩⟩,⟨111,some 111,0,⟨0,.hrow,97,1,[[.own 112 0 0 (qh.length+1)]]⟩⟩,⟨112,some 112,0+1,⟨0,.own,3,1,Y.map zD⟩⟩] zf zd)
     ·rw [if_neg (by simpa using hc)] at hst;refine zb ?_;refine ⟨j+1,by omega,by omega,?_⟩;rw [hst];dsimp only;exact (FLe.cv [⟨101,some 101,0,⟨0,.own,3,1,O.map zD⟩⟩,⟨100,some 100,0,⟨0,.own,3,1,Z.map zD⟩⟩,⟨110,some 110,0,⟨0,.hrow,96,1,[[.ptr 111 0 0 0]]⟩⟩,⟨111,some 111,0,⟨0,.hrow,97,1,[[.own 112 0 0 qh.length]]⟩⟩,⟨112,some 112,0,⟨0,.own,3,1,qh.map zD⟩⟩] zf zd)
    ·have hje:j=(zy E v).length:=by simp at hc;omega
     rw [hlast hje] at hTI' hend';clear hc hlast hst;refine zb ?_;refine ⟨⟨qm,qh,O⟩,⟨hTI',fu - 1,by show n<O.length+(fu - 1);omega,hend' _ za⟩,by show n - O.length<n - out.length;have:=hTI'.le;dsimp only at this;omega,?_⟩;exact (FLe.cv [⟨101,some 101,0,⟨0,.own,3,1,O.map zD⟩⟩,⟨100,some 100,0,⟨0,.own,3,1,qm.map zD⟩⟩,⟨110,some 110,0,⟨0,.hrow,96,1,[[.ptr 111 0 0 0]]⟩⟩,⟨111,some 111,0,⟨0,.hrow,97,1,[[.own 112 0 0 qh.length]]⟩⟩,⟨112,some 112,0,⟨0,.own,3,1,qh.map zD⟩⟩] zf zd)
   ·have hh:h=[]:=by
     cases h with
     | nil => rfl
     | cons x h => simp at hc
    subst hh;clear hc;rw [VL E fu _ rfl] at hend;dsimp only at hend;subst hend;generalize yM n E=O at hol hac;subst hac;refine zb ?_;refine FW.cond rfl (fun hc=>?_) (fun hc=>?_)
    ·exfalso;simp at hc
    ·refine zb ?_;refine FW.le (s':=⟨[(4,.own 4000 1 0 O.length),(5,.bool true)],[(4000,⟨1,.own,3,1,O.map zD⟩)]⟩) ?_ (FLe.cv [⟨4000,some 101,0,⟨1,.own,3,1,O.map zD⟩⟩] zf zd);exact FW.ret ⟨.inl rfl,_,.pair rfl rfl rfl (fun _ _ e=>by cases e) (fun _ _ e=>by cases e),rfl,rfl⟩
theorem UC (p:Int→Bool) (r:List Int):∀ k i:Nat,(Xp p r k i = -1∧∀ q,i≤q→q<i+k→p (nth r q)=false)∨∃ j:Nat,i≤j∧j<i+k∧Xp p r k i=j∧p (nth r j)=true∧∀ q,i≤q→q<j→p (nth r q)=false
 | 0, i => .inl ⟨rfl, fun q h1 h2 => by omega⟩
 | k+1,i=>by
  unfold Xp;by_cases h:p (nth r i)=true
  ·rw [if_pos h];exact .inr ⟨i,Nat.le_refl _,by omega,rfl,h,fun q h1 h2=>by omega⟩
  ·rw [if_neg h];have h' : p (nth r i)=false:=by simpa using h
   rcases UC p r k (i+1) with ⟨h1,h2⟩|⟨j,h1,h2,h3,h4,h5⟩
   ·refine .inl ⟨h1,fun q q1 q2=>?_⟩;by_cases e:q=i
    ·subst e;exact h'
    ·exact h2 q za za
   ·refine .inr ⟨j,by omega,by omega,h3,h4,fun q q1 q2=>?_⟩;by_cases e:q=i
    ·subst e;exact h'
    ·exact h5 q za q2
def xu (p:Int→Bool) (r:List Int):List Int:=r.filter fun x=>!p x
theorem zcC {p:Int→Bool} {r:List Int} (h:∀ q,q<r.length→p (nth r q)=false):xu p r=r:=by
 unfold xu;rw [List.filter_eq_self];intro x hx;obtain ⟨q,hq,rfl⟩:=List.getElem_of_mem hx;have:=h q hq;rw [nth_eq hq] at this;rw [this];rfl
theorem Wg {p:Int→Bool} {r:List Int} {j:Nat} (hj:j<r.length):xu p (r.take (j+1))=xu p (r.take j)++if p (nth r j)=true then [] else [nth r j]:=by
 unfold xu;rw [List.take_succ_eq_append_getElem hj,List.filter_append,← nth_eq hj];congr 1;by_cases h:p (nth r j)=true
 ·simp [h]
 ·simp [h]
theorem Vt (p:Int→Bool) (r:List Int) (j:Nat):(xu p (r.take j)).length≤j:=by
 unfold xu;have h1:((r.take j).filter fun x=>!p x).length≤(r.take j).length:=List.length_filter_le _ _;have h2:(r.take j).length≤j:=by rw [List.length_take];omega
 omega
def Xz (p:Int→Bool) (r:List Int) (j:Nat):List Int:=xu p (r.take j)++r.drop (xu p (r.take j)).length
theorem zeI {p:Int→Bool} {r:List Int} {j:Nat} (hj:j≤r.length):(Xz p r j).length=r.length:=by
 have:=Vt p r j;unfold Xz;rw [List.length_append,List.length_drop];omega
theorem zkp {p:Int→Bool} {r:List Int} {j:Nat} (hj:j<r.length):nth (Xz p r j) j=nth r j:=by
 have h:=Vt p r j;have hl:=zeI (p:=p) (r:=r) (j:=j) za;rw [nth_eq za,nth_eq hj];simp only [Xz];rw [List.getElem_append_right h,List.getElem_drop];congr 1;omega
theorem zix {p:Int→Bool} {r:List Int} {j:Nat} (hj:j<r.length) (hp:p (nth r j)=false):(Xz p r j).set (xu p (r.take j)).length (nth r j)=Xz p r (j+1):=by
 have h:=Vt p r j;unfold Xz;rw [Wg hj,if_neg (by rw [hp];decide),List.set_append_right _ _ (Nat.le_refl _),Nat.sub_self,List.append_assoc];congr 1;rw [List.length_append,List.length_singleton,List.drop_eq_getElem_cons (show (xu p (r.take j)).length<r.length by omega)];rfl
theorem ziy {p:Int→Bool} {r:List Int} {j:Nat} (hj:j<r.length) (hp:p (nth r j)=true):Xz p r (j+1)=Xz p r j:=by
 unfold Xz;rw [Wg hj,if_pos hp,List.append_nil]
theorem zgt {p:Int→Bool} {r:List Int} {j:Nat} (hj:j<r.length) (hp:p (nth r j)=true) (h0:∀ q,q<j→p (nth r q)=false):xu p (r.take (j+1))=r.take j∧Xz p r (j+1)=r:=by
 have e:xu p (r.take j)=r.take j:=zcC fun q hq=>by
  rw [List.length_take] at hq;have:nth (r.take j) q=nth r q:=by rw [nth_eq (by rw [List.length_take];exact hq),nth_eq za,List.getElem_take]
  rw [this];exact h0 q za
 have e2:xu p (r.take (j+1))=r.take j:=by rw [Wg hj,if_pos hp,List.append_nil,e]
 refine ⟨e2,?_⟩;unfold Xz;rw [e2,List.length_take,Nat.min_eq_left za,List.take_append_drop]
theorem UP (v:Nat) (r:List Int) (cf:Nat) (caps:List FV) (p:Int→Bool) (hr:r.length≤1000000) (hp:∀ x∈r,zX Try.prog cf ([.int .i64 x]++caps) .fr (.bool (p x))) :
  yD Try.prog 38 [.own 5000 v 0 r.length,.fn cf caps] [(5000,⟨v,.own,3,1,r.map zD⟩)] [] (fun res o=>res=.own 5000 v 0 (xu p r).length∧o 5000=⟨v,.own,3,1,(xu p r++List.replicate (r.length - (xu p r).length) 0).map zD⟩):=by
 refine yD.of_body (c:=(xx Try.prog zE zt 42)) ⟨Try.func38,rfl,Try.ntmps38,by kernel_rfl⟩ zw ?_ ?_
 ·rintro res o ⟨rfl,h⟩;exact XE (v:=v) rfl (by rw [h]) (by rw [h]) rfl
 change FW _ _ _ ⟨[(0,.own 5000 v 0 r.length),(1,.fn cf caps)],[(5000,⟨v,.own,3,1,r.map zD⟩)]⟩;refine zb ?_;refine zS (WI r cf caps p hr hp) YZ rfl rfl ?_;rcases UC p r r.length 0 with ⟨h1,h2⟩|⟨j0,_,h2,h3,h4,h5⟩
 ·have hk:=zcC (p:=p) (r:=r) fun q hq=>h2 q (Nat.zero_le _) za;rw [hk,Nat.sub_self,show UE p r = -1 from h1,show r++List.replicate 0 0=r by simp];refine zb ?_;exact FW.ret ⟨.inl rfl,_,.tmp rfl rfl,rfl,rfl⟩
 ·have hj0:j0<r.length:=by omega
  obtain ⟨s1,s2⟩:=zgt hj0 h4 fun q hq=>h5 q (Nat.zero_le _) hq;rw [show UE p r=(j0:Int) from h3];obtain ⟨n,hn⟩:∃ n,r.length=n:=⟨_,rfl⟩
  rw [hn] at hr hj0 ⊢;refine zb ?_;refine FW.loop (fun j:Nat=>⟨[(0,.own 5000 v 0 n),(1,.fn cf caps),(5,.int .i64 (xu p (r.take j)).length),(6,.int .i64 j)],[(5000,⟨v,.own,3,1,(Xz p r j).map zD⟩)]⟩) (fun j=>j≤n∧(xu p (r.take j)).length<j) (fun j=>n - j) (j0+1) ⟨by omega,by rw [s1,List.length_take];omega⟩ ?_ ?_
  ·rw [s1,s2,List.length_take,Nat.min_eq_left za];exact (FLe.cv [⟨5000,some 5000,v,⟨v,.own,3,1,r.map zD⟩⟩] zf zd)
  rintro j ⟨hj,hkj⟩;have hdl:=zeI (p:=p) (r:=r) (j:=j) za;have hdn:=fun h:j<r.length=>zkp (p:=p) h;have hks:=fun h:j<r.length=>Wg (p:=p) h;have hdk:=fun (h:j<r.length) (hp:p (nth r j)=false)=>zix h hp;have hds:=fun (h:j<r.length) (hp:p (nth r j)=true)=>ziy h hp;have hlast:j=n→xu p (r.take j)=xu p r∧Xz p r j=xu p r++r.drop (xu p r).length:=fun e=>by
   have e1:xu p (r.take j)=xu p r:=by rw [e,← hn,List.take_length]
   exact ⟨e1,by unfold Xz;rw [e1]⟩
  generalize Xz p r j=D at hdl hdn hdk hds hlast;generalize xu p (r.take j)=K at hkj hks hdk hlast;refine zb ?_;refine FW.cond rfl (fun hc=>?_) (fun hc=>?_)
  ·have hlt:j<n:=by simpa using hc
   have hlr:j<r.length:=by omega
   clear hc hlast;have hdn:=hdn hlr;have hks:=hks hlr;have hpj:=hp (nth r j) (zC hlr);have hjD:j<D.length:=by omega
   refine zb ?_;rw [hdn];skip;refine zh7 rfl hpj (by repeat (first|exact zu.nil|refine zu.cons zm ?_)) rfl rfl ?_;refine zb ?_;cases hb:p (nth r j) with
   | true =>
    rw [if_pos hb,List.append_nil] at hks;have hds:=hds hlr hb;refine zb ?_;refine ⟨j+1,⟨by omega,by rw [hks];omega⟩,by omega,?_⟩;rw [hks,hds];exact (FLe.cv [⟨5000,some 5000,v,⟨v,.own,3,1,D.map zD⟩⟩] zf zd)
   | false =>
    rw [if_neg (by rw [hb];decide)] at hks;have hdk:=hdk hlr hb;have hKD:K.length<D.length:=by omega
    refine zb ?_;rw [show (zD (nth D K.length)).set 0 (.int .i64 (nth r j))=zD (nth r j) from rfl,← List.map_set,hdk];refine ⟨j+1,⟨by omega,by rw [hks];simp;omega⟩,by omega,?_⟩;rw [hks,List.length_append,List.length_singleton];generalize Xz p r (j+1)=D2;exact (FLe.cv [⟨5000,some 5000,v,⟨v,.own,3,1,D2.map zD⟩⟩] zf zd)
  ·obtain rfl:j=n:=by simp at hc;omega
   obtain ⟨e1,e2⟩:=hlast rfl;subst e1;have hsp:splice (D.map zD) (0+(xu p r).length) (List.replicate (j - (xu p r).length) [FV.int .i64 0])=(xu p r++List.replicate (j - (xu p r).length) 0).map zD:=by
    rw [e2];unfold splice;rw [Nat.zero_add,List.map_append,List.take_left' (List.length_map _),List.drop_of_length_le zx,List.append_nil,List.map_append,List.map_replicate];rfl
   refine zb ?_;refine zmZ rfl rfl rfl rfl rfl rfl za rfl ?_;rw [hsp];refine zb ?_;exact FW.ret ⟨.inl rfl,_,.tmp rfl rfl,rfl,rfl⟩
def zoO (l:List OpV):List Int:=xu (fun x=>!zK l x.toNat) (yM l.length (edC l))
def ZT (l:List OpV):List FV:=match WY l with
 | some i => YS 5 2 (nth l i).key [i] []
 | none=>if Wz l≠[] then [.int .i64 5,.int .i64 6,.int .i64 0,.nil,.list 3 ((ZF l (Wz l) (Wz l).length).map EdC.fv)] else match Ug l with
  | some (w1, w2, i) => YS 5 7 (nth l w2).key [w1, w2, i] (Zr l w1 w2 ++ Zr l w2 i)
  | none => match Ua l with
   | some (w, i) => YS 5 8 (nth l w).key [w, i] (Zr l w i)
   | none => [.int .i64 5, .int .i64 0, .int .i64 0, .list 1 ((zoO l).map zD), .nil]
def zj3 (l:List OpV):FV:=if Zj l≠0 then .tup [.agg [.int .i64 0,.int .i64 0,.int .i64 0,.nil,.nil],.int .i64 (Zj l)] else .tup [.agg (ZT l),.int .i64 0]
theorem zdR (sz:Nat) (es:List (List FV)):znS sz es=.nil∨znS sz es=.list sz es:=by cases es <;> simp [znS]
theorem zow (l:List OpV) {i:Nat} (hi:i<l.length):(xk (KC l i)).nilMap=some (!zK l i):=by
 unfold KC;by_cases h:i∈zO l l.length
 ·rw [if_pos h,(xC.1 h).2];rfl
 ·rw [if_neg h];have:zK l i=false:=by cases hq:zK l i with|false=>rfl|true=>exact absurd (xC.2 ⟨hi,hq⟩) h
  rw [this];rfl
theorem zey (l:List OpV) (i:Nat) (hi:i<l.length):zX Try.prog 39 ([.int .i64 i]++[.eptr 1 [[zfL l]] 0 0]) .fr (.bool (!zK l i)):=by
 have hcell:(List.map (fun q=>[xk (KC l q)]) (List.range l.length)).getD i []=[xk (KC l i)]:=by rw [List.getD_eq_getElem?_getD,xF l.length i _ hi];rfl
 have hnil:=zow l hi;obtain ⟨C,hC⟩:∃ C,C=List.map (fun q=>[xk (KC l q)]) (List.range l.length):=⟨_,rfl⟩
 have hCl:C.length=l.length:=by rw [hC];simp
 obtain ⟨b,hb⟩:∃ b,(!zK l i)=b:=⟨_,rfl⟩
 rw [hb] at hnil ⊢;unfold zfL zjv;rw [← hC] at hcell ⊢;refine zX.of_body (c:=(xx Try.prog zE zt 12)) ⟨Try.func39,rfl,Try.ntmps39,by kernel_rfl⟩ zH zw rfl ?_;change FW _ _ _ ⟨[(0,.int .i64 i),(1,.eptr 1 [[.eptr 4 [[.list 8 (l.map OpV.fv),.list 1 ((zO l l.length).map yp),.smap (yG l l.length),.list 1 C]] 0 0]] 0 0)],[]⟩;refine zb ?_;refine xc rfl rfl rfl (by rw [hCl];exact hi) hcell rfl rfl rfl rfl ?_;refine zlE rfl hnil zj rfl rfl ?_;refine zb ?_;exact FW.ret ⟨.inl rfl,zF rfl rfl rfl rfl⟩
theorem zg9 (l:List OpV) (hl:l.length≤14) (hc:Wz l=[]):yD Try.prog 36 [.int .i64 l.length,.perm 2 ((edC l).map edf)] [] [4000] (fun res o=>res=.wrap .tup [.own 4000 1 0 l.length,.bool true]∧o 4000=⟨1,.own,3,1,(yM l.length (edC l)).map zD⟩):=by
 refine yD.perm (pre:=[.int .i64 l.length]) (post:=[]) fun es' hp=>?_;obtain ⟨P,hP,rfl⟩:=zhW hp;have hm:∀ e,e∈P↔e∈edC l:=fun e=>hP.mem_iff;have hin:=(Yr l).mem hm;have h1:=zks l;have h2:=Nat.mul_le_mul hl hl;have hcP:xE P l.length=[]:=by rw [XI hm];exact hc
 obtain ⟨h3,h4⟩:=ZZ hin hcP;obtain ⟨h5,_⟩:=ZZ (Yr l) hc;rw [zbE hm,h5] at h3;injection h3 with h3
 rw [h3];exact zjV l.length P za (by rw [hP.length_eq];omega) hin h4.len
theorem zgj (l:List OpV) (hl:l.length≤14) (hin:∀ o∈l,Ve o):zX Try.prog 18 [.list 8 (l.map OpV.fv)] .sh (zj3 l):=by
 have hdm:=Ux l za hin;obtain ⟨R,hR⟩:∃ R,zj3 l=R:=⟨_,rfl⟩
 have hRh:R.hand=none:=by rw [← hR];unfold zj3;split <;> rfl
 rw [hR];have hR1:Zj l≠0→R=.tup [.agg [.int .i64 0,.int .i64 0,.int .i64 0,.nil,.nil],.int .i64 (Zj l)]:=fun h=>by rw [← hR];unfold zj3;rw [if_pos h]
 have hR2:Zj l=0→R=.tup [.agg (ZT l),.int .i64 0]:=fun h=>by rw [← hR];unfold zj3;rw [if_neg (by simpa using h)]
 have hdom:Zj l=0→Yi l:=fun h=>by
  unfold Zj at h;split at h
  ·rename_i h1;exact absurd h h1
  ·split at h
   ·assumption
   ·cases h
 clear hR;obtain ⟨e,he⟩:∃ e,Zj l=e:=⟨_,rfl⟩
 rw [he] at hdm hR1 hR2 hdom;have hb:=fun hd=>zck l za hin hd;rw [zkv] at hb;change Yi l→zX _ _ _ _ (zfL l) at hb;have hth:=zl5 l za hin;have hcy:=zgs l hl;have hov:=zlc l za hin;have hit:=zkQ l za hin;have hpairs:=zbh (.list 8 (l.map OpV.fv)) (.smap (yG l l.length)) (.list 1 ((zO l l.length).map yp)) (KC l) l.length za (kok l za);change zX _ _ [zfL l] _ (.perm 2 ((edC l).map edf)) at hpairs;have htop:=zg9 l hl;have hch:=zey l;obtain ⟨r,hr⟩:∃ r,zfL l=r:=⟨_,rfl⟩
 have hr1:r.one=true:=by rw [← hr];rfl
 have hrc:r.cells=[r]:=by rw [← hr];rfl
 have hrh:r.hand=none:=by rw [← hr];rfl
 rw [hr] at hb hth hcy hov hit hpairs hch;clear hr;refine zX.of_body (c:=(xx Try.prog zE zt 57)) ⟨Try.func18,rfl,Try.ntmps18,by kernel_rfl⟩ zH zw hRh ?_;change FW _ _ _ ⟨[(0,.list 8 (l.map OpV.fv))],[]⟩;refine zb ?_;refine zS hdm (by repeat (first|exact zu.nil|refine zu.cons zm ?_)) rfl rfl ?_;refine zb ?_;refine FW.cond rfl (fun h=>?_) (fun h=>?_)
 ·rw [hR1 (by simpa using h)];refine zb ?_;exact FW.ret ⟨.inl rfl,.sh (.cons (zL rfl rfl rfl rfl rfl rfl zg) (.cons (.tmp 3 rfl rfl) .nil)) rfl rfl⟩
 have he0:e=0:=by simpa using h
 subst he0;have hR2:=hR2 rfl;have hb:=hb (hdom rfl);clear h hR1 hdom
 (repeat (first|refine FW.seq ?_|refine FW.region ?_|refine FW.skip ?_|refine zG rfl rfl rfl ?_))
 refine yl hb (by repeat (first|exact zu.nil|refine zu.cons zm ?_)) rfl rfl ?_;refine zfP rfl rfl rfl rfl rfl ?_;refine zjJ rfl rfl hr1 rfl rfl rfl zg rfl ?_;refine zn.le ?_ (FLe.ofH 5 rfl (by simp [hr1]));refine zn.le ?_ (FLe.shareP 5 rfl rfl)
 (repeat (first|refine FW.seq ?_|refine FW.region ?_|refine zn.nil ?_|refine xc rfl rfl rfl xG rfl rfl rfl rfl rfl ?_))
 refine zh6 rfl hrh rfl rfl ?_
 (repeat (first|refine xc rfl rfl rfl xG rfl rfl rfl rfl rfl ?_))
 refine zh6 rfl hrh rfl rfl ?_
 (repeat (first|refine xc rfl rfl rfl xG rfl rfl rfl rfl rfl ?_))
 refine zh6 rfl hrh rfl rfl ?_
 (repeat (first|refine xc rfl rfl rfl xG rfl rfl rfl rfl rfl ?_))
 refine zh6 rfl hrh rfl rfl ?_;refine yK (es:=[[.bnd 32 [r]],[.bnd 33 [r]],[.bnd 34 [r]],[.bnd 35 [r]]]) rfl rfl rfl (by refine yT.one rfl rfl rfl rfl ?_;refine yT.one rfl rfl rfl rfl ?_;refine yT.one rfl rfl rfl rfl ?_;refine yT.one rfl rfl rfl rfl ?_;exact yT.nil) rfl rfl rfl rfl rfl ?_
 (repeat (first|refine FW.block ?_|refine zn.nil ?_|refine zG rfl rfl rfl ?_|refine YN rfl rfl rfl rfl rfl ?_))
 refine FW.loop (fun k:Nat=>⟨[(0,.list 8 (l.map OpV.fv)),(2,.ptr 102 0 0 0),(5,.eptr 1 [[r]] 0 0),(28,.list 1 [[.bnd 32 [r]],[.bnd 33 [r]],[.bnd 34 [r]],[.bnd 35 [r]]]),(29,.int .i64 4),(30,.int .i64 k)],[(102,⟨0,.own,36,5,[[.int .i64 0,.int .i64 0,.int .i64 0,.nil,.nil]]⟩)]⟩) (fun k=>k≤4∧(1≤k→WY l=none)∧(2≤k→Wz l=[])∧(3≤k→Ug l=none)∧(4≤k→Ua l=none)) (fun k=>4 - k) 0 ⟨Nat.zero_le _,by omega,by omega,by omega,by omega⟩ ?_ ?_
 ·exact (FLe.cv [⟨102,some 2,0+1,⟨0,.own,36,5,[[.int .i64 0,.int .i64 0,.int .i64 0,.nil,.nil]]⟩⟩] zf zd)
 rintro k ⟨hk,p1,p2,p3,p4⟩;refine zb ?_;refine FW.cond rfl (fun h=>?_) (fun h=>?_)
 ·have hk4:k=0∨k=1∨k=2∨k=3:=by simp at h;omega
  clear h;rcases hk4 with rfl|rfl|rfl|rfl
  ·refine zb ?_;refine zal rfl hth rfl rfl ?_;unfold zjT;cases ht:WY l with
   | some i =>
    rw [hR2];unfold ZT;rw [ht];dsimp only;unfold YS;refine zb ?_;exact FW.ret ⟨.inl rfl,.sh (.cons (zL rfl rfl rfl rfl rfl rfl zg) (.cons (.tmp 3 rfl rfl) .nil)) rfl rfl⟩
   | none =>
    refine zb ?_;refine ⟨1,⟨by omega,fun _=>by first|exact ht|rfl,by omega,by omega,by omega⟩,by omega,(FLe.cv [⟨102,some 102,0,⟨0,.own,36,5,[[.int .i64 0,.int .i64 0,.int .i64 0,.nil,.nil]]⟩⟩] zf zd)⟩
  ·have p1:=p1 za;refine zb ?_;refine zal rfl hcy rfl rfl ?_;unfold zpj;by_cases hc:Wz l=[]
   ·rw [show decide (((Wz l).length:Int) > 0)=false by rw [hc];rfl];refine zb ?_;refine ⟨2,⟨by omega,fun _=>p1,fun _=>hc,by omega,by omega⟩,by omega,(FLe.cv [⟨102,some 102,0,⟨0,.own,36,5,[[.int .i64 0,.int .i64 0,.int .i64 0,.nil,.nil]]⟩⟩] zf zd)⟩
   ·rw [show decide (((Wz l).length:Int) > 0)=true by have:=List.length_pos_iff.2 hc;simpa using this,hR2];unfold ZT;rw [p1];dsimp only;rw [if_pos hc];refine zb ?_;exact FW.ret ⟨.inl rfl,.sh (.cons (zL rfl rfl rfl rfl rfl rfl zg) (.cons (.tmp 3 rfl rfl) .nil)) rfl rfl⟩
  ·have p1:=p1 za;have p2:=p2 za;refine zb ?_;refine zal rfl hov rfl rfl ?_;unfold zje;cases ht:Ug l with
   | some w=>
    obtain ⟨w1,w2,i⟩:=w;rw [hR2];unfold ZT;rw [p1,ht];dsimp only;rw [if_neg (by simpa using p2)];unfold YS;generalize Zr l w1 w2++Zr l w2 i=X;rcases zdR 3 (X.map EdC.fv) with hX|hX <;> rw [hX]
    ·refine zb ?_;exact FW.ret ⟨.inl rfl,.sh (.cons (zL rfl rfl rfl rfl rfl rfl zg) (.cons (.tmp 3 rfl rfl) .nil)) rfl rfl⟩
    ·refine zb ?_;exact FW.ret ⟨.inl rfl,.sh (.cons (zL rfl rfl rfl rfl rfl rfl zg) (.cons (.tmp 3 rfl rfl) .nil)) rfl rfl⟩
   | none =>
    refine zb ?_;refine ⟨3,⟨by omega,fun _=>p1,fun _=>p2,fun _=>by first|exact ht|rfl,by omega⟩,by omega,(FLe.cv [⟨102,some 102,0,⟨0,.own,36,5,[[.int .i64 0,.int .i64 0,.int .i64 0,.nil,.nil]]⟩⟩] zf zd)⟩
  ·have p1:=p1 za;have p2:=p2 za;have p3:=p3 za;refine zb ?_;refine zal rfl hit rfl rfl ?_;unfold ziT;cases ht:Ua l with
   | some w=>
    obtain ⟨w,i⟩:=w;rw [hR2];unfold ZT;rw [p1,p3,ht];dsimp only;rw [if_neg (by simpa using p2)];unfold YS;generalize Zr l w i=X;rcases zdR 3 (X.map EdC.fv) with hX|hX <;> rw [hX]
    ·refine zb ?_;exact FW.ret ⟨.inl rfl,.sh (.cons (zL rfl rfl rfl rfl rfl rfl zg) (.cons (.tmp 3 rfl rfl) .nil)) rfl rfl⟩
    ·refine zb ?_;exact FW.ret ⟨.inl rfl,.sh (.cons (zL rfl rfl rfl rfl rfl rfl zg) (.cons (.tmp 3 rfl rfl) .nil)) rfl rfl⟩
   | none =>
    refine zb ?_;refine ⟨4,⟨by omega,fun _=>p1,fun _=>p2,fun _=>p3,fun _=>by first|exact ht|rfl⟩,by omega,(FLe.cv [⟨102,some 102,0,⟨0,.own,36,5,[[.int .i64 0,.int .i64 0,.int .i64 0,.nil,.nil]]⟩⟩] zf zd)⟩
 ·have hk4:k=4:=by simp at h;omega
  subst hk4;have p1:=p1 za;have p2:=p2 za;have p3:=p3 za;have p4:=p4 za;rw [hR2];unfold ZT;rw [p1,p3,p4];dsimp only;rw [if_neg (by simpa using p2)];obtain ⟨_,hO⟩:=ZZ (Yr l) p2;have hTL:=htop p2;unfold zoO;generalize yM l.length (edC l)=TT at hO hTL;have hTl:=hO.len;have hD:=UP 1 TT 39 [.eptr 1 [[r]] 0 0] (fun x=>!zK l x.toNat) za (fun x hx=>by
   have hr:=hO.rng x hx;have:=hch x.toNat za;rw [show ((x.toNat:Nat):Int)=x by omega] at this;exact this)
  rw [hTl] at hD;have hKl:=Vt (fun x=>!zK l x.toNat) TT TT.length;rw [List.take_length,hTl] at hKl;generalize xu (fun x=>!zK l x.toNat) TT=KK at hD hKl;clear hth hcy hov hit hch hb hdm;refine zb ?_;refine yl hpairs (zu.cons (.plain rfl hrh) .nil) rfl rfl ?_;refine xR hTL [(4000,105)] rfl zJ.nil rfl rfl rfl rfl rfl rfl ?_;rintro _ ob' ⟨rfl,h4⟩;refine xf.one [(105,⟨1,.own,3,1,TT.map zD⟩)] (.wrap .tup [.own 105 1 0 l.length,.bool true]) rfl (by show [(105,zq.ren _ (look {} ob' 4000))]=_;rw [h4];rfl) ?_;clear h4 ob' hTL;refine zb ?_;refine zbv rfl rfl rfl rfl rfl ?_;refine zbv rfl rfl rfl rfl rfl ?_;refine zb ?_;refine xR hD [(5000,105)] rfl (zJ.cons rfl rfl rfl zJ.nil) rfl rfl rfl rfl rfl rfl ?_;rintro _ ob' ⟨rfl,h4⟩;obtain ⟨Ze,hZe⟩:∃ Ze,(KK++List.replicate (l.length - KK.length) 0).map zD=Ze:=⟨_,rfl⟩
  have hZt:(Ze.drop 0).take KK.length=KK.map zD:=by rw [← hZe,List.drop_zero,List.map_append,List.take_left' (List.length_map _)]
  rw [hZe] at h4;refine xf.one [(105,⟨1,.own,3,1,Ze⟩)] (.own 105 1 0 KK.length) rfl (by show [(105,zq.ren _ (look {} ob' 5000))]=_;rw [h4];rfl) ?_;clear h4 ob' hD;refine zn.le ?_ (FLe.shut (i:=105) rfl);refine zn.le ?_ (FLe.list (d:=53) (i:=105) (f:=.list 1 (KK.map zD)) rfl rfl (by rw [hZt]));refine zb ?_;exact FW.ret ⟨.inl rfl,.sh (.cons (zL rfl rfl rfl rfl rfl rfl zg) (.cons (.tmp 3 rfl rfl) .nil)) rfl rfl⟩
end Go.Proofs.Ytmnmakhpjgjdaaa
