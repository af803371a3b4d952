/-
  Some texts as one: FmTopoL, FmDel, FmCauD.
-/
import Derived.Test.YtmnmakhpjgjdaaaZFmCyc2
import Derived.Test.YtmnmakhpjgjdaaaZK
import Derived.Test.YtmnmakhpjgjdaaaZD
import Derived.Test.YtmnmakhpjgjdaaaZFmW
import Derived.Test.YtmnmakhpjgjdaaaZOrderPlain
namespace Go.Proofs.Ytmnmakhpjgjdaaa
set_option linter.unusedVariables false
set_option maxHeartbeats 16000000
open Go.RowKit
theorem zhK (n:Nat) (E:List (Nat×Nat)) (hn:n≤300) (hE:E.length≤100000) (hin:InN n E) (hac:(zV n E).length=n):yB Try.prog 36 [.int .i64 n,.list 2 (E.map edf)] [] [4000] (fun res o=>res=.wrap .tup [.own 4000 1 0 n,.bool true]∧o 4000=⟨1,.own,3,1,(zV n E).map zp⟩):=by
 refine yB.of_body (c:=(xT Try.prog zE zt 104)) ⟨Try.func36,rfl,Try.ntmps36,by kernel_rfl⟩ zw ?_ ?_
 ·rintro res o ⟨rfl,h⟩
  exact ⟨(fun k hk=>by cases hk),(fun k hk=>by obtain rfl:=List.mem_singleton.1 hk;rw [h];exact ⟨Nat.zero_lt_one,fun _=>rfl⟩),(fun k hk=>by obtain rfl:=List.mem_singleton.1 hk;rw [h];rfl),rfl⟩
 change FW _ _ _ ⟨[(0,.int .i64 n),(1,.list 2 (E.map edf))],[]⟩
 have hrl:=yh n E
 have hrn:=fun v (hv:v<n)=>xR E hv
 refine zb ?_
 refine yL (xG n E za za hin) (by repeat (first|exact zA.nil|refine zA.cons zy ?_)) rfl rfl ?_
 rw [Us]
 refine zb ?_
 rw [show List.replicate n [FV.int .i64 0]=(List.replicate n 0).map zp by rw [List.map_replicate];rfl]
 refine FW.loop (fun i:Nat=>⟨[(0,.int .i64 n),(6,.list 1 ((zG n E).map Zp)),(7,.own 100 0 0 n),(26,.list 1 ((zG n E).map Zp)),(27,.int .i64 n),(28,.int .i64 i)],[(100,⟨0,.own,3,1,(Zf n E i).map zp⟩)]⟩) (fun i=>i≤n) (fun i=>n - i) 0 (Nat.zero_le _) ?_ ?_
 ·rw [hrl,show Zf n E 0=List.replicate n 0 from rfl]
  obtain ⟨z,hz⟩:∃ z,(List.replicate n (0:Int)).map zp=z:=⟨_,rfl⟩
  rw [hz]
  exact (FLe.cv [⟨100,some 25,0+1,⟨0,.own,3,1,z⟩⟩] (by repeat (first|exact .nil|refine .old rfl zc rfl ?_)) (by repeat (first|exact .nil|refine .cons (.plain rfl rfl rfl) ?_|refine .cons (.own rfl (.head _) rfl rfl) ?_)))
 intro i hi
 obtain ⟨hml,hmb⟩:=zal hin i
 refine zb ?_
 refine FW.cond rfl (fun h=>?_) (fun h=>?_)
 ·have hlt:i<n:=by simpa using h
  clear h
  have hsl:=ZI E i
  have hms:=zam n E hlt
  refine zb ?_
  rw [hrn i hlt]
  skip
  generalize Zf n E i=M at hml hmb hms
  refine FW.loop (fun j:Nat=>⟨[(0,.int .i64 n),(6,.list 1 ((zG n E).map Zp)),(7,.own 100 0 0 n),(26,.list 1 ((zG n E).map Zp)),(27,.int .i64 n),(28,.int .i64 i),(32,.list 1 ((zj E i).map zp)),(33,.int .i64 (zj E i).length),(34,.int .i64 j)],[(100,⟨0,.own,3,1,(((zj E i).take j).foldl WB M).map zp⟩)]⟩) (fun j=>j≤(zj E i).length) (fun j=>(zj E i).length - j) 0 (Nat.zero_le _) ?_ ?_
  ·show FLe _ ⟨[(0,.int .i64 n),(6,.list 1 ((zG n E).map Zp)),(7,.own 100 0 0 n),(26,.list 1 ((zG n E).map Zp)),(27,.int .i64 n),(28,.int .i64 i),(32,.list 1 ((zj E i).map zp)),(33,.int .i64 (zj E i).length),(34,.int .i64 0)],[(100,⟨0,.own,3,1,M.map zp⟩)]⟩
   exact (FLe.cv [⟨100,some 100,0,⟨0,.own,3,1,M.map zp⟩⟩] (by repeat (first|exact .nil|refine .old rfl zc rfl ?_)) (by repeat (first|exact .nil|refine .cons (.plain rfl rfl rfl) ?_|refine .cons (.own rfl (.head _) rfl rfl) ?_)))
  intro j hj
  refine zb ?_
  refine FW.cond rfl (fun h=>?_) (fun h=>?_)
  ·have hlt2:j<(zj E i).length:=by simpa using h
   clear h
   obtain ⟨w,hw⟩:∃ w:Nat,nth (zj E i) j=w:=⟨(nth (zj E i) j).toNat,by have:=(yb hin (zu hlt2)).1;omega⟩
   have hwn:w<n:=by have:=(yb hin (zu hlt2)).2;omega
   have hst:((zj E i).take (j+1)).foldl WB M=(((zj E i).take j).foldl WB M).set w (nth (((zj E i).take j).foldl WB M) w+1):=by
    rw [List.take_succ_eq_append_getElem hlt2,List.foldl_append,← nth_eq hlt2,hw];rfl
   have hbd:0≤nth (((zj E i).take j).foldl WB M) w∧nth (((zj E i).take j).foldl WB M) w≤n+1:=by
    rw [WD (n:=n) (List.Nodup.sublist (List.take_sublist _ _) (xw E i)) (fun q hq=>yb hin (List.mem_of_mem_take hq)) hml w hwn]
    have:=hmb w hwn
    split <;> omega
   have hzl:(((zj E i).take j).foldl WB M).length=n:=by rw [WC];exact hml
   obtain ⟨Z,hZ⟩:∃ Z,((zj E i).take j).foldl WB M=Z:=⟨_,rfl⟩
   rw [hZ] at hst hbd hzl ⊢
   refine zb ?_
   rw [hw,Int.toNat_natCast]
   refine zb ?_
   rw [show (zp (nth Z w)).set 0 (.int .i64 (nth Z w+1))=zp (nth Z w+1) from rfl,← List.map_set,← hst]
   skip
   refine ⟨j+1,by omega,by omega,?_⟩
   obtain ⟨Y,hY⟩:∃ Y,(((zj E i).take (j+1)).foldl WB M).map zp=Y:=⟨_,rfl⟩
   rw [hY]
   exact (FLe.cv [⟨100,some 100,0,⟨0,.own,3,1,Y⟩⟩] (by repeat (first|exact .nil|refine .old rfl zc rfl ?_)) (by repeat (first|exact .nil|refine .cons (.plain rfl rfl rfl) ?_|refine .cons (.own rfl (.head _) rfl rfl) ?_)))
  ·obtain rfl:j=(zj E i).length:=by simp at h;omega
   clear h hj
   rw [List.take_length,← hms]
   refine zb ?_
   refine ⟨i+1,by omega,by omega,?_⟩
   exact (FLe.cv [⟨100,some 100,0,⟨0,.own,3,1,(Zf n E (i+1)).map zp⟩⟩] (by repeat (first|exact .nil|refine .old rfl zc rfl ?_)) (by repeat (first|exact .nil|refine .cons (.plain rfl rfl rfl) ?_|refine .cons (.own rfl (.head _) rfl rfl) ?_)))
 ·obtain rfl:i=n:=by simp at h;omega
  clear h hi hml hmb
  rw [zbK]
  obtain ⟨hml,hmc⟩:=Vs hin
  have hcb:∀ w,zco i E [] w≤i:=fun w=>by
   have:zco i E [] w≤(List.range i).length:=List.countP_le_length
   rwa [List.length_range] at this
  refine zb ?_
  refine zjt (f:=.own 46 (0+1) 0 0) rfl (.inr (.inl ⟨_,_,_,_,rfl,⟨by show ya.own≠.dead;decide,rfl⟩⟩)) rfl rfl rfl ?_
  refine zaB rfl rfl rfl rfl rfl ?_
  refine zb ?_
  obtain ⟨n,hni⟩:∃ n,i=n:=⟨_,rfl⟩
  subst hni
  generalize hMM:zak i E=M at hml hmc
  obtain ⟨n,hni⟩:∃ n,n=i:=⟨_,rfl⟩
  subst hni
  refine FW.loop (fun k:Nat=>⟨[(0,.int .i64 n),(6,.list 1 ((zG n E).map Zp)),(7,.own 100 0 0 n),(12,.ptr 110 0 0 0),(13,.wrap (.fn 60) [.ptr 110 0 0 0]),(49,.own 100 0 0 n),(50,.int .i64 n),(51,.int .i64 k)],[(100,⟨0,.own,3,1,M.map zp⟩),(110,⟨0,.hrow,96,1,[[.ptr 111 0 0 0]]⟩),(111,⟨0,.hrow,97,1,[[.own 112 0 0 (yI M k).length]]⟩),(112,⟨0,.own,3,1,(yI M k).map zp⟩)]⟩) (fun k=>k≤n) (fun k=>n - k) 0 (Nat.zero_le _) ?_ ?_
  ·show FLe _ ⟨[(0,.int .i64 n),(6,.list 1 ((zG n E).map Zp)),(7,.own 100 0 0 n),(12,.ptr 110 0 0 0),(13,.wrap (.fn 60) [.ptr 110 0 0 0]),(49,.own 100 0 0 n),(50,.int .i64 n),(51,.int .i64 0)],[(100,⟨0,.own,3,1,M.map zp⟩),(110,⟨0,.hrow,96,1,[[.ptr 111 0 0 0]]⟩),(111,⟨0,.hrow,97,1,[[.own 112 0 0 0]]⟩),(112,⟨0,.own,3,1,[]⟩)]⟩
   exact (FLe.cv [⟨100,some 100,0,⟨0,.own,3,1,M.map zp⟩⟩,⟨110,some 12,0+1,⟨0,.hrow,96,1,[[.ptr 111 0 0 0]]⟩⟩,⟨111,some 47,0+1,⟨0,.hrow,97,1,[[.own 112 0 0 0]]⟩⟩,⟨112,some 46,0+1,⟨0,.own,3,1,[]⟩⟩] (by repeat (first|exact .nil|refine .old rfl zc rfl ?_|refine .oldH rfl (by repeat (first|exact .nil|refine .cons (.ptr (.tail _ (.tail _ (.head _))) rfl) ?_|refine .cons (.own (.tail _ (.tail _ (.tail _ (.head _)))) rfl rfl rfl) ?_)) ?_)) (by repeat (first|exact .nil|refine .cons (.plain rfl rfl rfl) ?_|refine .cons (.own rfl (.head _) rfl rfl) ?_|refine .cons (.ptr rfl (.tail _ (.head _)) rfl) ?_|refine .cons (.wrap rfl (by repeat (first|exact zf.nil|refine zf.cons (.plain rfl rfl) ?_|refine zf.cons (.ptr (.head _) rfl) ?_|refine zf.cons (.own (.head _) rfl rfl rfl) ?_|refine zf.cons (.omap (.head _) rfl) ?_|refine zf.cons (.ptr (.tail _ (.head _)) rfl) ?_|refine zf.cons (.own (.tail _ (.head _)) rfl rfl rfl) ?_|refine zf.cons (.omap (.tail _ (.head _)) rfl) ?_|refine zf.cons (.ptr (.tail _ (.tail _ (.head _))) rfl) ?_|refine zf.cons (.own (.tail _ (.tail _ (.head _))) rfl rfl rfl) ?_|refine zf.cons (.omap (.tail _ (.tail _ (.head _))) rfl) ?_|refine zf.cons (.ptr (.tail _ (.tail _ (.tail _ (.head _)))) rfl) ?_|refine zf.cons (.own (.tail _ (.tail _ (.tail _ (.head _)))) rfl rfl rfl) ?_|refine zf.cons (.omap (.tail _ (.tail _ (.tail _ (.head _)))) rfl) ?_))) ?_)))
  intro k hk
  refine zb ?_
  refine FW.cond rfl (fun h=>?_) (fun h=>?_)
  ·have hlt:k<n:=by simpa using h
   clear h
   have hmk:=hmc k hlt
   have hck:=hcb k
   have hrs:yI M (k+1)=if nth M k=0 then Zz (yI M k) k else yI M k:=by
    unfold yI
    rw [List.range_succ,List.foldl_append];rfl
   have hrl:(yI M k).length≤k:=xD (xP M k).2.1 fun x hx=>(((xP M k).2.2 x).1 hx).1
   obtain ⟨H,hH⟩:∃ H,yI M k=H:=⟨_,rfl⟩
   rw [hH] at hrs hrl ⊢
   refine zb ?_
   refine FW.cond rfl (fun h=>?_) (fun h=>?_)
   ·rw [if_pos (by simpa using h)] at hrs
    refine zb ?_
    refine WU rfl (YC 0 0 0 H k za) [(5002,110),(5000,111),(5001,112)] rfl (zq.cons rfl rfl rfl (zq.cons rfl rfl rfl (zq.cons rfl rfl rfl zq.nil))) rfl rfl rfl rfl rfl rfl ?_
    rintro _ ob' ⟨rfl,h2,h0,h1⟩
    refine yM.one [(110,⟨0,.hrow,96,1,[[.ptr 111 0 0 0]]⟩),(111,⟨0,.hrow,97,1,[[.own 112 (0+1) 0 (H.length+1)]]⟩),(112,⟨0+1,.own,3,1,(Zz H k).map zp⟩)] (.tup []) rfl (by show [(110,zm.ren _ (look {} ob' 5002)),(111,zm.ren _ (look {} ob' 5000)),(112,zm.ren _ (look {} ob' 5001))]=_;rw [h2,h0,h1];rfl) ?_
    clear h2 h0 h1 ob'
    refine zb ?_
    refine ⟨k+1,by omega,by omega,?_⟩
    rw [hrs]
    have hpl:=YV H k
    generalize Zz H k=Y at hpl
    rw [hpl]
    exact (FLe.cv [⟨100,some 100,0,⟨0,.own,3,1,M.map zp⟩⟩,⟨110,some 110,0,⟨0,.hrow,96,1,[[.ptr 111 0 0 0]]⟩⟩,⟨111,some 111,0,⟨0,.hrow,97,1,[[.own 112 0 0 (H.length+1)]]⟩⟩,⟨112,some 112,0+1,⟨0,.own,3,1,Y.map zp⟩⟩] (by repeat (first|exact .nil|refine .old rfl zc rfl ?_|refine .oldH rfl (by repeat (first|exact .nil|refine .cons (.ptr (.tail _ (.tail _ (.head _))) rfl) ?_|refine .cons (.own (.tail _ (.tail _ (.tail _ (.head _)))) rfl rfl rfl) ?_)) ?_)) (by repeat (first|exact .nil|refine .cons (.plain rfl rfl rfl) ?_|refine .cons (.own rfl (.head _) rfl rfl) ?_|refine .cons (.ptr rfl (.tail _ (.head _)) rfl) ?_|refine .cons (.wrap rfl (by repeat (first|exact zf.nil|refine zf.cons (.plain rfl rfl) ?_|refine zf.cons (.ptr (.head _) rfl) ?_|refine zf.cons (.own (.head _) rfl rfl rfl) ?_|refine zf.cons (.omap (.head _) rfl) ?_|refine zf.cons (.ptr (.tail _ (.head _)) rfl) ?_|refine zf.cons (.own (.tail _ (.head _)) rfl rfl rfl) ?_|refine zf.cons (.omap (.tail _ (.head _)) rfl) ?_|refine zf.cons (.ptr (.tail _ (.tail _ (.head _))) rfl) ?_|refine zf.cons (.own (.tail _ (.tail _ (.head _))) rfl rfl rfl) ?_|refine zf.cons (.omap (.tail _ (.tail _ (.head _))) rfl) ?_|refine zf.cons (.ptr (.tail _ (.tail _ (.tail _ (.head _)))) rfl) ?_|refine zf.cons (.own (.tail _ (.tail _ (.tail _ (.head _)))) rfl rfl rfl) ?_|refine zf.cons (.omap (.tail _ (.tail _ (.tail _ (.head _)))) rfl) ?_))) ?_)))
   ·rw [if_neg (by simpa using h)] at hrs
    refine zb ?_
    refine ⟨k+1,by omega,by omega,?_⟩
    rw [hrs]
    exact (FLe.cv [⟨100,some 100,0,⟨0,.own,3,1,M.map zp⟩⟩,⟨110,some 110,0,⟨0,.hrow,96,1,[[.ptr 111 0 0 0]]⟩⟩,⟨111,some 111,0,⟨0,.hrow,97,1,[[.own 112 0 0 H.length]]⟩⟩,⟨112,some 112,0,⟨0,.own,3,1,H.map zp⟩⟩] (by repeat (first|exact .nil|refine .old rfl zc rfl ?_|refine .oldH rfl (by repeat (first|exact .nil|refine .cons (.ptr (.tail _ (.tail _ (.head _))) rfl) ?_|refine .cons (.own (.tail _ (.tail _ (.tail _ (.head _)))) rfl rfl rfl) ?_)) ?_)) (by repeat (first|exact .nil|refine .cons (.plain rfl rfl rfl) ?_|refine .cons (.own rfl (.head _) rfl rfl) ?_|refine .cons (.ptr rfl (.tail _ (.head _)) rfl) ?_|refine .cons (.wrap rfl (by repeat (first|exact zf.nil|refine zf.cons (.plain rfl rfl) ?_|refine zf.cons (.ptr (.head _) rfl) ?_|refine zf.cons (.own (.head _) rfl rfl rfl) ?_|refine zf.cons (.omap (.head _) rfl) ?_|refine zf.cons (.ptr (.tail _ (.head _)) rfl) ?_|refine zf.cons (.own (.tail _ (.head _)) rfl rfl rfl) ?_|refine zf.cons (.omap (.tail _ (.head _)) rfl) ?_|refine zf.cons (.ptr (.tail _ (.tail _ (.head _))) rfl) ?_|refine zf.cons (.own (.tail _ (.tail _ (.head _))) rfl rfl rfl) ?_|refine zf.cons (.omap (.tail _ (.tail _ (.head _))) rfl) ?_|refine zf.cons (.ptr (.tail _ (.tail _ (.tail _ (.head _)))) rfl) ?_|refine zf.cons (.own (.tail _ (.tail _ (.tail _ (.head _)))) rfl rfl rfl) ?_|refine zf.cons (.omap (.tail _ (.tail _ (.tail _ (.head _)))) rfl) ?_))) ?_)))
  ·obtain rfl:k=n:=by simp at h;omega
   clear h hk
   have hTI:=TI.start hin
   have hst:yf k E=⟨M,yI M k,[]⟩:=by unfold yf;rw [hMM]
   have hend:(zS E (k+1) (yf k E)).out=zV k E:=rfl
   rw [hst] at hTI hend
   refine zb ?_
   obtain ⟨n,hni⟩:∃ n,n=k:=⟨_,rfl⟩
   subst hni
   generalize yI M n=H at hTI hend
   clear hMM hst hcb hmc hml
   refine FW.loop (fun s:zbl=>⟨[(0,.int .i64 n),(6,.list 1 ((zG n E).map Zp)),(7,.own 100 0 0 n),(12,.ptr 110 0 0 0),(13,.wrap (.fn 60) [.ptr 110 0 0 0]),(16,.own 101 0 0 s.out.length),(17,.wrap (.bound 62) [.ptr 111 0 0 0])],[(101,⟨0,.own,3,1,s.out.map zp⟩),(100,⟨0,.own,3,1,s.m.map zp⟩),(110,⟨0,.hrow,96,1,[[.ptr 111 0 0 0]]⟩),(111,⟨0,.hrow,97,1,[[.own 112 0 0 s.h.length]]⟩),(112,⟨0,.own,3,1,s.h.map zp⟩)]⟩) (fun s=>TI n E s∧∃ k,n<s.out.length+k∧(zS E k s).out=zV n E) (fun s=>n - s.out.length) ⟨M,H,[]⟩ ⟨hTI,n+1,by show n<0+(n+1);omega,hend⟩ ?_ ?_
   ·show FLe _ ⟨[(0,.int .i64 n),(6,.list 1 ((zG n E).map Zp)),(7,.own 100 0 0 n),(12,.ptr 110 0 0 0),(13,.wrap (.fn 60) [.ptr 110 0 0 0]),(16,.own 101 0 0 0),(17,.wrap (.bound 62) [.ptr 111 0 0 0])],[(101,⟨0,.own,3,1,[]⟩),(100,⟨0,.own,3,1,M.map zp⟩),(110,⟨0,.hrow,96,1,[[.ptr 111 0 0 0]]⟩),(111,⟨0,.hrow,97,1,[[.own 112 0 0 H.length]]⟩),(112,⟨0,.own,3,1,H.map zp⟩)]⟩
    exact (FLe.cv [⟨101,none,0,⟨0,.own,3,1,[]⟩⟩,⟨100,some 100,0,⟨0,.own,3,1,M.map zp⟩⟩,⟨110,some 110,0,⟨0,.hrow,96,1,[[.ptr 111 0 0 0]]⟩⟩,⟨111,some 111,0,⟨0,.hrow,97,1,[[.own 112 0 0 H.length]]⟩⟩,⟨112,some 112,0,⟨0,.own,3,1,H.map zp⟩⟩] (by repeat (first|exact .nil|refine .old rfl zc rfl ?_|refine .oldH rfl (by repeat (first|exact .nil|refine .cons (.ptr (.tail _ (.tail _ (.tail _ (.head _)))) rfl) ?_|refine .cons (.own (.tail _ (.tail _ (.tail _ (.tail _ (.head _))))) rfl rfl rfl) ?_)) ?_|refine .new ?_)) (by repeat (first|exact .nil|refine .cons (.plain rfl rfl rfl) ?_|refine .cons (.nil rfl (.head _) rfl) ?_|refine .cons (.own rfl (.tail _ (.head _)) rfl rfl) ?_|refine .cons (.ptr rfl (.tail _ (.tail _ (.head _))) rfl) ?_|refine .cons (.wrap rfl (by repeat (first|exact zf.nil|refine zf.cons (.plain rfl rfl) ?_|refine zf.cons (.ptr (.head _) rfl) ?_|refine zf.cons (.own (.head _) rfl rfl rfl) ?_|refine zf.cons (.omap (.head _) rfl) ?_|refine zf.cons (.ptr (.tail _ (.head _)) rfl) ?_|refine zf.cons (.own (.tail _ (.head _)) rfl rfl rfl) ?_|refine zf.cons (.omap (.tail _ (.head _)) rfl) ?_|refine zf.cons (.ptr (.tail _ (.tail _ (.head _))) rfl) ?_|refine zf.cons (.own (.tail _ (.tail _ (.head _))) rfl rfl rfl) ?_|refine zf.cons (.omap (.tail _ (.tail _ (.head _))) rfl) ?_|refine zf.cons (.ptr (.tail _ (.tail _ (.tail _ (.head _)))) rfl) ?_|refine zf.cons (.own (.tail _ (.tail _ (.tail _ (.head _)))) rfl rfl rfl) ?_|refine zf.cons (.omap (.tail _ (.tail _ (.tail _ (.head _)))) rfl) ?_|refine zf.cons (.ptr (.tail _ (.tail _ (.tail _ (.tail _ (.head _))))) rfl) ?_|refine zf.cons (.own (.tail _ (.tail _ (.tail _ (.tail _ (.head _))))) rfl rfl rfl) ?_|refine zf.cons (.omap (.tail _ (.tail _ (.tail _ (.tail _ (.head _))))) rfl) ?_))) ?_)))
   clear hTI hend M H
   rintro ⟨m,h,out⟩ ⟨hTI,fu,hfu,hend⟩
   dsimp only at hfu hend ⊢
   have hhl:h.length≤n:=hTI.hle
   have hml:m.length=n:=hTI.len
   have hol:out.length≤n:=hTI.le
   refine zb ?_
   refine zel rfl (Xz 0 0 h) [(5000,111),(5001,112)] rfl (zq.cons rfl rfl rfl (zq.cons rfl rfl rfl zq.nil)) rfl rfl rfl rfl rfl rfl ?_
   rintro _ ob' ⟨rfl,h1,h2⟩
   refine yM.one [(111,⟨0,.hrow,97,1,[[.own 112 0 0 h.length]]⟩),(112,⟨0,.own,3,1,h.map zp⟩)] (.int .i64 h.length) rfl (by show [(111,zm.ren _ (look {} ob' 5000)),(112,zm.ren _ (look {} ob' 5001))]=_;rw [h1,h2];rfl) ?_
   clear h1 h2 ob'
   refine zb ?_
   refine FW.cond rfl (fun hc=>?_) (fun hc=>?_)
   ·obtain ⟨k,hk⟩:∃ k,h.length=k+1:=⟨h.length - 1,by simp at hc;omega⟩
    clear hc
    refine zb ?_
    refine xq (zbB 0 0 h k hk za) [(5000,111),(5001,112)] rfl (zq.cons rfl rfl rfl (zq.cons rfl rfl rfl zq.nil)) rfl rfl rfl rfl rfl rfl ?_
    rintro _ ob' ⟨rfl,h1,h2⟩
    refine yM.one [(111,⟨0,.hrow,97,1,[[.own 112 (0+1) 0 k]]⟩),(112,⟨0+1,.own,3,1,((yC h k).take k).map zp⟩)] (.iface 3 (.int .i64 (nth (yC h k) k))) rfl (by show [(111,zm.ren _ (look {} ob' 5000)),(112,zm.ren _ (look {} ob' 5001))]=_;rw [h1,h2];rfl) ?_
    clear h1 h2 ob'
    obtain ⟨v,hv,hvn,hvo,hm0,hmin,hDI,hN,hR⟩:=hTI.first hk
    dsimp only at hv hvo hm0 hmin hDI hN hR
    rw [hv]
    have hstep:yx E ⟨m,h,out⟩=⟨((zj E v).foldl decr (m,(yC h k).take k)).1,((zj E v).foldl decr (m,(yC h k).take k)).2,out++[(v:Int)]⟩:=by
     unfold yx
     dsimp only
     rw [show h.length - 1=k by omega,hv];rfl
    have hTI':=hTI.step hin (by rintro e;rw [show h=[] from e] at hk;simp at hk)
    rw [hstep] at hTI'
    have hend' : ∀ f,fu=f+1→(zS E f (yx E ⟨m,h,out⟩)).out=zV n E:=fun f hf=>by
     subst hf
     rw [← hend]
     exact (congrArg zbl.out (show zS E (f+1) ⟨m,h,out⟩=zS E f (yx E ⟨m,h,out⟩) from if_neg (by rintro e;rw [show h=[] from e] at hk;simp at hk))).symm
    rw [hstep] at hend'
    have hsl:=ZI E v
    refine zb ?_
    rw [hrn v hvn]
    obtain ⟨O,hO⟩:∃ O,out++[(v:Int)]=O:=⟨_,rfl⟩
    obtain ⟨Om,hOm⟩:∃ Om,out.map zp++[[.int .i64 v]]=Om:=⟨_,rfl⟩
    have hOO:O.map zp=Om:=by rw [← hO,← hOm,List.map_append];rfl
    have hOl:Om.length=O.length:=by rw [← hOO,List.length_map]
    have hOl2:O.length=out.length+1:=by rw [← hO];simp
    rw [hO] at hDI hN hR hTI' hend'
    rw [hOm,hOl]
    have htl:((yC h k).take k).length=k:=by rw [List.length_take,WA];omega
    obtain ⟨H0,hH0⟩:∃ H0,(yC h k).take k=H0:=⟨_,rfl⟩
    rw [hH0] at hDI htl hTI' hend' ⊢
    clear hstep hH0 hv hmin
    refine FW.loop (fun j:Nat=>⟨[(0,.int .i64 n),(6,.list 1 ((zG n E).map Zp)),(7,.own 100 0 0 n),(12,.ptr 110 0 0 0),(13,.wrap (.fn 60) [.ptr 110 0 0 0]),(16,.own 101 0 0 O.length),(17,.wrap (.bound 62) [.ptr 111 0 0 0]),(78,.list 1 ((zj E v).map zp)),(79,.int .i64 (zj E v).length),(80,.int .i64 j)],[(101,⟨0,.own,3,1,O.map zp⟩),(100,⟨0,.own,3,1,(((zj E v).take j).foldl decr (m,H0)).1.map zp⟩),(110,⟨0,.hrow,96,1,[[.ptr 111 0 0 0]]⟩),(111,⟨0,.hrow,97,1,[[.own 112 0 0 (((zj E v).take j).foldl decr (m,H0)).2.length]]⟩),(112,⟨0,.own,3,1,(((zj E v).take j).foldl decr (m,H0)).2.map zp⟩)]⟩) (fun j=>j≤(zj E v).length) (fun j=>(zj E v).length - j) 0 (Nat.zero_le _) ?_ ?_
    ·show FLe _ ⟨[(0,.int .i64 n),(6,.list 1 ((zG n E).map Zp)),(7,.own 100 0 0 n),(12,.ptr 110 0 0 0),(13,.wrap (.fn 60) [.ptr 110 0 0 0]),(16,.own 101 0 0 O.length),(17,.wrap (.bound 62) [.ptr 111 0 0 0]),(78,.list 1 ((zj E v).map zp)),(79,.int .i64 (zj E v).length),(80,.int .i64 0)],[(101,⟨0,.own,3,1,O.map zp⟩),(100,⟨0,.own,3,1,m.map zp⟩),(110,⟨0,.hrow,96,1,[[.ptr 111 0 0 0]]⟩),(111,⟨0,.hrow,97,1,[[.own 112 0 0 H0.length]]⟩),(112,⟨0,.own,3,1,H0.map zp⟩)]⟩
     rw [← hOO,htl]
     exact (FLe.cv [⟨101,some 74,0+1,⟨0,.own,3,1,O.map zp⟩⟩,⟨100,some 100,0,⟨0,.own,3,1,m.map zp⟩⟩,⟨110,some 110,0,⟨0,.hrow,96,1,[[.ptr 111 0 0 0]]⟩⟩,⟨111,some 111,0,⟨0,.hrow,97,1,[[.own 112 0 0 k]]⟩⟩,⟨112,some 112,0+1,⟨0,.own,3,1,H0.map zp⟩⟩] (by repeat (first|exact .nil|refine .old rfl zc rfl ?_|refine .oldH rfl (by repeat (first|exact .nil|refine .cons (.ptr (.tail _ (.tail _ (.tail _ (.head _)))) rfl) ?_|refine .cons (.own (.tail _ (.tail _ (.tail _ (.tail _ (.head _))))) rfl rfl rfl) ?_)) ?_)) (by repeat (first|exact .nil|refine .cons (.plain rfl rfl rfl) ?_|refine .cons (.own rfl (.head _) rfl rfl) ?_|refine .cons (.own rfl (.tail _ (.head _)) rfl rfl) ?_|refine .cons (.ptr rfl (.tail _ (.tail _ (.head _))) rfl) ?_|refine .cons (.wrap rfl (by repeat (first|exact zf.nil|refine zf.cons (.plain rfl rfl) ?_|refine zf.cons (.ptr (.head _) rfl) ?_|refine zf.cons (.own (.head _) rfl rfl rfl) ?_|refine zf.cons (.omap (.head _) rfl) ?_|refine zf.cons (.ptr (.tail _ (.head _)) rfl) ?_|refine zf.cons (.own (.tail _ (.head _)) rfl rfl rfl) ?_|refine zf.cons (.omap (.tail _ (.head _)) rfl) ?_|refine zf.cons (.ptr (.tail _ (.tail _ (.head _))) rfl) ?_|refine zf.cons (.own (.tail _ (.tail _ (.head _))) rfl rfl rfl) ?_|refine zf.cons (.omap (.tail _ (.tail _ (.head _))) rfl) ?_|refine zf.cons (.ptr (.tail _ (.tail _ (.tail _ (.head _)))) rfl) ?_|refine zf.cons (.own (.tail _ (.tail _ (.tail _ (.head _)))) rfl rfl rfl) ?_|refine zf.cons (.omap (.tail _ (.tail _ (.tail _ (.head _)))) rfl) ?_|refine zf.cons (.ptr (.tail _ (.tail _ (.tail _ (.tail _ (.head _))))) rfl) ?_|refine zf.cons (.own (.tail _ (.tail _ (.tail _ (.tail _ (.head _))))) rfl rfl rfl) ?_|refine zf.cons (.omap (.tail _ (.tail _ (.tail _ (.tail _ (.head _))))) rfl) ?_))) ?_)))
    intro j hj
    have hDj:=DI.fold (r1:=(zj E v).take j) (r2:=(zj E v).drop j) hR (by rw [List.take_append_drop];exact hDI) (by rw [List.take_append_drop];exact xw E v) (by rw [List.take_append_drop];exact fun w hw=>yb hin hw)
    have hst:∀ hl:j<(zj E v).length,((zj E v).take (j+1)).foldl decr (m,H0)=decr (((zj E v).take j).foldl decr (m,H0)) (nth (zj E v) j):=fun hl=>by
     rw [List.take_succ_eq_append_getElem hl,List.foldl_append,← nth_eq hl];rfl
    have hlast:j=(zj E v).length→(zj E v).foldl decr (m,H0)=((zj E v).take j).foldl decr (m,H0):=fun e=>by rw [e,List.take_length]
    generalize ((zj E v).take j).foldl decr (m,H0)=q at hDj hst hlast
    obtain ⟨qm,qh⟩:=q
    have hql:qm.length=n:=hDj.len
    have hqh:qh.length≤n:=xD hDj.hN fun x hx=>((hDj.hM x).1 hx).1
    dsimp only
    refine zb ?_
    refine FW.cond rfl (fun hc=>?_) (fun hc=>?_)
    ·have hlt2:j<(zj E v).length:=by simpa using hc
     clear hc hlast
     have hst:=hst hlt2
     obtain ⟨w,hw⟩:∃ w:Nat,nth (zj E v) j=w:=⟨(nth (zj E v) j).toNat,by have:=(yb hin (zu hlt2)).1;omega⟩
     have hwn:w<n:=by have:=(yb hin (zu hlt2)).2;omega
     have hbd:0≤nth qm w∧nth qm w≤n+1:=by
      have h1:=hDj.cnt w hwn
      have h2:zco n E O w≤(List.range n).length:=List.countP_le_length
      rw [List.length_range] at h2
      dsimp only at h1
      rw [h1]
      split <;> omega
     have hdec:decr (qm,qh) (w:Int)=(qm.set w (nth qm w - 1),if nth qm w - 1=0 then Zz qh w else qh):=by unfold decr;rw [Int.toNat_natCast]
     rw [hw,hdec] at hst
     obtain ⟨Z,hZ⟩:∃ Z,qm.set w (nth qm w - 1)=Z:=⟨_,rfl⟩
     have hZl:Z.length=n:=by rw [← hZ];simpa using hql
     have hZw:nth Z w=nth qm w - 1:=by rw [← hZ];exact zF za
     rw [hZ] at hst
     refine zb ?_
     rw [hw,Int.toNat_natCast]
     refine zb ?_
     rw [show (zp (nth qm w)).set 0 (.int .i64 (nth qm w - 1))=zp (nth qm w - 1) from rfl,← List.map_set,hZ]
     refine zb ?_
     rw [hZw]
     skip
     refine FW.cond rfl (fun hc=>?_) (fun hc=>?_)
     ·rw [if_pos (by simpa using hc)] at hst
      refine zb ?_
      refine WU rfl (YC 0 0 0 qh w za) [(5002,110),(5000,111),(5001,112)] rfl (zq.cons rfl rfl rfl (zq.cons rfl rfl rfl (zq.cons rfl rfl rfl zq.nil))) rfl rfl rfl rfl rfl rfl ?_
      rintro _ ob' ⟨rfl,h2,h0,h1⟩
      refine yM.one [(110,⟨0,.hrow,96,1,[[.ptr 111 0 0 0]]⟩),(111,⟨0,.hrow,97,1,[[.own 112 (0+1) 0 (qh.length+1)]]⟩),(112,⟨0+1,.own,3,1,(Zz qh w).map zp⟩)] (.tup []) rfl (by show [(110,zm.ren _ (look {} ob' 5002)),(111,zm.ren _ (look {} ob' 5000)),(112,zm.ren _ (look {} ob' 5001))]=_;rw [h2,h0,h1];rfl) ?_
      clear h2 h0 h1 ob'
      refine zb ?_
      refine ⟨j+1,by omega,by omega,?_⟩
      rw [hst]
      dsimp only
      have hpl:=YV qh w
      generalize Zz qh w=Y at hpl
      rw [hpl]
      exact (FLe.cv [⟨101,some 101,0,⟨0,.own,3,1,O.map zp⟩⟩,⟨100,some 100,0,⟨0,.own,3,1,Z.map zp⟩⟩,⟨110,some 110,0,⟨0,.hrow,96,1,[[.ptr 111 0 0 0]]⟩⟩,⟨111,some 111,0,⟨0,.hrow,97,1,[[.own 112 0 0 (qh.length+1)]]⟩⟩,⟨112,some 112,0+1,⟨0,.own,3,1,Y.map zp⟩⟩] (by repeat (first|exact .nil|refine .old rfl zc rfl ?_|refine .oldH rfl (by repeat (first|exact .nil|refine .cons (.ptr (.tail _ (.tail _ (.tail _ (.head _)))) rfl) ?_|refine .cons (.own (.tail _ (.tail _ (.tail _ (.tail _ (.head _))))) rfl rfl rfl) ?_)) ?_)) (by repeat (first|exact .nil|refine .cons (.plain rfl rfl rfl) ?_|refine .cons (.own rfl (.head _) rfl rfl) ?_|refine .cons (.own rfl (.tail _ (.head _)) rfl rfl) ?_|refine .cons (.ptr rfl (.tail _ (.tail _ (.head _))) rfl) ?_|refine .cons (.wrap rfl (by repeat (first|exact zf.nil|refine zf.cons (.plain rfl rfl) ?_|refine zf.cons (.ptr (.head _) rfl) ?_|refine zf.cons (.own (.head _) rfl rfl rfl) ?_|refine zf.cons (.omap (.head _) rfl) ?_|refine zf.cons (.ptr (.tail _ (.head _)) rfl) ?_|refine zf.cons (.own (.tail _ (.head _)) rfl rfl rfl) ?_|refine zf.cons (.omap (.tail _ (.head _)) rfl) ?_|refine zf.cons (.ptr (.tail _ (.tail _ (.head _))) rfl) ?_|refine zf.cons (.own (.tail _ (.tail _ (.head _))) rfl rfl rfl) ?_|refine zf.cons (.omap (.tail _ (.tail _ (.head _))) rfl) ?_|refine zf.cons (.ptr (.tail _ (.tail _ (.tail _ (.head _)))) rfl) ?_|refine zf.cons (.own (.tail _ (.tail _ (.tail _ (.head _)))) rfl rfl rfl) ?_|refine zf.cons (.omap (.tail _ (.tail _ (.tail _ (.head _)))) rfl) ?_|refine zf.cons (.ptr (.tail _ (.tail _ (.tail _ (.tail _ (.head _))))) rfl) ?_|refine zf.cons (.own (.tail _ (.tail _ (.tail _ (.tail _ (.head _))))) rfl rfl rfl) ?_|refine zf.cons (.omap (.tail _ (.tail _ (.tail _ (.tail _ (.head _))))) rfl) ?_))) ?_)))
     ·rw [if_neg (by simpa using hc)] at hst
      refine zb ?_
      refine ⟨j+1,by omega,by omega,?_⟩
      rw [hst]
      dsimp only
      exact (FLe.cv [⟨101,some 101,0,⟨0,.own,3,1,O.map zp⟩⟩,⟨100,some 100,0,⟨0,.own,3,1,Z.map zp⟩⟩,⟨110,some 110,0,⟨0,.hrow,96,1,[[.ptr 111 0 0 0]]⟩⟩,⟨111,some 111,0,⟨0,.hrow,97,1,[[.own 112 0 0 qh.length]]⟩⟩,⟨112,some 112,0,⟨0,.own,3,1,qh.map zp⟩⟩] (by repeat (first|exact .nil|refine .old rfl zc rfl ?_|refine .oldH rfl (by repeat (first|exact .nil|refine .cons (.ptr (.tail _ (.tail _ (.tail _ (.head _)))) rfl) ?_|refine .cons (.own (.tail _ (.tail _ (.tail _ (.tail _ (.head _))))) rfl rfl rfl) ?_)) ?_)) (by repeat (first|exact .nil|refine .cons (.plain rfl rfl rfl) ?_|refine .cons (.own rfl (.head _) rfl rfl) ?_|refine .cons (.own rfl (.tail _ (.head _)) rfl rfl) ?_|refine .cons (.ptr rfl (.tail _ (.tail _ (.head _))) rfl) ?_|refine .cons (.wrap rfl (by repeat (first|exact zf.nil|refine zf.cons (.plain rfl rfl) ?_|refine zf.cons (.ptr (.head _) rfl) ?_|refine zf.cons (.own (.head _) rfl rfl rfl) ?_|refine zf.cons (.omap (.head _) rfl) ?_|refine zf.cons (.ptr (.tail _ (.head _)) rfl) ?_|refine zf.cons (.own (.tail _ (.head _)) rfl rfl rfl) ?_|refine zf.cons (.omap (.tail _ (.head _)) rfl) ?_|refine zf.cons (.ptr (.tail _ (.tail _ (.head _))) rfl) ?_|refine zf.cons (.own (.tail _ (.tail _ (.head _))) rfl rfl rfl) ?_|refine zf.cons (.omap (.tail _ (.tail _ (.head _))) rfl) ?_|refine zf.cons (.ptr (.tail _ (.tail _ (.tail _ (.head _)))) rfl) ?_|refine zf.cons (.own (.tail _ (.tail _ (.tail _ (.head _)))) rfl rfl rfl) ?_|refine zf.cons (.omap (.tail _ (.tail _ (.tail _ (.head _)))) rfl) ?_|refine zf.cons (.ptr (.tail _ (.tail _ (.tail _ (.tail _ (.head _))))) rfl) ?_|refine zf.cons (.own (.tail _ (.tail _ (.tail _ (.tail _ (.head _))))) rfl rfl rfl) ?_|refine zf.cons (.omap (.tail _ (.tail _ (.tail _ (.tail _ (.head _))))) rfl) ?_))) ?_)))
    ·have hje:j=(zj E v).length:=by simp at hc;omega
     rw [hlast hje] at hTI' hend'
     clear hc hlast hst
     refine zb ?_
     refine ⟨⟨qm,qh,O⟩,⟨hTI',fu - 1,by show n<O.length+(fu - 1);omega,hend' _ za⟩,by show n - O.length<n - out.length;have:=hTI'.le;dsimp only at this;omega,?_⟩
     exact (FLe.cv [⟨101,some 101,0,⟨0,.own,3,1,O.map zp⟩⟩,⟨100,some 100,0,⟨0,.own,3,1,qm.map zp⟩⟩,⟨110,some 110,0,⟨0,.hrow,96,1,[[.ptr 111 0 0 0]]⟩⟩,⟨111,some 111,0,⟨0,.hrow,97,1,[[.own 112 0 0 qh.length]]⟩⟩,⟨112,some 112,0,⟨0,.own,3,1,qh.map zp⟩⟩] (by repeat (first|exact .nil|refine .old rfl zc rfl ?_|refine .oldH rfl (by repeat (first|exact .nil|refine .cons (.ptr (.tail _ (.tail _ (.tail _ (.head _)))) rfl) ?_|refine .cons (.own (.tail _ (.tail _ (.tail _ (.tail _ (.head _))))) rfl rfl rfl) ?_)) ?_)) (by repeat (first|exact .nil|refine .cons (.plain rfl rfl rfl) ?_|refine .cons (.own rfl (.head _) rfl rfl) ?_|refine .cons (.own rfl (.tail _ (.head _)) rfl rfl) ?_|refine .cons (.ptr rfl (.tail _ (.tail _ (.head _))) rfl) ?_|refine .cons (.wrap rfl (by repeat (first|exact zf.nil|refine zf.cons (.plain rfl rfl) ?_|refine zf.cons (.ptr (.head _) rfl) ?_|refine zf.cons (.own (.head _) rfl rfl rfl) ?_|refine zf.cons (.omap (.head _) rfl) ?_|refine zf.cons (.ptr (.tail _ (.head _)) rfl) ?_|refine zf.cons (.own (.tail _ (.head _)) rfl rfl rfl) ?_|refine zf.cons (.omap (.tail _ (.head _)) rfl) ?_|refine zf.cons (.ptr (.tail _ (.tail _ (.head _))) rfl) ?_|refine zf.cons (.own (.tail _ (.tail _ (.head _))) rfl rfl rfl) ?_|refine zf.cons (.omap (.tail _ (.tail _ (.head _))) rfl) ?_|refine zf.cons (.ptr (.tail _ (.tail _ (.tail _ (.head _)))) rfl) ?_|refine zf.cons (.own (.tail _ (.tail _ (.tail _ (.head _)))) rfl rfl rfl) ?_|refine zf.cons (.omap (.tail _ (.tail _ (.tail _ (.head _)))) rfl) ?_|refine zf.cons (.ptr (.tail _ (.tail _ (.tail _ (.tail _ (.head _))))) rfl) ?_|refine zf.cons (.own (.tail _ (.tail _ (.tail _ (.tail _ (.head _))))) rfl rfl rfl) ?_|refine zf.cons (.omap (.tail _ (.tail _ (.tail _ (.tail _ (.head _))))) rfl) ?_))) ?_)))
   ·have hh:h=[]:=by
     cases h with
     | nil => rfl
     | cons x h => simp at hc
    subst hh
    clear hc
    rw [YD E fu _ rfl] at hend
    dsimp only at hend
    subst hend
    generalize zV n E=O at hol hac
    subst hac
    refine zb ?_
    refine FW.cond rfl (fun hc=>?_) (fun hc=>?_)
    ·exfalso;simp at hc
    ·refine zb ?_
     refine FW.le (s':=⟨[(4,.own 4000 1 0 O.length),(5,.bool true)],[(4000,⟨1,.own,3,1,O.map zp⟩)]⟩) ?_ (FLe.cv [⟨4000,some 101,0,⟨1,.own,3,1,O.map zp⟩⟩] (by repeat (first|exact .nil|refine .old rfl zc rfl ?_)) (by repeat (first|exact .nil|refine .cons (.plain rfl rfl rfl) ?_|refine .cons (.own rfl (.head _) rfl rfl) ?_)))
     exact FW.ret ⟨.inl rfl,_,.pair rfl rfl rfl (fun _ _ e=>by cases e) (fun _ _ e=>by cases e),rfl,rfl⟩
theorem VL (p:Int→Bool) (r:List Int):∀ k i:Nat,(YG p r k i = -1∧∀ q,i≤q→q<i+k→p (nth r q)=false)∨∃ j:Nat,i≤j∧j<i+k∧YG p r k i=j∧p (nth r j)=true∧∀ q,i≤q→q<j→p (nth r q)=false
 | 0, i => .inl ⟨rfl, fun q h1 h2 => by omega⟩
 | k+1,i=>by
  unfold YG
  by_cases h:p (nth r i)=true
  ·rw [if_pos h]
   exact .inr ⟨i,Nat.le_refl _,by omega,rfl,h,fun q h1 h2=>by omega⟩
  ·rw [if_neg h]
   have h' : p (nth r i)=false:=by simpa using h
   rcases VL p r k (i+1) with ⟨h1,h2⟩|⟨j,h1,h2,h3,h4,h5⟩
   ·refine .inl ⟨h1,fun q q1 q2=>?_⟩
    by_cases e:q=i
    ·subst e;exact h'
    ·exact h2 q za za
   ·refine .inr ⟨j,by omega,by omega,h3,h4,fun q q1 q2=>?_⟩
    by_cases e:q=i
    ·subst e;exact h'
    ·exact h5 q za q2
def xj (p:Int→Bool) (r:List Int):List Int:=r.filter fun x=>!p x
theorem zbE {p:Int→Bool} {r:List Int} (h:∀ q,q<r.length→p (nth r q)=false):xj p r=r:=by
 unfold xj
 rw [List.filter_eq_self]
 intro x hx
 obtain ⟨q,hq,rfl⟩:=List.getElem_of_mem hx
 have:=h q hq
 rw [nth_eq hq] at this
 rw [this];rfl
theorem Xu {p:Int→Bool} {r:List Int} {j:Nat} (hj:j<r.length):xj p (r.take (j+1))=xj p (r.take j)++if p (nth r j)=true then [] else [nth r j]:=by
 unfold xj
 rw [List.take_succ_eq_append_getElem hj,List.filter_append,← nth_eq hj]
 congr 1
 by_cases h:p (nth r j)=true
 ·simp [h]
 ·simp [h]
theorem WF (p:Int→Bool) (r:List Int) (j:Nat):(xj p (r.take j)).length≤j:=by
 unfold xj
 have h1:((r.take j).filter fun x=>!p x).length≤(r.take j).length:=List.length_filter_le _ _
 have h2:(r.take j).length≤j:=by rw [List.length_take];omega
 omega
def YR (p:Int→Bool) (r:List Int) (j:Nat):List Int:=xj p (r.take j)++r.drop (xj p (r.take j)).length
theorem zdo {p:Int→Bool} {r:List Int} {j:Nat} (hj:j≤r.length):(YR p r j).length=r.length:=by
 have:=WF p r j
 unfold YR
 rw [List.length_append,List.length_drop]
 omega
theorem zh9 {p:Int→Bool} {r:List Int} {j:Nat} (hj:j<r.length):nth (YR p r j) j=nth r j:=by
 have h:=WF p r j
 have hl:=zdo (p:=p) (r:=r) (j:=j) za
 rw [nth_eq za,nth_eq hj]
 simp only [YR]
 rw [List.getElem_append_right h,List.getElem_drop]
 congr 1
 omega
theorem zgv {p:Int→Bool} {r:List Int} {j:Nat} (hj:j<r.length) (hp:p (nth r j)=false):(YR p r j).set (xj p (r.take j)).length (nth r j)=YR p r (j+1):=by
 have h:=WF p r j
 unfold YR
 rw [Xu hj,if_neg (by rw [hp];decide),List.set_append_right _ _ (Nat.le_refl _),Nat.sub_self,List.append_assoc]
 congr 1
 rw [List.length_append,List.length_singleton,List.drop_eq_getElem_cons (show (xj p (r.take j)).length<r.length by omega)]
 rfl
theorem zgw {p:Int→Bool} {r:List Int} {j:Nat} (hj:j<r.length) (hp:p (nth r j)=true):YR p r (j+1)=YR p r j:=by
 unfold YR
 rw [Xu hj,if_pos hp,List.append_nil]
theorem zeS {p:Int→Bool} {r:List Int} {j:Nat} (hj:j<r.length) (hp:p (nth r j)=true) (h0:∀ q,q<j→p (nth r q)=false):xj p (r.take (j+1))=r.take j∧YR p r (j+1)=r:=by
 have e:xj p (r.take j)=r.take j:=zbE fun q hq=>by
  rw [List.length_take] at hq
  have:nth (r.take j) q=nth r q:=by rw [nth_eq (by rw [List.length_take];exact hq),nth_eq za,List.getElem_take]
  rw [this];exact h0 q za
 have e2:xj p (r.take (j+1))=r.take j:=by rw [Xu hj,if_pos hp,List.append_nil,e]
 refine ⟨e2,?_⟩
 unfold YR
 rw [e2,List.length_take,Nat.min_eq_left za,List.take_append_drop]
theorem Uc (v:Nat) (r:List Int) (cf:Nat) (caps:List FV) (p:Int→Bool) (hr:r.length≤1000000) (hp:∀ x∈r,zU Try.prog cf ([.int .i64 x]++caps) .fr (.bool (p x))) :
  yB Try.prog 38 [.own 5000 v 0 r.length,.fn cf caps] [(5000,⟨v,.own,3,1,r.map zp⟩)] [] (fun res o=>res=.own 5000 v 0 (xj p r).length∧o 5000=⟨v,.own,3,1,(xj p r++List.replicate (r.length - (xj p r).length) 0).map zp⟩):=by
 refine yB.of_body (c:=(xT Try.prog zE zt 42)) ⟨Try.func38,rfl,Try.ntmps38,by kernel_rfl⟩ zw ?_ ?_
 ·rintro res o ⟨rfl,h⟩;exact YW (v:=v) rfl (by rw [h]) (by rw [h]) rfl
 change FW _ _ _ ⟨[(0,.own 5000 v 0 r.length),(1,.fn cf caps)],[(5000,⟨v,.own,3,1,r.map zp⟩)]⟩
 refine zb ?_
 refine yu (XP r cf caps p hr hp) (by repeat (first|exact zA.nil|refine zA.cons (by first|exact zc2.plain rfl rfl|exact zc2.own rfl rfl zc (by first|exact (fun _=>rfl)|(intro h;cases h)) (by first|rfl|(simp;done)|(congr 1;omega)|(simp;omega)|(simp [List.take_of_length_le];done)|(refine congrArg (FV.int .i64) ?_;omega))) ?_)) rfl rfl ?_
 rcases VL p r r.length 0 with ⟨h1,h2⟩|⟨j0,_,h2,h3,h4,h5⟩
 ·have hk:=zbE (p:=p) (r:=r) fun q hq=>h2 q (Nat.zero_le _) za
  rw [hk,Nat.sub_self,show VN p r = -1 from h1,show r++List.replicate 0 0=r by simp]
  refine zb ?_
  exact FW.ret ⟨.inl rfl,_,.tmp rfl rfl,rfl,rfl⟩
 ·have hj0:j0<r.length:=by omega
  obtain ⟨s1,s2⟩:=zeS hj0 h4 fun q hq=>h5 q (Nat.zero_le _) hq
  rw [show VN p r=(j0:Int) from h3]
  obtain ⟨n,hn⟩:∃ n,r.length=n:=⟨_,rfl⟩
  rw [hn] at hr hj0 ⊢
  refine zb ?_
  refine FW.loop (fun j:Nat=>⟨[(0,.own 5000 v 0 n),(1,.fn cf caps),(5,.int .i64 (xj p (r.take j)).length),(6,.int .i64 j)],[(5000,⟨v,.own,3,1,(YR p r j).map zp⟩)]⟩) (fun j=>j≤n∧(xj p (r.take j)).length<j) (fun j=>n - j) (j0+1) ⟨by omega,by rw [s1,List.length_take];omega⟩ ?_ ?_
  ·rw [s1,s2,List.length_take,Nat.min_eq_left za]
   exact (FLe.cv [⟨5000,some 5000,v,⟨v,.own,3,1,r.map zp⟩⟩] (by repeat (first|exact .nil|refine .old rfl zc rfl ?_)) (by repeat (first|exact .nil|refine .cons (.plain rfl rfl rfl) ?_|refine .cons (.own rfl (.head _) rfl rfl) ?_)))
  rintro j ⟨hj,hkj⟩
  have hdl:=zdo (p:=p) (r:=r) (j:=j) za
  have hdn:=fun h:j<r.length=>zh9 (p:=p) h
  have hks:=fun h:j<r.length=>Xu (p:=p) h
  have hdk:=fun (h:j<r.length) (hp:p (nth r j)=false)=>zgv h hp
  have hds:=fun (h:j<r.length) (hp:p (nth r j)=true)=>zgw h hp
  have hlast:j=n→xj p (r.take j)=xj p r∧YR p r j=xj p r++r.drop (xj p r).length:=fun e=>by
   have e1:xj p (r.take j)=xj p r:=by rw [e,← hn,List.take_length]
   exact ⟨e1,by unfold YR;rw [e1]⟩
  generalize YR p r j=D at hdl hdn hdk hds hlast
  generalize xj p (r.take j)=K at hkj hks hdk hlast
  refine zb ?_
  refine FW.cond rfl (fun hc=>?_) (fun hc=>?_)
  ·have hlt:j<n:=by simpa using hc
   have hlr:j<r.length:=by omega
   clear hc hlast
   have hdn:=hdn hlr
   have hks:=hks hlr
   have hpj:=hp (nth r j) (zu hlr)
   have hjD:j<D.length:=by omega
   refine zb ?_
   rw [hdn]
   skip
   refine zgb rfl hpj (by repeat (first|exact zA.nil|refine zA.cons zy ?_)) rfl rfl ?_
   refine zb ?_
   cases hb:p (nth r j) with
   | true =>
    rw [if_pos hb,List.append_nil] at hks
    have hds:=hds hlr hb
    refine zb ?_
    refine ⟨j+1,⟨by omega,by rw [hks];omega⟩,by omega,?_⟩
    rw [hks,hds]
    exact (FLe.cv [⟨5000,some 5000,v,⟨v,.own,3,1,D.map zp⟩⟩] (by repeat (first|exact .nil|refine .old rfl zc rfl ?_)) (by repeat (first|exact .nil|refine .cons (.plain rfl rfl rfl) ?_|refine .cons (.own rfl (.head _) rfl rfl) ?_)))
   | false =>
    rw [if_neg (by rw [hb];decide)] at hks
    have hdk:=hdk hlr hb
    have hKD:K.length<D.length:=by omega
    refine zb ?_
    rw [show (zp (nth D K.length)).set 0 (.int .i64 (nth r j))=zp (nth r j) from rfl,← List.map_set,hdk]
    refine ⟨j+1,⟨by omega,by rw [hks];simp;omega⟩,by omega,?_⟩
    rw [hks,List.length_append,List.length_singleton]
    generalize YR p r (j+1)=D2
    exact (FLe.cv [⟨5000,some 5000,v,⟨v,.own,3,1,D2.map zp⟩⟩] (by repeat (first|exact .nil|refine .old rfl zc rfl ?_)) (by repeat (first|exact .nil|refine .cons (.plain rfl rfl rfl) ?_|refine .cons (.own rfl (.head _) rfl rfl) ?_)))
  ·obtain rfl:j=n:=by simp at hc;omega
   obtain ⟨e1,e2⟩:=hlast rfl
   subst e1
   have hsp:splice (D.map zp) (0+(xj p r).length) (List.replicate (j - (xj p r).length) [FV.int .i64 0])=(xj p r++List.replicate (j - (xj p r).length) 0).map zp:=by
    rw [e2]
    unfold splice
    rw [Nat.zero_add,List.map_append,List.take_left' (List.length_map _),List.drop_of_length_le zC,List.append_nil,List.map_append,List.map_replicate]
    rfl
   refine zb ?_
   refine zkL rfl rfl rfl rfl rfl rfl za rfl ?_
   rw [hsp]
   refine zb ?_
   exact FW.ret ⟨.inl rfl,_,.tmp rfl rfl,rfl,rfl⟩
def YM (l:List OpV):List Int:=xj (fun x=>!xf l x.toNat) (zV l.length (edC l))
def Wm (l:List OpV):List FV:=match zbk l with
 | some i => VV 5 2 (nth l i).key [i] []
 | none=>if YI l≠[] then [.int .i64 5,.int .i64 6,.int .i64 0,.nil,.list 3 ((YJ l (YI l) (YI l).length).map EdC.fv)] else match zbh l with
  | some (w1, w2, i) => VV 5 7 (nth l w2).key [w1, w2, i] (ZN l w1 w2 ++ ZN l w2 i)
  | none => match zbg l with
   | some (w, i) => VV 5 8 (nth l w).key [w, i] (ZN l w i)
   | none => [.int .i64 5, .int .i64 0, .int .i64 0, .list 1 ((YM l).map zp), .nil]
def zls (l:List OpV):FV:=if Xr l≠0 then .tup [.agg [.int .i64 0,.int .i64 0,.int .i64 0,.nil,.nil],.int .i64 (Xr l)] else .tup [.agg (Wm l),.int .i64 0]
theorem ziN (sz:Nat) (es:List (List FV)):zlF sz es=.nil∨zlF sz es=.list sz es:=by cases es <;> simp [zlF]
theorem zmb (l:List OpV) {i:Nat} (hi:i<l.length):(xb (KC l i)).nilMap=some (!xf l i):=by
 unfold KC
 by_cases h:i∈zI l l.length
 ·rw [if_pos h,(xA.1 h).2];rfl
 ·rw [if_neg h]
  have:xf l i=false:=by cases hq:xf l i with|false=>rfl|true=>exact absurd (xA.2 ⟨hi,hq⟩) h
  rw [this];rfl
theorem zdg (l:List OpV) (i:Nat) (hi:i<l.length):zU Try.prog 39 ([.int .i64 i]++[.eptr 1 [[zef l]] 0 0]) .fr (.bool (!xf l i)):=by
 have hcell:(List.map (fun q=>[xb (KC l q)]) (List.range l.length)).getD i []=[xb (KC l i)]:=by rw [List.getD_eq_getElem?_getD,xp l.length i _ hi];rfl
 have hnil:=zmb l hi
 obtain ⟨C,hC⟩:∃ C,C=List.map (fun q=>[xb (KC l q)]) (List.range l.length):=⟨_,rfl⟩
 have hCl:C.length=l.length:=by rw [hC];simp
 obtain ⟨b,hb⟩:∃ b,(!xf l i)=b:=⟨_,rfl⟩
 rw [hb] at hnil ⊢
 unfold zef zhl
 rw [← hC] at hcell ⊢
 refine zU.of_body (c:=(xT Try.prog zE zt 12)) ⟨Try.func39,rfl,Try.ntmps39,by kernel_rfl⟩ zL zw rfl ?_
 change FW _ _ _ ⟨[(0,.int .i64 i),(1,.eptr 1 [[.eptr 4 [[.list 8 (l.map OpV.fv),.list 1 ((zI l l.length).map ym),.smap (yE l l.length),.list 1 C]] 0 0]] 0 0)],[]⟩
 refine zb ?_
 refine xh rfl rfl rfl (by rw [hCl];exact hi) hcell rfl rfl rfl rfl ?_
 refine zjw rfl hnil zi rfl rfl ?_
 refine zb ?_
 exact FW.ret ⟨.inl rfl,zK rfl rfl rfl rfl⟩
theorem zfo (l:List OpV) (hl:l.length≤14) (hc:YI l=[]):yB Try.prog 36 [.int .i64 l.length,.perm 2 ((edC l).map edf)] [] [4000] (fun res o=>res=.wrap .tup [.own 4000 1 0 l.length,.bool true]∧o 4000=⟨1,.own,3,1,(zV l.length (edC l)).map zp⟩):=by
 refine yB.perm (pre:=[.int .i64 l.length]) (post:=[]) fun es' hp=>?_
 obtain ⟨P,hP,rfl⟩:=zf0 hp
 have hm:∀ e,e∈P↔e∈edC l:=fun e=>hP.mem_iff
 have hin:=(Yt l).mem hm
 have h1:=zic l
 have h2:=Nat.mul_le_mul hl hl
 have hcP:xI P l.length=[]:=by rw [VS hm];exact hc
 obtain ⟨h3,h4⟩:=Yz hin hcP
 obtain ⟨h5,_⟩:=Yz (Yt l) hc
 rw [zet hm,h5] at h3
 injection h3 with h3
 rw [h3]
 exact zhK l.length P za (by rw [hP.length_eq];omega) hin h4.len
theorem zeI (l:List OpV) (hl:l.length≤14) (hin:∀ o∈l,za2 o):zU Try.prog 18 [.list 8 (l.map OpV.fv)] .sh (zls l):=by
 have hdm:=VH l za hin
 obtain ⟨R,hR⟩:∃ R,zls l=R:=⟨_,rfl⟩
 have hRh:R.hand=none:=by rw [← hR];unfold zls;split <;> rfl
 rw [hR]
 have hR1:Xr l≠0→R=.tup [.agg [.int .i64 0,.int .i64 0,.int .i64 0,.nil,.nil],.int .i64 (Xr l)]:=fun h=>by rw [← hR];unfold zls;rw [if_pos h]
 have hR2:Xr l=0→R=.tup [.agg (Wm l),.int .i64 0]:=fun h=>by rw [← hR];unfold zls;rw [if_neg (by simpa using h)]
 have hdom:Xr l=0→YK l:=fun h=>by
  unfold Xr at h
  split at h
  ·rename_i h1;exact absurd h h1
  ·split at h
   ·assumption
   ·cases h
 clear hR
 obtain ⟨e,he⟩:∃ e,Xr l=e:=⟨_,rfl⟩
 rw [he] at hdm hR1 hR2 hdom
 have hb:=fun hd=>zbo l za hin hd
 rw [zid] at hb
 change YK l→zU _ _ _ _ (zef l) at hb
 have hth:=zjW l za hin
 have hcy:=zeR l hl
 have hov:=ziU l za hin
 have hit:=ziy l za hin
 have hpairs:=zas (.list 8 (l.map OpV.fv)) (.smap (yE l l.length)) (.list 1 ((zI l l.length).map ym)) (KC l) l.length za (kok l za)
 change zU _ _ [zef l] _ (.perm 2 ((edC l).map edf)) at hpairs
 have htop:=zfo l hl
 have hch:=zdg l
 obtain ⟨r,hr⟩:∃ r,zef l=r:=⟨_,rfl⟩
 have hr1:r.one=true:=by rw [← hr];rfl
 have hrc:r.cells=[r]:=by rw [← hr];rfl
 have hrh:r.hand=none:=by rw [← hr];rfl
 rw [hr] at hb hth hcy hov hit hpairs hch
 clear hr
 refine zU.of_body (c:=(xT Try.prog zE zt 57)) ⟨Try.func18,rfl,Try.ntmps18,by kernel_rfl⟩ zL zw hRh ?_
 change FW _ _ _ ⟨[(0,.list 8 (l.map OpV.fv))],[]⟩
 refine zb ?_
 refine yu hdm (by repeat (first|exact zA.nil|refine zA.cons zy ?_)) rfl rfl ?_
 refine zb ?_
 refine FW.cond rfl (fun h=>?_) (fun h=>?_)
 ·rw [hR1 (by simpa using h)]
  refine zb ?_
  exact FW.ret ⟨.inl rfl,.sh (.cons (ye rfl rfl rfl rfl rfl rfl zc) (.cons (.tmp 3 rfl rfl) .nil)) rfl rfl⟩
 have he0:e=0:=by simpa using h
 subst he0
 have hR2:=hR2 rfl
 have hb:=hb (hdom rfl)
 clear h hR1 hdom
 (repeat (first|refine FW.seq ?_|refine FW.region ?_|refine FW.skip ?_|refine zB rfl rfl rfl ?_))
 refine yL hb (by repeat (first|exact zA.nil|refine zA.cons zy ?_)) rfl rfl ?_
 refine zaB rfl rfl rfl rfl rfl ?_
 refine zhz rfl rfl hr1 rfl rfl rfl zc rfl ?_
 refine zn.le ?_ (FLe.ofH 5 rfl (by simp [hr1]))
 refine zn.le ?_ (FLe.shareP 5 rfl rfl)
 (repeat (first|refine FW.seq ?_|refine FW.region ?_|refine zn.nil ?_|refine xh rfl rfl rfl yY rfl rfl rfl rfl rfl ?_))
 refine zga rfl hrh rfl rfl ?_
 (repeat (first|refine xh rfl rfl rfl yY rfl rfl rfl rfl rfl ?_))
 refine zga rfl hrh rfl rfl ?_
 (repeat (first|refine xh rfl rfl rfl yY rfl rfl rfl rfl rfl ?_))
 refine zga rfl hrh rfl rfl ?_
 (repeat (first|refine xh rfl rfl rfl yY rfl rfl rfl rfl rfl ?_))
 refine zga rfl hrh rfl rfl ?_
 refine Yh (es:=[[.bnd 32 [r]],[.bnd 33 [r]],[.bnd 34 [r]],[.bnd 35 [r]]]) rfl rfl rfl (by refine xK.one rfl rfl rfl rfl ?_;refine xK.one rfl rfl rfl rfl ?_;refine xK.one rfl rfl rfl rfl ?_;refine xK.one rfl rfl rfl rfl ?_;exact xK.nil) rfl rfl rfl rfl rfl ?_
 (repeat (first|refine FW.block ?_|refine zn.nil ?_|refine zB rfl rfl rfl ?_|refine XD rfl rfl rfl rfl rfl ?_))
 refine FW.loop (fun k:Nat=>⟨[(0,.list 8 (l.map OpV.fv)),(2,.ptr 102 0 0 0),(5,.eptr 1 [[r]] 0 0),(28,.list 1 [[.bnd 32 [r]],[.bnd 33 [r]],[.bnd 34 [r]],[.bnd 35 [r]]]),(29,.int .i64 4),(30,.int .i64 k)],[(102,⟨0,.own,36,5,[[.int .i64 0,.int .i64 0,.int .i64 0,.nil,.nil]]⟩)]⟩) (fun k=>k≤4∧(1≤k→zbk l=none)∧(2≤k→YI l=[])∧(3≤k→zbh l=none)∧(4≤k→zbg l=none)) (fun k=>4 - k) 0 ⟨Nat.zero_le _,by omega,by omega,by omega,by omega⟩ ?_ ?_
 ·exact (FLe.cv [⟨102,some 2,0+1,⟨0,.own,36,5,[[.int .i64 0,.int .i64 0,.int .i64 0,.nil,.nil]]⟩⟩] (by repeat (first|exact .nil|refine .old rfl zc rfl ?_)) (by repeat (first|exact .nil|refine .cons (.plain rfl rfl rfl) ?_|refine .cons (.ptr rfl (.head _) rfl) ?_)))
 rintro k ⟨hk,p1,p2,p3,p4⟩
 refine zb ?_
 refine FW.cond rfl (fun h=>?_) (fun h=>?_)
 ·have hk4:k=0∨k=1∨k=2∨k=3:=by simp at h;omega
  clear h
  rcases hk4 with rfl|rfl|rfl|rfl
  ·refine zb ?_
   refine Ur rfl hth rfl rfl ?_
   unfold zhI
   cases ht:zbk l with
   | some i =>
    rw [hR2]
    unfold Wm
    rw [ht]
    dsimp only
    unfold VV
    refine zb ?_
    exact FW.ret ⟨.inl rfl,.sh (.cons (ye rfl rfl rfl rfl rfl rfl zc) (.cons (.tmp 3 rfl rfl) .nil)) rfl rfl⟩
   | none =>
    refine zb ?_
    refine ⟨1,⟨by omega,fun _=>by first|exact ht|rfl,by omega,by omega,by omega⟩,by omega,(FLe.cv [⟨102,some 102,0,⟨0,.own,36,5,[[.int .i64 0,.int .i64 0,.int .i64 0,.nil,.nil]]⟩⟩] (by repeat (first|exact .nil|refine .old rfl zc rfl ?_)) (by repeat (first|exact .nil|refine .cons (.plain rfl rfl rfl) ?_|refine .cons (.ptr rfl (.head _) rfl) ?_)))⟩
  ·have p1:=p1 za
   refine zb ?_
   refine Ur rfl hcy rfl rfl ?_
   unfold zmS
   by_cases hc:YI l=[]
   ·rw [show decide (((YI l).length:Int) > 0)=false by rw [hc];rfl]
    refine zb ?_
    refine ⟨2,⟨by omega,fun _=>p1,fun _=>hc,by omega,by omega⟩,by omega,(FLe.cv [⟨102,some 102,0,⟨0,.own,36,5,[[.int .i64 0,.int .i64 0,.int .i64 0,.nil,.nil]]⟩⟩] (by repeat (first|exact .nil|refine .old rfl zc rfl ?_)) (by repeat (first|exact .nil|refine .cons (.plain rfl rfl rfl) ?_|refine .cons (.ptr rfl (.head _) rfl) ?_)))⟩
   ·rw [show decide (((YI l).length:Int) > 0)=true by have:=List.length_pos_iff.2 hc;simpa using this,hR2]
    unfold Wm
    rw [p1]
    dsimp only
    rw [if_pos hc]
    refine zb ?_
    exact FW.ret ⟨.inl rfl,.sh (.cons (ye rfl rfl rfl rfl rfl rfl zc) (.cons (.tmp 3 rfl rfl) .nil)) rfl rfl⟩
  ·have p1:=p1 za
   have p2:=p2 za
   refine zb ?_
   refine Ur rfl hov rfl rfl ?_
   unfold zg5
   cases ht:zbh l with
   | some w=>
    obtain ⟨w1,w2,i⟩:=w
    rw [hR2]
    unfold Wm
    rw [p1,ht]
    dsimp only
    rw [if_neg (by simpa using p2)]
    unfold VV
    generalize ZN l w1 w2++ZN l w2 i=X
    rcases ziN 3 (X.map EdC.fv) with hX|hX <;> rw [hX]
    ·refine zb ?_
     exact FW.ret ⟨.inl rfl,.sh (.cons (ye rfl rfl rfl rfl rfl rfl zc) (.cons (.tmp 3 rfl rfl) .nil)) rfl rfl⟩
    ·refine zb ?_
     exact FW.ret ⟨.inl rfl,.sh (.cons (ye rfl rfl rfl rfl rfl rfl zc) (.cons (.tmp 3 rfl rfl) .nil)) rfl rfl⟩
   | none =>
    refine zb ?_
    refine ⟨3,⟨by omega,fun _=>p1,fun _=>p2,fun _=>by first|exact ht|rfl,by omega⟩,by omega,(FLe.cv [⟨102,some 102,0,⟨0,.own,36,5,[[.int .i64 0,.int .i64 0,.int .i64 0,.nil,.nil]]⟩⟩] (by repeat (first|exact .nil|refine .old rfl zc rfl ?_)) (by repeat (first|exact .nil|refine .cons (.plain rfl rfl rfl) ?_|refine .cons (.ptr rfl (.head _) rfl) ?_)))⟩
  ·have p1:=p1 za
   have p2:=p2 za
   have p3:=p3 za
   refine zb ?_
   refine Ur rfl hit rfl rfl ?_
   unfold zgR
   cases ht:zbg l with
   | some w=>
    obtain ⟨w,i⟩:=w
    rw [hR2]
    unfold Wm
    rw [p1,p3,ht]
    dsimp only
    rw [if_neg (by simpa using p2)]
    unfold VV
    generalize ZN l w i=X
    rcases ziN 3 (X.map EdC.fv) with hX|hX <;> rw [hX]
    ·refine zb ?_
     exact FW.ret ⟨.inl rfl,.sh (.cons (ye rfl rfl rfl rfl rfl rfl zc) (.cons (.tmp 3 rfl rfl) .nil)) rfl rfl⟩
    ·refine zb ?_
     exact FW.ret ⟨.inl rfl,.sh (.cons (ye rfl rfl rfl rfl rfl rfl zc) (.cons (.tmp 3 rfl rfl) .nil)) rfl rfl⟩
   | none =>
    refine zb ?_
    refine ⟨4,⟨by omega,fun _=>p1,fun _=>p2,fun _=>p3,fun _=>by first|exact ht|rfl⟩,by omega,(FLe.cv [⟨102,some 102,0,⟨0,.own,36,5,[[.int .i64 0,.int .i64 0,.int .i64 0,.nil,.nil]]⟩⟩] (by repeat (first|exact .nil|refine .old rfl zc rfl ?_)) (by repeat (first|exact .nil|refine .cons (.plain rfl rfl rfl) ?_|refine .cons (.ptr rfl (.head _) rfl) ?_)))⟩
 ·have hk4:k=4:=by simp at h;omega
  subst hk4
  have p1:=p1 za
  have p2:=p2 za
  have p3:=p3 za
  have p4:=p4 za
  rw [hR2]
  unfold Wm
  rw [p1,p3,p4]
  dsimp only
  rw [if_neg (by simpa using p2)]
  obtain ⟨_,hO⟩:=Yz (Yt l) p2
  have hTL:=htop p2
  unfold YM
  generalize zV l.length (edC l)=TT at hO hTL
  have hTl:=hO.len
  have hD:=Uc 1 TT 39 [.eptr 1 [[r]] 0 0] (fun x=>!xf l x.toNat) za (fun x hx=>by
   have hr:=hO.rng x hx
   have:=hch x.toNat za
   rw [show ((x.toNat:Nat):Int)=x by omega] at this
   exact this)
  rw [hTl] at hD
  have hKl:=WF (fun x=>!xf l x.toNat) TT TT.length
  rw [List.take_length,hTl] at hKl
  generalize xj (fun x=>!xf l x.toNat) TT=KK at hD hKl
  clear hth hcy hov hit hch hb hdm
  refine zb ?_
  refine yL hpairs (zA.cons (.plain rfl hrh) .nil) rfl rfl ?_
  refine xq hTL [(4000,105)] rfl zq.nil rfl rfl rfl rfl rfl rfl ?_
  rintro _ ob' ⟨rfl,h4⟩
  refine yM.one [(105,⟨1,.own,3,1,TT.map zp⟩)] (.wrap .tup [.own 105 1 0 l.length,.bool true]) rfl (by show [(105,zm.ren _ (look {} ob' 4000))]=_;rw [h4];rfl) ?_
  clear h4 ob' hTL
  refine zb ?_
  refine zaF rfl rfl rfl rfl rfl ?_
  refine zaF rfl rfl rfl rfl rfl ?_
  refine zb ?_
  refine xq hD [(5000,105)] rfl (zq.cons rfl rfl rfl zq.nil) rfl rfl rfl rfl rfl rfl ?_
  rintro _ ob' ⟨rfl,h4⟩
  obtain ⟨Ze,hZe⟩:∃ Ze,(KK++List.replicate (l.length - KK.length) 0).map zp=Ze:=⟨_,rfl⟩
  have hZt:(Ze.drop 0).take KK.length=KK.map zp:=by rw [← hZe,List.drop_zero,List.map_append,List.take_left' (List.length_map _)]
  rw [hZe] at h4
  refine yM.one [(105,⟨1,.own,3,1,Ze⟩)] (.own 105 1 0 KK.length) rfl (by show [(105,zm.ren _ (look {} ob' 5000))]=_;rw [h4];rfl) ?_
  clear h4 ob' hD
  refine zn.le ?_ (FLe.shut (i:=105) rfl)
  refine zn.le ?_ (FLe.list (d:=53) (i:=105) (f:=.list 1 (KK.map zp)) rfl rfl (by rw [hZt]))
  refine zb ?_
  exact FW.ret ⟨.inl rfl,.sh (.cons (ye rfl rfl rfl rfl rfl rfl zc) (.cons (.tmp 3 rfl rfl) .nil)) rfl rfl⟩
end Go.Proofs.Ytmnmakhpjgjdaaa
