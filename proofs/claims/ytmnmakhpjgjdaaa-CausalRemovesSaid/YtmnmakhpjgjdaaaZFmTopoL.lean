/-
  Some texts as one: FmTopoL, FmDel, FmCauD.
-/
import Derived.Test.YtmnmakhpjgjdaaaZFmCyc2
import Derived.Test.YtmnmakhpjgjdaaaZK
import Derived.Test.YtmnmakhpjgjdaaaZD
import Derived.Test.YtmnmakhpjgjdaaaZFmW
import Derived.Test.YtmnmakhpjgjdaaaZOrderPlain
/-
 graph.Topo of a graph without cycles: the order is the caller's own.
-/
namespace Go.Proofs.Ytmnmakhpjgjdaaa
set_option linter.unusedVariables false
open Go.RowKit

set_option maxHeartbeats 8000000 in
theorem zhg (n:Nat) (E:List (Nat×Nat)) (hn:n≤300) (hE:E.length≤100000) (hin:InN n E) (hac:(yU n E).length=n):yB Try.prog 36 [.int .i64 n,.list 2 (E.map edf)] [] [4000] (fun res o=>res=.wrap .tup [.own 4000 1 0 n,.bool true]∧o 4000=⟨1,.own,3,1,(yU n E).map zy⟩):=by
 refine yB.of_body (c:=(ZO Try.prog zI zA 104)) ⟨Try.func36,rfl,Try.ntmps36,by kernel_rfl⟩ (by exact Nat.le_of_ble_eq_true rfl) ?_ ?_
 ·rintro res o ⟨rfl,h⟩
  exact ⟨(fun k hk=>by cases hk),(fun k hk=>by obtain rfl:=List.mem_singleton.1 hk;rw [h];exact ⟨Nat.zero_lt_one,fun _=>rfl⟩),(fun k hk=>by obtain rfl:=List.mem_singleton.1 hk;rw [h];rfl),rfl⟩
 change FW _ _ _ ⟨[(0,.int .i64 n),(1,.list 2 (E.map edf))],[]⟩
 have hrl:=yl n E
 have hrn:=fun v (hv:v<n)=>Zw E hv
 (repeat (first|refine FW.seq ?_|refine FW.region ?_|refine zc.nil ?_|refine zb rfl rfl rfl ?_|refine za rfl rfl rfl ?_))
 refine xJ (ZL n E (by omega) (by omega) hin) (by repeat (first|exact zG.nil|refine zG.cons (by exact Zq.plain rfl rfl) ?_)) rfl rfl ?_
 rw [zcE]
 (repeat (first|refine FW.seq ?_|refine FW.region ?_|refine FW.block ?_|refine zc.nil ?_|refine zb rfl rfl rfl ?_|refine za rfl rfl rfl ?_|refine zcD rfl rfl rfl rfl rfl rfl rfl rfl (by omega) (by omega) rfl rfl rfl ?_|refine zp rfl rfl (by first|exact List.length_map _|rfl|omega) rfl rfl ?_))
 rw [show List.replicate n [FV.int .i64 0]=(List.replicate n 0).map zy by rw [List.map_replicate];rfl]
 refine FW.loop (fun i:Nat=>⟨[(0,.int .i64 n),(6,.list 1 ((zN n E).map YX)),(7,.own 100 0 0 n),(26,.list 1 ((zN n E).map YX)),(27,.int .i64 n),(28,.int .i64 i)],[(100,⟨0,.own,3,1,(Ym n E i).map zy⟩)]⟩) (fun i=>i≤n) (fun i=>n - i) 0 (Nat.zero_le _) ?_ ?_
 ·rw [hrl,show Ym n E 0=List.replicate n 0 from rfl]
  obtain ⟨z,hz⟩:∃ z,(List.replicate n (0:Int)).map zy=z:=⟨_,rfl⟩
  rw [hz]
  exact (FLe.cv [⟨100,some 25,0+1,⟨0,.own,3,1,z⟩⟩] (by repeat (first|exact .nil|refine .old rfl (by decide) rfl ?_)) (by repeat (first|exact .nil|refine .cons (.plain rfl rfl rfl) ?_|refine .cons (.own rfl (.head _) rfl rfl) ?_)))
 intro i hi
 obtain ⟨hml,hmb⟩:=zeS hin i
 (repeat (first|refine FW.seq ?_|refine FW.region ?_|refine zc.nil ?_|refine zX rfl rfl rfl rfl ?_))
 refine FW.cond rfl (fun h=>?_) (fun h=>?_)
 ·have hlt:i<n:=by simpa using h
  clear h
  have hsl:=Xq E i
  have hms:=zeT n E hlt
  (repeat (first|refine FW.seq ?_|refine FW.region ?_|refine FW.block ?_|refine FW.skip ?_|refine zc.nil ?_|refine zb rfl rfl rfl ?_|refine za rfl rfl rfl ?_|refine zp rfl rfl (by first|exact List.length_map _|rfl|(simp;omega)) rfl rfl ?_|refine zn rfl rfl rfl rfl rfl rfl (by simp;omega) rfl rfl ?_|refine zj rfl rfl rfl (by simp;omega) (by first|exact zf (by omega)|rfl) rfl rfl rfl rfl ?_))
  rw [hrn i hlt]
  skip
  generalize Ym n E i=M at hml hmb hms
  refine FW.loop (fun j:Nat=>⟨[(0,.int .i64 n),(6,.list 1 ((zN n E).map YX)),(7,.own 100 0 0 n),(26,.list 1 ((zN n E).map YX)),(27,.int .i64 n),(28,.int .i64 i),(32,.list 1 ((zt E i).map zy)),(33,.int .i64 (zt E i).length),(34,.int .i64 j)],[(100,⟨0,.own,3,1,(((zt E i).take j).foldl zbv M).map zy⟩)]⟩) (fun j=>j≤(zt E i).length) (fun j=>(zt E i).length - j) 0 (Nat.zero_le _) ?_ ?_
  ·show FLe _ ⟨[(0,.int .i64 n),(6,.list 1 ((zN n E).map YX)),(7,.own 100 0 0 n),(26,.list 1 ((zN n E).map YX)),(27,.int .i64 n),(28,.int .i64 i),(32,.list 1 ((zt E i).map zy)),(33,.int .i64 (zt E i).length),(34,.int .i64 0)],[(100,⟨0,.own,3,1,M.map zy⟩)]⟩
   exact (FLe.cv [⟨100,some 100,0,⟨0,.own,3,1,M.map zy⟩⟩] (by repeat (first|exact .nil|refine .old rfl (by decide) rfl ?_)) (by repeat (first|exact .nil|refine .cons (.plain rfl rfl rfl) ?_|refine .cons (.own rfl (.head _) rfl rfl) ?_)))
  intro j hj
  (repeat (first|refine FW.seq ?_|refine FW.region ?_|refine zc.nil ?_|refine zX rfl rfl rfl rfl ?_))
  refine FW.cond rfl (fun h=>?_) (fun h=>?_)
  ·have hlt2:j<(zt E i).length:=by simpa using h
   clear h
   obtain ⟨w,hw⟩:∃ w:Nat,nth (zt E i) j=w:=⟨(nth (zt E i) j).toNat,by have:=(yx hin (zC hlt2)).1;omega⟩
   have hwn:w<n:=by have:=(yx hin (zC hlt2)).2;omega
   have hst:((zt E i).take (j+1)).foldl zbv M=(((zt E i).take j).foldl zbv M).set w (nth (((zt E i).take j).foldl zbv M) w+1):=by
    rw [List.take_succ_eq_append_getElem hlt2,List.foldl_append,← nth_eq hlt2,hw];rfl
   have hbd:0≤nth (((zt E i).take j).foldl zbv M) w∧nth (((zt E i).take j).foldl zbv M) w≤n+1:=by
    rw [zab (n:=n) (List.Nodup.sublist (List.take_sublist _ _) (ZM E i)) (fun q hq=>yx hin (List.mem_of_mem_take hq)) hml w hwn]
    have:=hmb w hwn
    split <;> omega
   have hzl:(((zt E i).take j).foldl zbv M).length=n:=by rw [zaa];exact hml
   obtain ⟨Z,hZ⟩:∃ Z,((zt E i).take j).foldl zbv M=Z:=⟨_,rfl⟩
   rw [hZ] at hst hbd hzl ⊢
   (repeat (first|refine FW.seq ?_|refine FW.region ?_|refine FW.block ?_|refine FW.skip ?_|refine zc.nil ?_|refine zb rfl rfl rfl ?_|refine za rfl rfl rfl ?_|refine zn rfl rfl (by first|rfl|exact (Int.toNat_of_nonneg (by omega)).symm) rfl rfl rfl (by first|omega|(simp;omega)) rfl rfl ?_|refine zW rfl rfl (by first|rfl|exact (Int.toNat_of_nonneg (by omega)).symm) rfl rfl rfl (by decide) rfl (by first|omega|(simp;omega)) rfl rfl ?_|refine zj rfl rfl rfl (by first|omega|(simp;omega)) (by first|exact zf (by omega)|rfl) rfl rfl rfl rfl ?_|refine zq rfl rfl rfl rfl rfl (by first|omega|(simp;omega)) (by first|exact zf (by omega)|rfl) rfl rfl rfl rfl ?_))
   rw [hw,Int.toNat_natCast]
   (repeat (first|refine FW.region ?_|refine zc.nil ?_|refine za rfl rfl rfl ?_|refine zW rfl rfl rfl rfl rfl rfl (by decide) rfl (by first|omega|(simp;omega)) rfl rfl ?_|refine zu rfl rfl (by omega) rfl rfl ?_|refine Yt rfl rfl rfl rfl rfl rfl (by first|omega|(simp;omega)) (by first|exact zf (by omega)|rfl) rfl rfl rfl ?_))
   rw [show (zy (nth Z w)).set 0 (.int .i64 (nth Z w+1))=zy (nth Z w+1) from rfl,← List.map_set,← hst]
   skip
   refine ⟨j+1,by omega,by omega,?_⟩
   obtain ⟨Y,hY⟩:∃ Y,(((zt E i).take (j+1)).foldl zbv M).map zy=Y:=⟨_,rfl⟩
   rw [hY]
   exact (FLe.cv [⟨100,some 100,0,⟨0,.own,3,1,Y⟩⟩] (by repeat (first|exact .nil|refine .old rfl (by decide) rfl ?_)) (by repeat (first|exact .nil|refine .cons (.plain rfl rfl rfl) ?_|refine .cons (.own rfl (.head _) rfl rfl) ?_)))
  ·obtain rfl:j=(zt E i).length:=by simp at h;omega
   clear h hj
   rw [List.take_length,← hms]
   (repeat (first|refine FW.region ?_|refine FW.exit ?_|refine zc.nil ?_|refine za rfl rfl rfl ?_|refine zu rfl rfl (by omega) rfl rfl ?_))
   refine ⟨i+1,by omega,by omega,?_⟩
   exact (FLe.cv [⟨100,some 100,0,⟨0,.own,3,1,(Ym n E (i+1)).map zy⟩⟩] (by repeat (first|exact .nil|refine .old rfl (by decide) rfl ?_)) (by repeat (first|exact .nil|refine .cons (.plain rfl rfl rfl) ?_|refine .cons (.own rfl (.head _) rfl rfl) ?_)))
 ·obtain rfl:i=n:=by simp at h;omega
  clear h hi hml hmb
  rw [zgC]
  obtain ⟨hml,hmc⟩:=zbD hin
  have hcb:∀ w,zee i E [] w≤i:=fun w=>by
   have:zee i E [] w≤(List.range i).length:=List.countP_le_length
   rwa [List.length_range] at this
  (repeat (first|refine FW.seq ?_|refine FW.region ?_|refine FW.exit ?_|refine zgY rfl rfl rfl rfl rfl rfl ?_))
  refine zk4 (f:=.own 46 (0+1) 0 0) rfl (.inr (.inl ⟨_,_,_,_,rfl,⟨by show ya.own≠.dead;decide,rfl⟩⟩)) rfl rfl rfl ?_
  refine zd0 rfl rfl rfl rfl rfl ?_
  (repeat (first|refine FW.seq ?_|refine FW.region ?_|refine FW.block ?_|refine zc.nil ?_|refine zb rfl rfl rfl ?_|refine za rfl rfl rfl ?_|refine yN rfl rfl rfl (by decide) rfl rfl ?_|refine zg5 rfl rfl rfl rfl rfl rfl (by decide) (by simp;done) rfl ?_|refine zg2 rfl rfl rfl rfl ?_))
  obtain ⟨n,hni⟩:∃ n,i=n:=⟨_,rfl⟩
  subst hni
  generalize hMM:za9 i E=M at hml hmc
  obtain ⟨n,hni⟩:∃ n,n=i:=⟨_,rfl⟩
  subst hni
  refine FW.loop (fun k:Nat=>⟨[(0,.int .i64 n),(6,.list 1 ((zN n E).map YX)),(7,.own 100 0 0 n),(12,.ptr 110 0 0 0),(13,.wrap (.fn 60) [.ptr 110 0 0 0]),(49,.own 100 0 0 n),(50,.int .i64 n),(51,.int .i64 k)],[(100,⟨0,.own,3,1,M.map zy⟩),(110,⟨0,.hrow,96,1,[[.ptr 111 0 0 0]]⟩),(111,⟨0,.hrow,97,1,[[.own 112 0 0 (xH M k).length]]⟩),(112,⟨0,.own,3,1,(xH M k).map zy⟩)]⟩) (fun k=>k≤n) (fun k=>n - k) 0 (Nat.zero_le _) ?_ ?_
  ·show FLe _ ⟨[(0,.int .i64 n),(6,.list 1 ((zN n E).map YX)),(7,.own 100 0 0 n),(12,.ptr 110 0 0 0),(13,.wrap (.fn 60) [.ptr 110 0 0 0]),(49,.own 100 0 0 n),(50,.int .i64 n),(51,.int .i64 0)],[(100,⟨0,.own,3,1,M.map zy⟩),(110,⟨0,.hrow,96,1,[[.ptr 111 0 0 0]]⟩),(111,⟨0,.hrow,97,1,[[.own 112 0 0 0]]⟩),(112,⟨0,.own,3,1,[]⟩)]⟩
   exact (FLe.cv [⟨100,some 100,0,⟨0,.own,3,1,M.map zy⟩⟩,⟨110,some 12,0+1,⟨0,.hrow,96,1,[[.ptr 111 0 0 0]]⟩⟩,⟨111,some 47,0+1,⟨0,.hrow,97,1,[[.own 112 0 0 0]]⟩⟩,⟨112,some 46,0+1,⟨0,.own,3,1,[]⟩⟩] (by repeat (first|exact .nil|refine .old rfl (by decide) rfl ?_|refine .oldH rfl (by repeat (first|exact .nil|refine .cons (.ptr (.tail _ (.tail _ (.head _))) rfl) ?_|refine .cons (.own (.tail _ (.tail _ (.tail _ (.head _)))) rfl rfl rfl) ?_)) ?_)) (by repeat (first|exact .nil|refine .cons (.plain rfl rfl rfl) ?_|refine .cons (.own rfl (.head _) rfl rfl) ?_|refine .cons (.ptr rfl (.tail _ (.head _)) rfl) ?_|refine .cons (.wrap rfl (by repeat (first|exact zd.nil|refine zd.cons (.plain rfl rfl) ?_|refine zd.cons (.ptr (.head _) rfl) ?_|refine zd.cons (.own (.head _) rfl rfl rfl) ?_|refine zd.cons (.omap (.head _) rfl) ?_|refine zd.cons (.ptr (.tail _ (.head _)) rfl) ?_|refine zd.cons (.own (.tail _ (.head _)) rfl rfl rfl) ?_|refine zd.cons (.omap (.tail _ (.head _)) rfl) ?_|refine zd.cons (.ptr (.tail _ (.tail _ (.head _))) rfl) ?_|refine zd.cons (.own (.tail _ (.tail _ (.head _))) rfl rfl rfl) ?_|refine zd.cons (.omap (.tail _ (.tail _ (.head _))) rfl) ?_|refine zd.cons (.ptr (.tail _ (.tail _ (.tail _ (.head _)))) rfl) ?_|refine zd.cons (.own (.tail _ (.tail _ (.tail _ (.head _)))) rfl rfl rfl) ?_|refine zd.cons (.omap (.tail _ (.tail _ (.tail _ (.head _)))) rfl) ?_))) ?_)))
  intro k hk
  (repeat (first|refine FW.seq ?_|refine FW.region ?_|refine zc.nil ?_|refine zX rfl rfl rfl rfl ?_))
  refine FW.cond rfl (fun h=>?_) (fun h=>?_)
  ·have hlt:k<n:=by simpa using h
   clear h
   have hmk:=hmc k hlt
   have hck:=hcb k
   have hrs:xH M (k+1)=if nth M k=0 then Xf (xH M k) k else xH M k:=by
    unfold xH
    rw [List.range_succ,List.foldl_append];rfl
   have hrl:(xH M k).length≤k:=Yo (YM M k).2.1 fun x hx=>(((YM M k).2.2 x).1 hx).1
   obtain ⟨H,hH⟩:∃ H,xH M k=H:=⟨_,rfl⟩
   rw [hH] at hrs hrl ⊢
   (repeat (first|refine FW.seq ?_|refine FW.region ?_|refine FW.block ?_|refine FW.skip ?_|refine zc.nil ?_|refine zb rfl rfl rfl ?_|refine za rfl rfl rfl ?_|refine zW rfl rfl rfl rfl rfl rfl (by decide) rfl (by first|omega|(simp;omega)) rfl rfl ?_|refine zq rfl rfl rfl rfl rfl (by first|omega|(simp;omega)) (by first|exact zf (by omega)|rfl) rfl rfl rfl rfl ?_|refine yG rfl rfl rfl rfl ?_))
   refine FW.cond rfl (fun h=>?_) (fun h=>?_)
   ·rw [if_pos (by simpa using h)] at hrs
    (repeat (first|refine FW.region ?_|refine za rfl rfl rfl ?_))
    refine zd1 rfl (zaN 0 0 0 H k (by omega)) [(5002,110),(5000,111),(5001,112)] rfl (zB.cons rfl rfl rfl (zB.cons rfl rfl rfl (zB.cons rfl rfl rfl zB.nil))) rfl rfl rfl rfl rfl rfl ?_
    rintro _ ob' ⟨rfl,h2,h0,h1⟩
    refine xg.one [(110,⟨0,.hrow,96,1,[[.ptr 111 0 0 0]]⟩),(111,⟨0,.hrow,97,1,[[.own 112 (0+1) 0 (H.length+1)]]⟩),(112,⟨0+1,.own,3,1,(Xf H k).map zy⟩)] (.tup []) rfl (by show [(110,zh.ren _ (look {} ob' 5002)),(111,zh.ren _ (look {} ob' 5000)),(112,zh.ren _ (look {} ob' 5001))]=_;rw [h2,h0,h1];rfl) ?_
    clear h2 h0 h1 ob'
    (repeat (first|refine FW.region ?_|refine zc.nil ?_|refine za rfl rfl rfl ?_|refine zu rfl rfl (by omega) rfl rfl ?_))
    refine ⟨k+1,by omega,by omega,?_⟩
    rw [hrs]
    have hpl:=UY H k
    generalize Xf H k=Y at hpl
    rw [hpl]
    exact (FLe.cv [⟨100,some 100,0,⟨0,.own,3,1,M.map zy⟩⟩,⟨110,some 110,0,⟨0,.hrow,96,1,[[.ptr 111 0 0 0]]⟩⟩,⟨111,some 111,0,⟨0,.hrow,97,1,[[.own 112 0 0 (H.length+1)]]⟩⟩,⟨112,some 112,0+1,⟨0,.own,3,1,Y.map zy⟩⟩] (by repeat (first|exact .nil|refine .old rfl (by decide) rfl ?_|refine .oldH rfl (by repeat (first|exact .nil|refine .cons (.ptr (.tail _ (.tail _ (.head _))) rfl) ?_|refine .cons (.own (.tail _ (.tail _ (.tail _ (.head _)))) rfl rfl rfl) ?_)) ?_)) (by repeat (first|exact .nil|refine .cons (.plain rfl rfl rfl) ?_|refine .cons (.own rfl (.head _) rfl rfl) ?_|refine .cons (.ptr rfl (.tail _ (.head _)) rfl) ?_|refine .cons (.wrap rfl (by repeat (first|exact zd.nil|refine zd.cons (.plain rfl rfl) ?_|refine zd.cons (.ptr (.head _) rfl) ?_|refine zd.cons (.own (.head _) rfl rfl rfl) ?_|refine zd.cons (.omap (.head _) rfl) ?_|refine zd.cons (.ptr (.tail _ (.head _)) rfl) ?_|refine zd.cons (.own (.tail _ (.head _)) rfl rfl rfl) ?_|refine zd.cons (.omap (.tail _ (.head _)) rfl) ?_|refine zd.cons (.ptr (.tail _ (.tail _ (.head _))) rfl) ?_|refine zd.cons (.own (.tail _ (.tail _ (.head _))) rfl rfl rfl) ?_|refine zd.cons (.omap (.tail _ (.tail _ (.head _))) rfl) ?_|refine zd.cons (.ptr (.tail _ (.tail _ (.tail _ (.head _)))) rfl) ?_|refine zd.cons (.own (.tail _ (.tail _ (.tail _ (.head _)))) rfl rfl rfl) ?_|refine zd.cons (.omap (.tail _ (.tail _ (.tail _ (.head _)))) rfl) ?_))) ?_)))
   ·rw [if_neg (by simpa using h)] at hrs
    (repeat (first|refine FW.region ?_|refine FW.skip ?_|refine zc.nil ?_|refine za rfl rfl rfl ?_|refine zu rfl rfl (by omega) rfl rfl ?_))
    refine ⟨k+1,by omega,by omega,?_⟩
    rw [hrs]
    exact (FLe.cv [⟨100,some 100,0,⟨0,.own,3,1,M.map zy⟩⟩,⟨110,some 110,0,⟨0,.hrow,96,1,[[.ptr 111 0 0 0]]⟩⟩,⟨111,some 111,0,⟨0,.hrow,97,1,[[.own 112 0 0 H.length]]⟩⟩,⟨112,some 112,0,⟨0,.own,3,1,H.map zy⟩⟩] (by repeat (first|exact .nil|refine .old rfl (by decide) rfl ?_|refine .oldH rfl (by repeat (first|exact .nil|refine .cons (.ptr (.tail _ (.tail _ (.head _))) rfl) ?_|refine .cons (.own (.tail _ (.tail _ (.tail _ (.head _)))) rfl rfl rfl) ?_)) ?_)) (by repeat (first|exact .nil|refine .cons (.plain rfl rfl rfl) ?_|refine .cons (.own rfl (.head _) rfl rfl) ?_|refine .cons (.ptr rfl (.tail _ (.head _)) rfl) ?_|refine .cons (.wrap rfl (by repeat (first|exact zd.nil|refine zd.cons (.plain rfl rfl) ?_|refine zd.cons (.ptr (.head _) rfl) ?_|refine zd.cons (.own (.head _) rfl rfl rfl) ?_|refine zd.cons (.omap (.head _) rfl) ?_|refine zd.cons (.ptr (.tail _ (.head _)) rfl) ?_|refine zd.cons (.own (.tail _ (.head _)) rfl rfl rfl) ?_|refine zd.cons (.omap (.tail _ (.head _)) rfl) ?_|refine zd.cons (.ptr (.tail _ (.tail _ (.head _))) rfl) ?_|refine zd.cons (.own (.tail _ (.tail _ (.head _))) rfl rfl rfl) ?_|refine zd.cons (.omap (.tail _ (.tail _ (.head _))) rfl) ?_|refine zd.cons (.ptr (.tail _ (.tail _ (.tail _ (.head _)))) rfl) ?_|refine zd.cons (.own (.tail _ (.tail _ (.tail _ (.head _)))) rfl rfl rfl) ?_|refine zd.cons (.omap (.tail _ (.tail _ (.tail _ (.head _)))) rfl) ?_))) ?_)))
  ·obtain rfl:k=n:=by simp at h;omega
   clear h hk
   have hTI:=TI.start hin
   have hst:yv k E=⟨M,xH M k,[]⟩:=by unfold yv;rw [hMM]
   have hend:(yb E (k+1) (yv k E)).out=yU k E:=rfl
   rw [hst] at hTI hend
   (repeat (first|refine FW.seq ?_|refine FW.region ?_|refine FW.block ?_|refine FW.exit ?_|refine zc.nil ?_|refine zb rfl rfl rfl ?_|refine Zu rfl rfl rfl rfl rfl rfl rfl ?_|refine zjZ rfl rfl rfl rfl ?_))
   obtain ⟨n,hni⟩:∃ n,n=k:=⟨_,rfl⟩
   subst hni
   generalize xH M n=H at hTI hend
   clear hMM hst hcb hmc hml
   refine FW.loop (fun s:zcN=>⟨[(0,.int .i64 n),(6,.list 1 ((zN n E).map YX)),(7,.own 100 0 0 n),(12,.ptr 110 0 0 0),(13,.wrap (.fn 60) [.ptr 110 0 0 0]),(16,.own 101 0 0 s.out.length),(17,.wrap (.bound 62) [.ptr 111 0 0 0])],[(101,⟨0,.own,3,1,s.out.map zy⟩),(100,⟨0,.own,3,1,s.m.map zy⟩),(110,⟨0,.hrow,96,1,[[.ptr 111 0 0 0]]⟩),(111,⟨0,.hrow,97,1,[[.own 112 0 0 s.h.length]]⟩),(112,⟨0,.own,3,1,s.h.map zy⟩)]⟩) (fun s=>TI n E s∧∃ k,n<s.out.length+k∧(yb E k s).out=yU n E) (fun s=>n - s.out.length) ⟨M,H,[]⟩ ⟨hTI,n+1,by show n<0+(n+1);omega,hend⟩ ?_ ?_
   ·show FLe _ ⟨[(0,.int .i64 n),(6,.list 1 ((zN n E).map YX)),(7,.own 100 0 0 n),(12,.ptr 110 0 0 0),(13,.wrap (.fn 60) [.ptr 110 0 0 0]),(16,.own 101 0 0 0),(17,.wrap (.bound 62) [.ptr 111 0 0 0])],[(101,⟨0,.own,3,1,[]⟩),(100,⟨0,.own,3,1,M.map zy⟩),(110,⟨0,.hrow,96,1,[[.ptr 111 0 0 0]]⟩),(111,⟨0,.hrow,97,1,[[.own 112 0 0 H.length]]⟩),(112,⟨0,.own,3,1,H.map zy⟩)]⟩
    exact (FLe.cv [⟨101,none,0,⟨0,.own,3,1,[]⟩⟩,⟨100,some 100,0,⟨0,.own,3,1,M.map zy⟩⟩,⟨110,some 110,0,⟨0,.hrow,96,1,[[.ptr 111 0 0 0]]⟩⟩,⟨111,some 111,0,⟨0,.hrow,97,1,[[.own 112 0 0 H.length]]⟩⟩,⟨112,some 112,0,⟨0,.own,3,1,H.map zy⟩⟩] (by repeat (first|exact .nil|refine .old rfl (by decide) rfl ?_|refine .oldH rfl (by repeat (first|exact .nil|refine .cons (.ptr (.tail _ (.tail _ (.tail _ (.head _)))) rfl) ?_|refine .cons (.own (.tail _ (.tail _ (.tail _ (.tail _ (.head _))))) rfl rfl rfl) ?_)) ?_|refine .new ?_)) (by repeat (first|exact .nil|refine .cons (.plain rfl rfl rfl) ?_|refine .cons (.nil rfl (.head _) rfl) ?_|refine .cons (.own rfl (.tail _ (.head _)) rfl rfl) ?_|refine .cons (.ptr rfl (.tail _ (.tail _ (.head _))) rfl) ?_|refine .cons (.wrap rfl (by repeat (first|exact zd.nil|refine zd.cons (.plain rfl rfl) ?_|refine zd.cons (.ptr (.head _) rfl) ?_|refine zd.cons (.own (.head _) rfl rfl rfl) ?_|refine zd.cons (.omap (.head _) rfl) ?_|refine zd.cons (.ptr (.tail _ (.head _)) rfl) ?_|refine zd.cons (.own (.tail _ (.head _)) rfl rfl rfl) ?_|refine zd.cons (.omap (.tail _ (.head _)) rfl) ?_|refine zd.cons (.ptr (.tail _ (.tail _ (.head _))) rfl) ?_|refine zd.cons (.own (.tail _ (.tail _ (.head _))) rfl rfl rfl) ?_|refine zd.cons (.omap (.tail _ (.tail _ (.head _))) rfl) ?_|refine zd.cons (.ptr (.tail _ (.tail _ (.tail _ (.head _)))) rfl) ?_|refine zd.cons (.own (.tail _ (.tail _ (.tail _ (.head _)))) rfl rfl rfl) ?_|refine zd.cons (.omap (.tail _ (.tail _ (.tail _ (.head _)))) rfl) ?_|refine zd.cons (.ptr (.tail _ (.tail _ (.tail _ (.tail _ (.head _))))) rfl) ?_|refine zd.cons (.own (.tail _ (.tail _ (.tail _ (.tail _ (.head _))))) rfl rfl rfl) ?_|refine zd.cons (.omap (.tail _ (.tail _ (.tail _ (.tail _ (.head _))))) rfl) ?_))) ?_)))
   clear hTI hend M H
   rintro ⟨m,h,out⟩ ⟨hTI,fu,hfu,hend⟩
   dsimp only at hfu hend ⊢
   have hhl:h.length≤n:=hTI.hle
   have hml:m.length=n:=hTI.len
   have hol:out.length≤n:=hTI.le
   (repeat (first|refine FW.seq ?_|refine FW.region ?_|refine za rfl rfl rfl ?_))
   refine ziS rfl (Vy 0 0 h) [(5000,111),(5001,112)] rfl (zB.cons rfl rfl rfl (zB.cons rfl rfl rfl zB.nil)) rfl rfl rfl rfl rfl rfl ?_
   rintro _ ob' ⟨rfl,h1,h2⟩
   refine xg.one [(111,⟨0,.hrow,97,1,[[.own 112 0 0 h.length]]⟩),(112,⟨0,.own,3,1,h.map zy⟩)] (.int .i64 h.length) rfl (by show [(111,zh.ren _ (look {} ob' 5000)),(112,zh.ren _ (look {} ob' 5001))]=_;rw [h1,h2];rfl) ?_
   clear h1 h2 ob'
   (repeat (first|refine zc.nil ?_|refine Ys rfl rfl rfl rfl ?_))
   refine FW.cond rfl (fun hc=>?_) (fun hc=>?_)
   ·obtain ⟨k,hk⟩:∃ k,h.length=k+1:=⟨h.length - 1,by simp at hc;omega⟩
    clear hc
    (repeat (first|refine FW.seq ?_|refine FW.region ?_|refine FW.block ?_|refine FW.skip ?_|refine Zu rfl rfl rfl rfl rfl rfl rfl ?_|refine zax rfl rfl (by kernel_rfl) rfl rfl ?_))
    refine xI (zgr 0 0 h k hk (by omega)) [(5000,111),(5001,112)] rfl (zB.cons rfl rfl rfl (zB.cons rfl rfl rfl zB.nil)) rfl rfl rfl rfl rfl rfl ?_
    rintro _ ob' ⟨rfl,h1,h2⟩
    refine xg.one [(111,⟨0,.hrow,97,1,[[.own 112 (0+1) 0 k]]⟩),(112,⟨0+1,.own,3,1,((yM h k).take k).map zy⟩)] (.iface 3 (.int .i64 (nth (yM h k) k))) rfl (by show [(111,zh.ren _ (look {} ob' 5000)),(112,zh.ren _ (look {} ob' 5001))]=_;rw [h1,h2];rfl) ?_
    clear h1 h2 ob'
    obtain ⟨v,hv,hvn,hvo,hm0,hmin,hDI,hN,hR⟩:=hTI.first hk
    dsimp only at hv hvo hm0 hmin hDI hN hR
    rw [hv]
    have hstep:yV E ⟨m,h,out⟩=⟨((zt E v).foldl decr (m,(yM h k).take k)).1,((zt E v).foldl decr (m,(yM h k).take k)).2,out++[(v:Int)]⟩:=by
     unfold yV
     dsimp only
     rw [show h.length - 1=k by omega,hv];rfl
    have hTI':=hTI.step hin (by rintro e;rw [show h=[] from e] at hk;simp at hk)
    rw [hstep] at hTI'
    have hend' : ∀ f,fu=f+1→(yb E f (yV E ⟨m,h,out⟩)).out=yU n E:=fun f hf=>by
     subst hf
     rw [← hend]
     exact (congrArg zcN.out (show yb E (f+1) ⟨m,h,out⟩=yb E f (yV E ⟨m,h,out⟩) from if_neg (by rintro e;rw [show h=[] from e] at hk;simp at hk))).symm
    rw [hstep] at hend'
    have hsl:=Xq E v
    (repeat (first|refine FW.seq ?_|refine FW.region ?_|refine FW.block ?_|refine zc.nil ?_|refine zb rfl rfl rfl ?_|refine za rfl rfl rfl ?_|refine zp rfl rfl (by first|exact List.length_map _|exact (List.length_map _).symm|rfl|(simp;done)|(simp;omega)) rfl rfl ?_|refine zn rfl rfl rfl rfl rfl rfl (by first|(simp;omega)|(simp;done)) rfl rfl ?_|refine zj rfl rfl rfl (by first|(simp;omega)|(simp;done)) (by first|exact zf (by omega)|rfl) rfl rfl rfl rfl ?_|refine xq rfl rfl rfl rfl rfl rfl rfl rfl ?_|refine zg8 rfl rfl rfl (by kernel_rfl) rfl rfl ?_|refine Wn rfl rfl (by first|exact List.length_map _|exact (List.length_map _).symm|rfl|(simp;done)|(simp;omega)) rfl rfl rfl (by decide) (by exact Yg.own rfl rfl (by decide) (by first|exact List.length_map _|exact (List.length_map _).symm|exact List.length_replicate|rfl|(simp;done)|omega|(simp;omega))) (by first|(simp;omega)|(simp;done)) (by first|(simp;omega)|(simp;done)) rfl rfl rfl ?_))
    rw [hrn v hvn]
    obtain ⟨O,hO⟩:∃ O,out++[(v:Int)]=O:=⟨_,rfl⟩
    obtain ⟨Om,hOm⟩:∃ Om,out.map zy++[[.int .i64 v]]=Om:=⟨_,rfl⟩
    have hOO:O.map zy=Om:=by rw [← hO,← hOm,List.map_append];rfl
    have hOl:Om.length=O.length:=by rw [← hOO,List.length_map]
    have hOl2:O.length=out.length+1:=by rw [← hO];simp
    rw [hO] at hDI hN hR hTI' hend'
    rw [hOm,hOl]
    have htl:((yM h k).take k).length=k:=by rw [List.length_take,UX];omega
    obtain ⟨H0,hH0⟩:∃ H0,(yM h k).take k=H0:=⟨_,rfl⟩
    rw [hH0] at hDI htl hTI' hend' ⊢
    clear hstep hH0 hv hmin
    refine FW.loop (fun j:Nat=>⟨[(0,.int .i64 n),(6,.list 1 ((zN n E).map YX)),(7,.own 100 0 0 n),(12,.ptr 110 0 0 0),(13,.wrap (.fn 60) [.ptr 110 0 0 0]),(16,.own 101 0 0 O.length),(17,.wrap (.bound 62) [.ptr 111 0 0 0]),(78,.list 1 ((zt E v).map zy)),(79,.int .i64 (zt E v).length),(80,.int .i64 j)],[(101,⟨0,.own,3,1,O.map zy⟩),(100,⟨0,.own,3,1,(((zt E v).take j).foldl decr (m,H0)).1.map zy⟩),(110,⟨0,.hrow,96,1,[[.ptr 111 0 0 0]]⟩),(111,⟨0,.hrow,97,1,[[.own 112 0 0 (((zt E v).take j).foldl decr (m,H0)).2.length]]⟩),(112,⟨0,.own,3,1,(((zt E v).take j).foldl decr (m,H0)).2.map zy⟩)]⟩) (fun j=>j≤(zt E v).length) (fun j=>(zt E v).length - j) 0 (Nat.zero_le _) ?_ ?_
    ·show FLe _ ⟨[(0,.int .i64 n),(6,.list 1 ((zN n E).map YX)),(7,.own 100 0 0 n),(12,.ptr 110 0 0 0),(13,.wrap (.fn 60) [.ptr 110 0 0 0]),(16,.own 101 0 0 O.length),(17,.wrap (.bound 62) [.ptr 111 0 0 0]),(78,.list 1 ((zt E v).map zy)),(79,.int .i64 (zt E v).length),(80,.int .i64 0)],[(101,⟨0,.own,3,1,O.map zy⟩),(100,⟨0,.own,3,1,m.map zy⟩),(110,⟨0,.hrow,96,1,[[.ptr 111 0 0 0]]⟩),(111,⟨0,.hrow,97,1,[[.own 112 0 0 H0.length]]⟩),(112,⟨0,.own,3,1,H0.map zy⟩)]⟩
     rw [← hOO,htl]
     exact (FLe.cv [⟨101,some 74,0+1,⟨0,.own,3,1,O.map zy⟩⟩,⟨100,some 100,0,⟨0,.own,3,1,m.map zy⟩⟩,⟨110,some 110,0,⟨0,.hrow,96,1,[[.ptr 111 0 0 0]]⟩⟩,⟨111,some 111,0,⟨0,.hrow,97,1,[[.own 112 0 0 k]]⟩⟩,⟨112,some 112,0+1,⟨0,.own,3,1,H0.map zy⟩⟩] (by repeat (first|exact .nil|refine .old rfl (by decide) rfl ?_|refine .oldH rfl (by repeat (first|exact .nil|refine .cons (.ptr (.tail _ (.tail _ (.tail _ (.head _)))) rfl) ?_|refine .cons (.own (.tail _ (.tail _ (.tail _ (.tail _ (.head _))))) rfl rfl rfl) ?_)) ?_)) (by repeat (first|exact .nil|refine .cons (.plain rfl rfl rfl) ?_|refine .cons (.own rfl (.head _) rfl rfl) ?_|refine .cons (.own rfl (.tail _ (.head _)) rfl rfl) ?_|refine .cons (.ptr rfl (.tail _ (.tail _ (.head _))) rfl) ?_|refine .cons (.wrap rfl (by repeat (first|exact zd.nil|refine zd.cons (.plain rfl rfl) ?_|refine zd.cons (.ptr (.head _) rfl) ?_|refine zd.cons (.own (.head _) rfl rfl rfl) ?_|refine zd.cons (.omap (.head _) rfl) ?_|refine zd.cons (.ptr (.tail _ (.head _)) rfl) ?_|refine zd.cons (.own (.tail _ (.head _)) rfl rfl rfl) ?_|refine zd.cons (.omap (.tail _ (.head _)) rfl) ?_|refine zd.cons (.ptr (.tail _ (.tail _ (.head _))) rfl) ?_|refine zd.cons (.own (.tail _ (.tail _ (.head _))) rfl rfl rfl) ?_|refine zd.cons (.omap (.tail _ (.tail _ (.head _))) rfl) ?_|refine zd.cons (.ptr (.tail _ (.tail _ (.tail _ (.head _)))) rfl) ?_|refine zd.cons (.own (.tail _ (.tail _ (.tail _ (.head _)))) rfl rfl rfl) ?_|refine zd.cons (.omap (.tail _ (.tail _ (.tail _ (.head _)))) rfl) ?_|refine zd.cons (.ptr (.tail _ (.tail _ (.tail _ (.tail _ (.head _))))) rfl) ?_|refine zd.cons (.own (.tail _ (.tail _ (.tail _ (.tail _ (.head _))))) rfl rfl rfl) ?_|refine zd.cons (.omap (.tail _ (.tail _ (.tail _ (.tail _ (.head _))))) rfl) ?_))) ?_)))
    intro j hj
    have hDj:=DI.fold (r1:=(zt E v).take j) (r2:=(zt E v).drop j) hR (by rw [List.take_append_drop];exact hDI) (by rw [List.take_append_drop];exact ZM E v) (by rw [List.take_append_drop];exact fun w hw=>yx hin hw)
    have hst:∀ hl:j<(zt E v).length,((zt E v).take (j+1)).foldl decr (m,H0)=decr (((zt E v).take j).foldl decr (m,H0)) (nth (zt E v) j):=fun hl=>by
     rw [List.take_succ_eq_append_getElem hl,List.foldl_append,← nth_eq hl];rfl
    have hlast:j=(zt E v).length→(zt E v).foldl decr (m,H0)=((zt E v).take j).foldl decr (m,H0):=fun e=>by rw [e,List.take_length]
    generalize ((zt E v).take j).foldl decr (m,H0)=q at hDj hst hlast
    obtain ⟨qm,qh⟩:=q
    have hql:qm.length=n:=hDj.len
    have hqh:qh.length≤n:=Yo hDj.hN fun x hx=>((hDj.hM x).1 hx).1
    dsimp only
    (repeat (first|refine FW.seq ?_|refine FW.region ?_|refine zc.nil ?_|refine zX rfl rfl rfl rfl ?_))
    refine FW.cond rfl (fun hc=>?_) (fun hc=>?_)
    ·have hlt2:j<(zt E v).length:=by simpa using hc
     clear hc hlast
     have hst:=hst hlt2
     obtain ⟨w,hw⟩:∃ w:Nat,nth (zt E v) j=w:=⟨(nth (zt E v) j).toNat,by have:=(yx hin (zC hlt2)).1;omega⟩
     have hwn:w<n:=by have:=(yx hin (zC hlt2)).2;omega
     have hbd:0≤nth qm w∧nth qm w≤n+1:=by
      have h1:=hDj.cnt w hwn
      have h2:zee n E O w≤(List.range n).length:=List.countP_le_length
      rw [List.length_range] at h2
      dsimp only at h1
      rw [h1]
      split <;> omega
     have hdec:decr (qm,qh) (w:Int)=(qm.set w (nth qm w - 1),if nth qm w - 1=0 then Xf qh w else qh):=by unfold decr;rw [Int.toNat_natCast]
     rw [hw,hdec] at hst
     obtain ⟨Z,hZ⟩:∃ Z,qm.set w (nth qm w - 1)=Z:=⟨_,rfl⟩
     have hZl:Z.length=n:=by rw [← hZ];simpa using hql
     have hZw:nth Z w=nth qm w - 1:=by rw [← hZ];exact zH (by omega)
     rw [hZ] at hst
     (repeat (first|refine FW.seq ?_|refine FW.region ?_|refine FW.block ?_|refine FW.skip ?_|refine zc.nil ?_|refine zb rfl rfl rfl ?_|refine za rfl rfl rfl ?_|refine zn rfl rfl (by first|rfl|exact (Int.toNat_of_nonneg (by omega)).symm) rfl rfl rfl (by first|omega|(simp;omega)) rfl rfl ?_|refine zW rfl rfl (by first|rfl|exact (Int.toNat_of_nonneg (by omega)).symm) rfl rfl rfl (by decide) rfl (by first|omega|(simp;omega)) rfl rfl ?_|refine zj rfl rfl rfl (by first|omega|(simp;omega)) (by first|exact zf (by omega)|rfl) rfl rfl rfl rfl ?_|refine zq rfl rfl rfl rfl rfl (by first|omega|(simp;omega)) (by first|exact zf (by omega)|rfl) rfl rfl rfl rfl ?_))
     rw [hw,Int.toNat_natCast]
     (repeat (first|refine FW.seq ?_|refine FW.region ?_|refine zc.nil ?_|refine za rfl rfl rfl ?_|refine zW rfl rfl rfl rfl rfl rfl (by decide) rfl (by first|omega|(simp;omega)) rfl rfl ?_|refine Yt rfl rfl rfl rfl rfl rfl (by first|omega|(simp;omega)) (by first|exact zf (by omega)|rfl) rfl rfl rfl ?_|refine zaA rfl rfl (by omega) rfl rfl ?_))
     rw [show (zy (nth qm w)).set 0 (.int .i64 (nth qm w - 1))=zy (nth qm w - 1) from rfl,← List.map_set,hZ]
     (repeat (first|refine zc.nil ?_|refine zq rfl rfl rfl rfl rfl (by simp;omega) (by exact zf (by omega)) rfl rfl rfl rfl ?_|refine yG rfl rfl rfl rfl ?_))
     rw [hZw]
     skip
     refine FW.cond rfl (fun hc=>?_) (fun hc=>?_)
     ·rw [if_pos (by simpa using hc)] at hst
      (repeat (first|refine FW.region ?_|refine za rfl rfl rfl ?_))
      refine zd1 rfl (zaN 0 0 0 qh w (by omega)) [(5002,110),(5000,111),(5001,112)] rfl (zB.cons rfl rfl rfl (zB.cons rfl rfl rfl (zB.cons rfl rfl rfl zB.nil))) rfl rfl rfl rfl rfl rfl ?_
      rintro _ ob' ⟨rfl,h2,h0,h1⟩
      refine xg.one [(110,⟨0,.hrow,96,1,[[.ptr 111 0 0 0]]⟩),(111,⟨0,.hrow,97,1,[[.own 112 (0+1) 0 (qh.length+1)]]⟩),(112,⟨0+1,.own,3,1,(Xf qh w).map zy⟩)] (.tup []) rfl (by show [(110,zh.ren _ (look {} ob' 5002)),(111,zh.ren _ (look {} ob' 5000)),(112,zh.ren _ (look {} ob' 5001))]=_;rw [h2,h0,h1];rfl) ?_
      clear h2 h0 h1 ob'
      (repeat (first|refine FW.region ?_|refine zc.nil ?_|refine za rfl rfl rfl ?_|refine zu rfl rfl (by omega) rfl rfl ?_))
      refine ⟨j+1,by omega,by omega,?_⟩
      rw [hst]
      dsimp only
      have hpl:=UY qh w
      generalize Xf qh w=Y at hpl
      rw [hpl]
      exact (FLe.cv [⟨101,some 101,0,⟨0,.own,3,1,O.map zy⟩⟩,⟨100,some 100,0,⟨0,.own,3,1,Z.map zy⟩⟩,⟨110,some 110,0,⟨0,.hrow,96,1,[[.ptr 111 0 0 0]]⟩⟩,⟨111,some 111,0,⟨0,.hrow,97,1,[[.own 112 0 0 (qh.length+1)]]⟩⟩,⟨112,some 112,0+1,⟨0,.own,3,1,Y.map zy⟩⟩] (by repeat (first|exact .nil|refine .old rfl (by decide) rfl ?_|refine .oldH rfl (by repeat (first|exact .nil|refine .cons (.ptr (.tail _ (.tail _ (.tail _ (.head _)))) rfl) ?_|refine .cons (.own (.tail _ (.tail _ (.tail _ (.tail _ (.head _))))) rfl rfl rfl) ?_)) ?_)) (by repeat (first|exact .nil|refine .cons (.plain rfl rfl rfl) ?_|refine .cons (.own rfl (.head _) rfl rfl) ?_|refine .cons (.own rfl (.tail _ (.head _)) rfl rfl) ?_|refine .cons (.ptr rfl (.tail _ (.tail _ (.head _))) rfl) ?_|refine .cons (.wrap rfl (by repeat (first|exact zd.nil|refine zd.cons (.plain rfl rfl) ?_|refine zd.cons (.ptr (.head _) rfl) ?_|refine zd.cons (.own (.head _) rfl rfl rfl) ?_|refine zd.cons (.omap (.head _) rfl) ?_|refine zd.cons (.ptr (.tail _ (.head _)) rfl) ?_|refine zd.cons (.own (.tail _ (.head _)) rfl rfl rfl) ?_|refine zd.cons (.omap (.tail _ (.head _)) rfl) ?_|refine zd.cons (.ptr (.tail _ (.tail _ (.head _))) rfl) ?_|refine zd.cons (.own (.tail _ (.tail _ (.head _))) rfl rfl rfl) ?_|refine zd.cons (.omap (.tail _ (.tail _ (.head _))) rfl) ?_|refine zd.cons (.ptr (.tail _ (.tail _ (.tail _ (.head _)))) rfl) ?_|refine zd.cons (.own (.tail _ (.tail _ (.tail _ (.head _)))) rfl rfl rfl) ?_|refine zd.cons (.omap (.tail _ (.tail _ (.tail _ (.head _)))) rfl) ?_|refine zd.cons (.ptr (.tail _ (.tail _ (.tail _ (.tail _ (.head _))))) rfl) ?_|refine zd.cons (.own (.tail _ (.tail _ (.tail _ (.tail _ (.head _))))) rfl rfl rfl) ?_|refine zd.cons (.omap (.tail _ (.tail _ (.tail _ (.tail _ (.head _))))) rfl) ?_))) ?_)))
     ·rw [if_neg (by simpa using hc)] at hst
      (repeat (first|refine FW.region ?_|refine FW.skip ?_|refine zc.nil ?_|refine za rfl rfl rfl ?_|refine zu rfl rfl (by omega) rfl rfl ?_))
      refine ⟨j+1,by omega,by omega,?_⟩
      rw [hst]
      dsimp only
      exact (FLe.cv [⟨101,some 101,0,⟨0,.own,3,1,O.map zy⟩⟩,⟨100,some 100,0,⟨0,.own,3,1,Z.map zy⟩⟩,⟨110,some 110,0,⟨0,.hrow,96,1,[[.ptr 111 0 0 0]]⟩⟩,⟨111,some 111,0,⟨0,.hrow,97,1,[[.own 112 0 0 qh.length]]⟩⟩,⟨112,some 112,0,⟨0,.own,3,1,qh.map zy⟩⟩] (by repeat (first|exact .nil|refine .old rfl (by decide) rfl ?_|refine .oldH rfl (by repeat (first|exact .nil|refine .cons (.ptr (.tail _ (.tail _ (.tail _ (.head _)))) rfl) ?_|refine .cons (.own (.tail _ (.tail _ (.tail _ (.tail _ (.head _))))) rfl rfl rfl) ?_)) ?_)) (by repeat (first|exact .nil|refine .cons (.plain rfl rfl rfl) ?_|refine .cons (.own rfl (.head _) rfl rfl) ?_|refine .cons (.own rfl (.tail _ (.head _)) rfl rfl) ?_|refine .cons (.ptr rfl (.tail _ (.tail _ (.head _))) rfl) ?_|refine .cons (.wrap rfl (by repeat (first|exact zd.nil|refine zd.cons (.plain rfl rfl) ?_|refine zd.cons (.ptr (.head _) rfl) ?_|refine zd.cons (.own (.head _) rfl rfl rfl) ?_|refine zd.cons (.omap (.head _) rfl) ?_|refine zd.cons (.ptr (.tail _ (.head _)) rfl) ?_|refine zd.cons (.own (.tail _ (.head _)) rfl rfl rfl) ?_|refine zd.cons (.omap (.tail _ (.head _)) rfl) ?_|refine zd.cons (.ptr (.tail _ (.tail _ (.head _))) rfl) ?_|refine zd.cons (.own (.tail _ (.tail _ (.head _))) rfl rfl rfl) ?_|refine zd.cons (.omap (.tail _ (.tail _ (.head _))) rfl) ?_|refine zd.cons (.ptr (.tail _ (.tail _ (.tail _ (.head _)))) rfl) ?_|refine zd.cons (.own (.tail _ (.tail _ (.tail _ (.head _)))) rfl rfl rfl) ?_|refine zd.cons (.omap (.tail _ (.tail _ (.tail _ (.head _)))) rfl) ?_|refine zd.cons (.ptr (.tail _ (.tail _ (.tail _ (.tail _ (.head _))))) rfl) ?_|refine zd.cons (.own (.tail _ (.tail _ (.tail _ (.tail _ (.head _))))) rfl rfl rfl) ?_|refine zd.cons (.omap (.tail _ (.tail _ (.tail _ (.tail _ (.head _))))) rfl) ?_))) ?_)))
    ·have hje:j=(zt E v).length:=by simp at hc;omega
     rw [hlast hje] at hTI' hend'
     clear hc hlast hst
     (repeat (first|refine FW.exit ?_))
     refine ⟨⟨qm,qh,O⟩,⟨hTI',fu - 1,by show n<O.length+(fu - 1);omega,hend' _ (by omega)⟩,by show n - O.length<n - out.length;have:=hTI'.le;dsimp only at this;omega,?_⟩
     exact (FLe.cv [⟨101,some 101,0,⟨0,.own,3,1,O.map zy⟩⟩,⟨100,some 100,0,⟨0,.own,3,1,qm.map zy⟩⟩,⟨110,some 110,0,⟨0,.hrow,96,1,[[.ptr 111 0 0 0]]⟩⟩,⟨111,some 111,0,⟨0,.hrow,97,1,[[.own 112 0 0 qh.length]]⟩⟩,⟨112,some 112,0,⟨0,.own,3,1,qh.map zy⟩⟩] (by repeat (first|exact .nil|refine .old rfl (by decide) rfl ?_|refine .oldH rfl (by repeat (first|exact .nil|refine .cons (.ptr (.tail _ (.tail _ (.tail _ (.head _)))) rfl) ?_|refine .cons (.own (.tail _ (.tail _ (.tail _ (.tail _ (.head _))))) rfl rfl rfl) ?_)) ?_)) (by repeat (first|exact .nil|refine .cons (.plain rfl rfl rfl) ?_|refine .cons (.own rfl (.head _) rfl rfl) ?_|refine .cons (.own rfl (.tail _ (.head _)) rfl rfl) ?_|refine .cons (.ptr rfl (.tail _ (.tail _ (.head _))) rfl) ?_|refine .cons (.wrap rfl (by repeat (first|exact zd.nil|refine zd.cons (.plain rfl rfl) ?_|refine zd.cons (.ptr (.head _) rfl) ?_|refine zd.cons (.own (.head _) rfl rfl rfl) ?_|refine zd.cons (.omap (.head _) rfl) ?_|refine zd.cons (.ptr (.tail _ (.head _)) rfl) ?_|refine zd.cons (.own (.tail _ (.head _)) rfl rfl rfl) ?_|refine zd.cons (.omap (.tail _ (.head _)) rfl) ?_|refine zd.cons (.ptr (.tail _ (.tail _ (.head _))) rfl) ?_|refine zd.cons (.own (.tail _ (.tail _ (.head _))) rfl rfl rfl) ?_|refine zd.cons (.omap (.tail _ (.tail _ (.head _))) rfl) ?_|refine zd.cons (.ptr (.tail _ (.tail _ (.tail _ (.head _)))) rfl) ?_|refine zd.cons (.own (.tail _ (.tail _ (.tail _ (.head _)))) rfl rfl rfl) ?_|refine zd.cons (.omap (.tail _ (.tail _ (.tail _ (.head _)))) rfl) ?_|refine zd.cons (.ptr (.tail _ (.tail _ (.tail _ (.tail _ (.head _))))) rfl) ?_|refine zd.cons (.own (.tail _ (.tail _ (.tail _ (.tail _ (.head _))))) rfl rfl rfl) ?_|refine zd.cons (.omap (.tail _ (.tail _ (.tail _ (.tail _ (.head _))))) rfl) ?_))) ?_)))
   ·have hh:h=[]:=by
     cases h with
     | nil => rfl
     | cons x h => simp at hc
    subst hh
    clear hc
    rw [Vg E fu _ rfl] at hend
    dsimp only at hend
    subst hend
    generalize yU n E=O at hol hac
    subst hac
    (repeat (first|refine FW.seq ?_|refine FW.region ?_|refine FW.exit ?_|refine zc.nil ?_|refine za rfl rfl rfl ?_|refine yN rfl rfl rfl (by decide) rfl rfl ?_|refine zX rfl rfl rfl rfl ?_))
    refine FW.cond rfl (fun hc=>?_) (fun hc=>?_)
    ·exfalso;simp at hc
    ·(repeat (first|refine FW.seq ?_|refine FW.region ?_|refine FW.skip ?_|refine zc.nil ?_|refine zb rfl rfl rfl ?_|refine za rfl rfl rfl ?_))
     refine FW.le (s':=⟨[(4,.own 4000 1 0 O.length),(5,.bool true)],[(4000,⟨1,.own,3,1,O.map zy⟩)]⟩) ?_ (FLe.cv [⟨4000,some 101,0,⟨1,.own,3,1,O.map zy⟩⟩] (by repeat (first|exact .nil|refine .old rfl (by decide) rfl ?_)) (by repeat (first|exact .nil|refine .cons (.plain rfl rfl rfl) ?_|refine .cons (.own rfl (.head _) rfl rfl) ?_)))
     exact FW.ret ⟨.inl rfl,_,.pair rfl rfl rfl (fun _ _ e=>by cases e) (fun _ _ e=>by cases e),rfl,rfl⟩
end Go.Proofs.Ytmnmakhpjgjdaaa
/-
 slices.DeleteFunc of ints,at plain values.
-/
namespace Go.Proofs.Ytmnmakhpjgjdaaa
set_option linter.unusedVariables false
open Go.RowKit

theorem VN (p:Int→Bool) (r:List Int):∀ k i:Nat,(YS p r k i = -1∧∀ q,i≤q→q<i+k→p (nth r q)=false)∨∃ j:Nat,i≤j∧j<i+k∧YS p r k i=j∧p (nth r j)=true∧∀ q,i≤q→q<j→p (nth r q)=false
 | 0, i => .inl ⟨rfl, fun q h1 h2 => by omega⟩
 | k+1,i=>by
  unfold YS
  by_cases h:p (nth r i)=true
  ·rw [if_pos h]
   exact .inr ⟨i,Nat.le_refl _,by omega,rfl,h,fun q h1 h2=>by omega⟩
  ·rw [if_neg h]
   have h' : p (nth r i)=false:=by simpa using h
   rcases VN p r k (i+1) with ⟨h1,h2⟩|⟨j,h1,h2,h3,h4,h5⟩
   ·refine .inl ⟨h1,fun q q1 q2=>?_⟩
    by_cases e:q=i
    ·subst e;exact h'
    ·exact h2 q (by omega) (by omega)
   ·refine .inr ⟨j,by omega,by omega,h3,h4,fun q q1 q2=>?_⟩
    by_cases e:q=i
    ·subst e;exact h'
    ·exact h5 q (by omega) q2
def xx (p:Int→Bool) (r:List Int):List Int:=r.filter fun x=>!p x
theorem zbx {p:Int→Bool} {r:List Int} (h:∀ q,q<r.length→p (nth r q)=false):xx p r=r:=by
 unfold xx
 rw [List.filter_eq_self]
 intro x hx
 obtain ⟨q,hq,rfl⟩:=List.getElem_of_mem hx
 have:=h q hq
 rw [nth_eq hq] at this
 rw [this];rfl
theorem XD {p:Int→Bool} {r:List Int} {j:Nat} (hj:j<r.length):xx p (r.take (j+1))=xx p (r.take j)++if p (nth r j)=true then [] else [nth r j]:=by
 unfold xx
 rw [List.take_succ_eq_append_getElem hj,List.filter_append,← nth_eq hj]
 congr 1
 by_cases h:p (nth r j)=true
 ·simp [h]
 ·simp [h]
theorem WS (p:Int→Bool) (r:List Int) (j:Nat):(xx p (r.take j)).length≤j:=by
 unfold xx
 have h1:((r.take j).filter fun x=>!p x).length≤(r.take j).length:=List.length_filter_le _ _
 have h2:(r.take j).length≤j:=by rw [List.length_take];omega
 omega
def Xc (p:Int→Bool) (r:List Int) (j:Nat):List Int:=xx p (r.take j)++r.drop (xx p (r.take j)).length
theorem zc7 {p:Int→Bool} {r:List Int} {j:Nat} (hj:j≤r.length):(Xc p r j).length=r.length:=by
 have:=WS p r j
 unfold Xc
 rw [List.length_append,List.length_drop]
 omega
theorem zhE {p:Int→Bool} {r:List Int} {j:Nat} (hj:j<r.length):nth (Xc p r j) j=nth r j:=by
 have h:=WS p r j
 have hl:=zc7 (p:=p) (r:=r) (j:=j) (by omega)
 rw [nth_eq (by omega),nth_eq hj]
 simp only [Xc]
 rw [List.getElem_append_right h,List.getElem_drop]
 congr 1
 omega
theorem zf8 {p:Int→Bool} {r:List Int} {j:Nat} (hj:j<r.length) (hp:p (nth r j)=false):(Xc p r j).set (xx p (r.take j)).length (nth r j)=Xc p r (j+1):=by
 have h:=WS p r j
 unfold Xc
 rw [XD hj,if_neg (by rw [hp];decide),List.set_append_right _ _ (Nat.le_refl _),Nat.sub_self,List.append_assoc]
 congr 1
 rw [List.length_append,List.length_singleton,List.drop_eq_getElem_cons (show (xx p (r.take j)).length<r.length by omega)]
 rfl
theorem zf9 {p:Int→Bool} {r:List Int} {j:Nat} (hj:j<r.length) (hp:p (nth r j)=true):Xc p r (j+1)=Xc p r j:=by
 unfold Xc
 rw [XD hj,if_pos hp,List.append_nil]
theorem zeA {p:Int→Bool} {r:List Int} {j:Nat} (hj:j<r.length) (hp:p (nth r j)=true) (h0:∀ q,q<j→p (nth r q)=false):xx p (r.take (j+1))=r.take j∧Xc p r (j+1)=r:=by
 have e:xx p (r.take j)=r.take j:=zbx fun q hq=>by
  rw [List.length_take] at hq
  have:nth (r.take j) q=nth r q:=by rw [nth_eq (by rw [List.length_take];exact hq),nth_eq (by omega),List.getElem_take]
  rw [this];exact h0 q (by omega)
 have e2:xx p (r.take (j+1))=r.take j:=by rw [XD hj,if_pos hp,List.append_nil,e]
 refine ⟨e2,?_⟩
 unfold Xc
 rw [e2,List.length_take,Nat.min_eq_left (by omega),List.take_append_drop]
set_option maxHeartbeats 4000000 in
theorem Ub (v:Nat) (r:List Int) (cf:Nat) (caps:List FV) (p:Int→Bool) (hr:r.length≤1000000) (hp:∀ x∈r,yn Try.prog cf ([.int .i64 x]++caps) .fr (.bool (p x))) :
  yB Try.prog 38 [.own 5000 v 0 r.length,.fn cf caps] [(5000,⟨v,.own,3,1,r.map zy⟩)] [] (fun res o=>res=.own 5000 v 0 (xx p r).length∧o 5000=⟨v,.own,3,1,(xx p r++List.replicate (r.length - (xx p r).length) 0).map zy⟩):=by
 refine yB.of_body (c:=(ZO Try.prog zI zA 42)) ⟨Try.func38,rfl,Try.ntmps38,by kernel_rfl⟩ (by exact Nat.le_of_ble_eq_true rfl) ?_ ?_
 ·rintro res o ⟨rfl,h⟩;exact Xg (v:=v) rfl (by rw [h]) (by rw [h]) rfl
 change FW _ _ _ ⟨[(0,.own 5000 v 0 r.length),(1,.fn cf caps)],[(5000,⟨v,.own,3,1,r.map zy⟩)]⟩
 (repeat (first|refine FW.seq ?_|refine FW.region ?_|refine zc.nil ?_|refine zb rfl rfl rfl ?_|refine za rfl rfl rfl ?_))
 refine yu (XV r cf caps p hr hp) (by repeat (first|exact zG.nil|refine zG.cons (by first|exact Zq.plain rfl rfl|exact Zq.own rfl rfl (by decide) (by first|exact (fun _=>rfl)|(intro h;cases h)) (by first|rfl|(simp;done)|(congr 1;omega)|(simp;omega)|(simp [List.take_of_length_le];done)|(refine congrArg (FV.int .i64) ?_;omega))) ?_)) rfl rfl ?_
 rcases VN p r r.length 0 with ⟨h1,h2⟩|⟨j0,_,h2,h3,h4,h5⟩
 ·have hk:=zbx (p:=p) (r:=r) fun q hq=>h2 q (Nat.zero_le _) (by omega)
  rw [hk,Nat.sub_self,show VP p r = -1 from h1,show r++List.replicate 0 0=r by simp]
  (repeat (first|refine FW.seq ?_|refine FW.region ?_|refine FW.condT rfl ?_|refine zc.nil ?_|refine zb rfl rfl rfl ?_|refine za rfl rfl rfl ?_|refine yG rfl rfl rfl rfl ?_))
  exact FW.ret ⟨.inl rfl,_,.tmp rfl rfl,rfl,rfl⟩
 ·have hj0:j0<r.length:=by omega
  obtain ⟨s1,s2⟩:=zeA hj0 h4 fun q hq=>h5 q (Nat.zero_le _) hq
  rw [show VP p r=(j0:Int) from h3]
  obtain ⟨n,hn⟩:∃ n,r.length=n:=⟨_,rfl⟩
  rw [hn] at hr hj0 ⊢
  (repeat (first|refine FW.seq ?_|refine FW.region ?_|refine FW.block ?_|refine FW.skip ?_|refine FW.condF rfl ?_|refine zc.nil ?_|refine zb rfl rfl rfl ?_|refine za rfl rfl rfl ?_|refine yG rfl rfl rfl rfl ?_|refine zu rfl rfl (by omega) rfl rfl ?_))
  refine FW.loop (fun j:Nat=>⟨[(0,.own 5000 v 0 n),(1,.fn cf caps),(5,.int .i64 (xx p (r.take j)).length),(6,.int .i64 j)],[(5000,⟨v,.own,3,1,(Xc p r j).map zy⟩)]⟩) (fun j=>j≤n∧(xx p (r.take j)).length<j) (fun j=>n - j) (j0+1) ⟨by omega,by rw [s1,List.length_take];omega⟩ ?_ ?_
  ·rw [s1,s2,List.length_take,Nat.min_eq_left (by omega)]
   exact (FLe.cv [⟨5000,some 5000,v,⟨v,.own,3,1,r.map zy⟩⟩] (by repeat (first|exact .nil|refine .old rfl (by decide) rfl ?_)) (by repeat (first|exact .nil|refine .cons (.plain rfl rfl rfl) ?_|refine .cons (.own rfl (.head _) rfl rfl) ?_)))
  rintro j ⟨hj,hkj⟩
  have hdl:=zc7 (p:=p) (r:=r) (j:=j) (by omega)
  have hdn:=fun h:j<r.length=>zhE (p:=p) h
  have hks:=fun h:j<r.length=>XD (p:=p) h
  have hdk:=fun (h:j<r.length) (hp:p (nth r j)=false)=>zf8 h hp
  have hds:=fun (h:j<r.length) (hp:p (nth r j)=true)=>zf9 h hp
  have hlast:j=n→xx p (r.take j)=xx p r∧Xc p r j=xx p r++r.drop (xx p r).length:=fun e=>by
   have e1:xx p (r.take j)=xx p r:=by rw [e,← hn,List.take_length]
   exact ⟨e1,by unfold Xc;rw [e1]⟩
  generalize Xc p r j=D at hdl hdn hdk hds hlast
  generalize xx p (r.take j)=K at hkj hks hdk hlast
  (repeat (first|refine FW.seq ?_|refine FW.region ?_|refine zc.nil ?_|refine za rfl rfl rfl ?_|refine yN rfl rfl rfl (by decide) rfl rfl ?_|refine zX rfl rfl rfl rfl ?_))
  refine FW.cond rfl (fun hc=>?_) (fun hc=>?_)
  ·have hlt:j<n:=by simpa using hc
   have hlr:j<r.length:=by omega
   clear hc hlast
   have hdn:=hdn hlr
   have hks:=hks hlr
   have hpj:=hp (nth r j) (zC hlr)
   have hjD:j<D.length:=by omega
   (repeat (first|refine FW.seq ?_|refine FW.region ?_|refine FW.block ?_|refine FW.skip ?_|refine zc.nil ?_|refine zb rfl rfl rfl ?_|refine za rfl rfl rfl ?_|refine zW rfl rfl rfl rfl rfl rfl (by decide) rfl (by first|omega|(simp;omega)) rfl rfl ?_|refine zq rfl rfl rfl rfl rfl (by first|omega|(simp;omega)) (by first|exact zf (by omega)|rfl) rfl rfl rfl rfl ?_))
   rw [hdn]
   skip
   refine zfO rfl hpj (by repeat (first|exact zG.nil|refine zG.cons (by exact Zq.plain rfl rfl) ?_)) rfl rfl ?_
   (repeat (first|refine zc.nil ?_|refine Xn rfl rfl rfl ?_))
   cases hb:p (nth r j) with
   | true =>
    rw [if_pos hb,List.append_nil] at hks
    have hds:=hds hlr hb
    (repeat (first|refine FW.region ?_|refine FW.skip ?_|refine FW.condF rfl ?_|refine zc.nil ?_|refine zb rfl rfl rfl ?_|refine za rfl rfl rfl ?_|refine zu rfl rfl (by omega) rfl rfl ?_))
    refine ⟨j+1,⟨by omega,by rw [hks];omega⟩,by omega,?_⟩
    rw [hks,hds]
    exact (FLe.cv [⟨5000,some 5000,v,⟨v,.own,3,1,D.map zy⟩⟩] (by repeat (first|exact .nil|refine .old rfl (by decide) rfl ?_)) (by repeat (first|exact .nil|refine .cons (.plain rfl rfl rfl) ?_|refine .cons (.own rfl (.head _) rfl rfl) ?_)))
   | false =>
    rw [if_neg (by rw [hb];decide)] at hks
    have hdk:=hdk hlr hb
    have hKD:K.length<D.length:=by omega
    (repeat (first|refine FW.seq ?_|refine FW.region ?_|refine FW.condT rfl ?_|refine zc.nil ?_|refine zb rfl rfl rfl ?_|refine za rfl rfl rfl ?_|refine zu rfl rfl (by omega) rfl rfl ?_|refine zW rfl rfl rfl rfl rfl rfl (by decide) rfl (by first|omega|(simp;omega)) rfl rfl ?_|refine Yt rfl rfl rfl rfl rfl rfl (by first|omega|(simp;omega)) (by first|exact zf (by omega)|rfl) rfl rfl rfl ?_))
    rw [show (zy (nth D K.length)).set 0 (.int .i64 (nth r j))=zy (nth r j) from rfl,← List.map_set,hdk]
    refine ⟨j+1,⟨by omega,by rw [hks];simp;omega⟩,by omega,?_⟩
    rw [hks,List.length_append,List.length_singleton]
    generalize Xc p r (j+1)=D2
    exact (FLe.cv [⟨5000,some 5000,v,⟨v,.own,3,1,D2.map zy⟩⟩] (by repeat (first|exact .nil|refine .old rfl (by decide) rfl ?_)) (by repeat (first|exact .nil|refine .cons (.plain rfl rfl rfl) ?_|refine .cons (.own rfl (.head _) rfl rfl) ?_)))
  ·obtain rfl:j=n:=by simp at hc;omega
   obtain ⟨e1,e2⟩:=hlast rfl
   subst e1
   have hsp:splice (D.map zy) (0+(xx p r).length) (List.replicate (j - (xx p r).length) [FV.int .i64 0])=(xx p r++List.replicate (j - (xx p r).length) 0).map zy:=by
    rw [e2]
    unfold splice
    rw [Nat.zero_add,List.map_append,List.take_left' (List.length_map _),List.drop_of_length_le (by simp;omega),List.append_nil,List.map_append,List.map_replicate]
    rfl
   (repeat (first|refine FW.seq ?_|refine FW.region ?_|refine FW.exit ?_|refine za rfl rfl rfl ?_|refine zaz rfl rfl rfl rfl (by decide) rfl (by exact LoR.some rfl) (by exact HiR.none) (by omega) (by omega) rfl rfl ?_))
   refine zj1 rfl rfl rfl rfl rfl rfl (by omega) rfl ?_
   rw [hsp]
   (repeat (first|refine FW.seq ?_|refine FW.region ?_|refine zc.nil ?_|refine zb rfl rfl rfl ?_|refine za rfl rfl rfl ?_|refine zaz rfl rfl rfl rfl (by decide) rfl (by exact LoR.none) (by exact HiR.some rfl) (by omega) (by omega) rfl rfl ?_))
   exact FW.ret ⟨.inl rfl,_,.tmp rfl rfl,rfl,rfl⟩
end Go.Proofs.Ytmnmakhpjgjdaaa
/-
 causal.Check,at plain values.
-/
namespace Go.Proofs.Ytmnmakhpjgjdaaa
set_option linter.unusedVariables false
open Go.RowKit

def zl4 (l:List OpV):List Int:=xx (fun x=>!yC l x.toNat) (yU l.length (edC l))
def WC (l:List OpV):List FV:=match Ug l with
 | some i => VW 5 2 (nth l i).key [i] []
 | none=>if YU l≠[] then [.int .i64 5,.int .i64 6,.int .i64 0,.nil,.list 3 ((Xa l (YU l) (YU l).length).map EdC.fv)] else match WY l with
  | some (w1, w2, i) => VW 5 7 (nth l w2).key [w1, w2, i] (ZT l w1 w2 ++ ZT l w2 i)
  | none => match WQ l with
   | some (w, i) => VW 5 8 (nth l w).key [w, i] (ZT l w i)
   | none => [.int .i64 5, .int .i64 0, .int .i64 0, .list 1 ((zl4 l).map zy), .nil]
def zkF (l:List OpV):FV:=if YG l≠0 then .tup [.agg [.int .i64 0,.int .i64 0,.int .i64 0,.nil,.nil],.int .i64 (YG l)] else .tup [.agg (WC l),.int .i64 0]
theorem zim (sz:Nat) (es:List (List FV)):zkS sz es=.nil∨zkS sz es=.list sz es:=by cases es <;> simp [zkS]
theorem zlt (l:List OpV) {i:Nat} (hi:i<l.length):(xk (KC l i)).nilMap=some (!yC l i):=by
 unfold KC
 by_cases h:i∈zE l l.length
 ·rw [if_pos h,(xj.1 h).2];rfl
 ·rw [if_neg h]
  have:yC l i=false:=by cases hq:yC l i with|false=>rfl|true=>exact absurd (xj.2 ⟨hi,hq⟩) h
  rw [this];rfl
theorem zcZ (l:List OpV) (i:Nat) (hi:i<l.length):yn Try.prog 39 ([.int .i64 i]++[.eptr 1 [[zdW l]] 0 0]) .fr (.bool (!yC l i)):=by
 have hcell:(List.map (fun q=>[xk (KC l q)]) (List.range l.length)).getD i []=[xk (KC l i)]:=by rw [List.getD_eq_getElem?_getD,xz l.length i _ hi];rfl
 have hnil:=zlt l hi
 obtain ⟨C,hC⟩:∃ C,C=List.map (fun q=>[xk (KC l q)]) (List.range l.length):=⟨_,rfl⟩
 have hCl:C.length=l.length:=by rw [hC];simp
 obtain ⟨b,hb⟩:∃ b,(!yC l i)=b:=⟨_,rfl⟩
 rw [hb] at hnil ⊢
 unfold zdW zgU
 rw [← hC] at hcell ⊢
 refine yn.of_body (c:=(ZO Try.prog zI zA 12)) ⟨Try.func39,rfl,Try.ntmps39,by kernel_rfl⟩ (by simp [FV.hand]) (by exact Nat.le_of_ble_eq_true rfl) rfl ?_
 change FW _ _ _ ⟨[(0,.int .i64 i),(1,.eptr 1 [[.eptr 4 [[.list 8 (l.map OpV.fv),.list 1 ((zE l l.length).map yK),.smap (yE l l.length),.list 1 C]] 0 0]] 0 0)],[]⟩
 (repeat (first|refine FW.seq ?_|refine FW.region ?_|refine zc.nil ?_|refine zb rfl rfl rfl ?_|refine zj rfl rfl rfl (by first|omega|(simp;done)) rfl rfl rfl rfl rfl ?_|refine yP rfl rfl rfl ?_|refine zQ rfl rfl rfl rfl rfl rfl rfl ?_|refine za rfl rfl rfl ?_|refine zn rfl rfl rfl rfl rfl rfl (by first|omega|(simp;done)) rfl rfl ?_))
 refine zj rfl rfl rfl (by rw [hCl];exact hi) hcell rfl rfl rfl rfl ?_
 refine ziU rfl hnil (by kernel_rfl) rfl rfl ?_
 (repeat (first|refine zc.nil ?_|refine zb rfl rfl rfl ?_))
 exact FW.ret ⟨.inl rfl,zU rfl rfl rfl rfl⟩
theorem ze7 (l:List OpV) (hl:l.length≤14) (hc:YU l=[]):yB Try.prog 36 [.int .i64 l.length,.perm 2 ((edC l).map edf)] [] [4000] (fun res o=>res=.wrap .tup [.own 4000 1 0 l.length,.bool true]∧o 4000=⟨1,.own,3,1,(yU l.length (edC l)).map zy⟩):=by
 refine yB.perm (pre:=[.int .i64 l.length]) (post:=[]) fun es' hp=>?_
 obtain ⟨P,hP,rfl⟩:=zfH hp
 have hm:∀ e,e∈P↔e∈edC l:=fun e=>hP.mem_iff
 have hin:=(Yd l).mem hm
 have h1:=zhH l
 have h2:=Nat.mul_le_mul hl hl
 have hcP:xO P l.length=[]:=by rw [VU hm];exact hc
 obtain ⟨h3,h4⟩:=YL hin hcP
 obtain ⟨h5,_⟩:=YL (Yd l) hc
 rw [zd6 hm,h5] at h3
 injection h3 with h3
 rw [h3]
 exact zhg l.length P (by omega) (by rw [hP.length_eq];omega) hin h4.len
set_option maxHeartbeats 8000000 in
theorem zep (l:List OpV) (hl:l.length≤14) (hin:∀ o∈l,zaW o):yn Try.prog 18 [.list 8 (l.map OpV.fv)] .sh (zkF l):=by
 have hdm:=VJ l (by omega) hin
 obtain ⟨R,hR⟩:∃ R,zkF l=R:=⟨_,rfl⟩
 have hRh:R.hand=none:=by rw [← hR];unfold zkF;split <;> rfl
 rw [hR]
 have hR1:YG l≠0→R=.tup [.agg [.int .i64 0,.int .i64 0,.int .i64 0,.nil,.nil],.int .i64 (YG l)]:=fun h=>by rw [← hR];unfold zkF;rw [if_pos h]
 have hR2:YG l=0→R=.tup [.agg (WC l),.int .i64 0]:=fun h=>by rw [← hR];unfold zkF;rw [if_neg (by simpa using h)]
 have hdom:YG l=0→YV l:=fun h=>by
  unfold YG at h
  split at h
  ·rename_i h1;exact absurd h h1
  ·split at h
   ·assumption
   ·cases h
 clear hR
 obtain ⟨e,he⟩:∃ e,YG l=e:=⟨_,rfl⟩
 rw [he] at hdm hR1 hR2 hdom
 have hb:=fun hd=>zbf l (by omega) hin hd
 rw [zhI] at hb
 change YV l→yn _ _ _ _ (zdW l) at hb
 have hth:=zje l (by omega) hin
 have hcy:=zez l hl
 have hov:=zit l (by omega) hin
 have hit:=zh7 l (by omega) hin
 have hpairs:=zal (.list 8 (l.map OpV.fv)) (.smap (yE l l.length)) (.list 1 ((zE l l.length).map yK)) (KC l) l.length (by omega) (kok l (by omega))
 change yn _ _ [zdW l] _ (.perm 2 ((edC l).map edf)) at hpairs
 have htop:=ze7 l hl
 have hch:=zcZ l
 obtain ⟨r,hr⟩:∃ r,zdW l=r:=⟨_,rfl⟩
 have hr1:r.one=true:=by rw [← hr];rfl
 have hrc:r.cells=[r]:=by rw [← hr];rfl
 have hrh:r.hand=none:=by rw [← hr];rfl
 rw [hr] at hb hth hcy hov hit hpairs hch
 clear hr
 refine yn.of_body (c:=(ZO Try.prog zI zA 57)) ⟨Try.func18,rfl,Try.ntmps18,by kernel_rfl⟩ (by simp [FV.hand]) (by exact Nat.le_of_ble_eq_true rfl) hRh ?_
 change FW _ _ _ ⟨[(0,.list 8 (l.map OpV.fv))],[]⟩
 (repeat (first|refine FW.seq ?_|refine FW.region ?_|refine zc.nil ?_|refine zD rfl rfl rfl rfl rfl rfl rfl ?_|refine zb rfl rfl rfl ?_|refine za rfl rfl rfl ?_))
 refine yu hdm (by repeat (first|exact zG.nil|refine zG.cons (by exact Zq.plain rfl rfl) ?_)) rfl rfl ?_
 (repeat (first|refine FW.seq ?_|refine FW.region ?_|refine zc.nil ?_|refine zb rfl rfl rfl ?_|refine za rfl rfl rfl ?_|refine xt rfl rfl rfl rfl ?_))
 refine FW.cond rfl (fun h=>?_) (fun h=>?_)
 ·rw [hR1 (by simpa using h)]
  (repeat (first|refine FW.seq ?_|refine FW.region ?_|refine zc.nil ?_|refine zb rfl rfl rfl ?_|refine za rfl rfl rfl ?_|refine zT rfl rfl rfl rfl ?_|refine zm rfl rfl rfl rfl rfl rfl rfl rfl rfl ?_|refine zV.nil ?_))
  exact FW.ret ⟨.inl rfl,.sh (.cons (ye rfl rfl rfl rfl rfl rfl (by decide)) (.cons (.tmp 3 rfl rfl) .nil)) rfl rfl⟩
 have he0:e=0:=by simpa using h
 subst he0
 have hR2:=hR2 rfl
 have hb:=hb (hdom rfl)
 clear h hR1 hdom
 (repeat (first|refine FW.seq ?_|refine FW.region ?_|refine FW.skip ?_|refine za rfl rfl rfl ?_))
 refine xJ hb (by repeat (first|exact zG.nil|refine zG.cons (by exact Zq.plain rfl rfl) ?_)) rfl rfl ?_
 refine zd0 rfl rfl rfl rfl rfl ?_
 refine zg6 rfl rfl hr1 rfl rfl rfl (by decide) rfl ?_
 refine zc.le ?_ (FLe.ofH 5 rfl (by simp [hr1]))
 refine zc.le ?_ (FLe.shareP 5 rfl rfl)
 (repeat (first|refine FW.seq ?_|refine FW.region ?_|refine zc.nil ?_|refine zj rfl rfl rfl (by simp;done) rfl rfl rfl rfl rfl ?_))
 refine zfN rfl hrh rfl rfl ?_
 (repeat (first|refine zj rfl rfl rfl (by simp;done) rfl rfl rfl rfl rfl ?_))
 refine zfN rfl hrh rfl rfl ?_
 (repeat (first|refine zj rfl rfl rfl (by simp;done) rfl rfl rfl rfl rfl ?_))
 refine zfN rfl hrh rfl rfl ?_
 (repeat (first|refine zj rfl rfl rfl (by simp;done) rfl rfl rfl rfl rfl ?_))
 refine zfN rfl hrh rfl rfl ?_
 refine Yr (es:=[[.bnd 32 [r]],[.bnd 33 [r]],[.bnd 34 [r]],[.bnd 35 [r]]]) rfl rfl rfl (by refine xQ.one rfl rfl rfl rfl ?_;refine xQ.one rfl rfl rfl rfl ?_;refine xQ.one rfl rfl rfl rfl ?_;refine xQ.one rfl rfl rfl rfl ?_;exact xQ.nil) rfl rfl rfl rfl rfl ?_
 (repeat (first|refine FW.block ?_|refine zc.nil ?_|refine za rfl rfl rfl ?_|refine zp rfl rfl rfl rfl rfl ?_))
 refine FW.loop (fun k:Nat=>⟨[(0,.list 8 (l.map OpV.fv)),(2,.ptr 102 0 0 0),(5,.eptr 1 [[r]] 0 0),(28,.list 1 [[.bnd 32 [r]],[.bnd 33 [r]],[.bnd 34 [r]],[.bnd 35 [r]]]),(29,.int .i64 4),(30,.int .i64 k)],[(102,⟨0,.own,36,5,[[.int .i64 0,.int .i64 0,.int .i64 0,.nil,.nil]]⟩)]⟩) (fun k=>k≤4∧(1≤k→Ug l=none)∧(2≤k→YU l=[])∧(3≤k→WY l=none)∧(4≤k→WQ l=none)) (fun k=>4 - k) 0 ⟨Nat.zero_le _,by omega,by omega,by omega,by omega⟩ ?_ ?_
 ·exact (FLe.cv [⟨102,some 2,0+1,⟨0,.own,36,5,[[.int .i64 0,.int .i64 0,.int .i64 0,.nil,.nil]]⟩⟩] (by repeat (first|exact .nil|refine .old rfl (by decide) rfl ?_)) (by repeat (first|exact .nil|refine .cons (.plain rfl rfl rfl) ?_|refine .cons (.ptr rfl (.head _) rfl) ?_)))
 rintro k ⟨hk,p1,p2,p3,p4⟩
 (repeat (first|refine FW.seq ?_|refine FW.region ?_|refine zc.nil ?_|refine zX rfl rfl rfl rfl ?_))
 refine FW.cond rfl (fun h=>?_) (fun h=>?_)
 ·have hk4:k=0∨k=1∨k=2∨k=3:=by simp at h;omega
  clear h
  rcases hk4 with rfl|rfl|rfl|rfl
  ·(repeat (first|refine FW.seq ?_|refine FW.region ?_|refine FW.block ?_|refine FW.skip ?_|refine zc.nil ?_|refine zb rfl rfl rfl ?_|refine za rfl rfl rfl ?_|refine zj rfl rfl rfl (by simp;done) rfl rfl rfl rfl rfl ?_|refine zn rfl rfl rfl rfl rfl rfl (by simp;done) rfl rfl ?_))
   refine Up rfl hth rfl rfl ?_
   unfold zhf
   cases ht:Ug l with
   | some i =>
    rw [hR2]
    unfold WC
    rw [ht]
    dsimp only
    unfold VW
    (repeat (first|refine FW.seq ?_|refine FW.region ?_|refine FW.condT rfl ?_|refine zc.nil ?_|refine zD rfl rfl rfl rfl rfl rfl rfl ?_|refine zb rfl rfl rfl ?_|refine za rfl rfl rfl ?_|refine xK rfl rfl rfl rfl rfl rfl rfl rfl rfl ?_|refine zm rfl rfl rfl rfl rfl rfl rfl rfl rfl ?_|refine yX rfl rfl rfl (by decide) rfl rfl (by simp;done) rfl rfl rfl rfl ?_|refine zw rfl rfl rfl rfl rfl ?_|refine zi rfl rfl rfl rfl rfl rfl (by decide) rfl rfl ?_))
    exact FW.ret ⟨.inl rfl,.sh (.cons (ye rfl rfl rfl rfl rfl rfl (by decide)) (.cons (.tmp 3 rfl rfl) .nil)) rfl rfl⟩
   | none =>
    (repeat (first|refine FW.seq ?_|refine FW.region ?_|refine FW.skip ?_|refine FW.condF rfl ?_|refine zc.nil ?_|refine zD rfl rfl rfl rfl rfl rfl rfl ?_|refine zb rfl rfl rfl ?_|refine za rfl rfl rfl ?_|refine zm rfl rfl rfl rfl rfl rfl rfl rfl rfl ?_|refine zw rfl rfl rfl rfl rfl ?_|refine zu rfl rfl (by omega) rfl rfl ?_))
    refine ⟨1,⟨by omega,fun _=>by first|exact ht|rfl,by omega,by omega,by omega⟩,by omega,(FLe.cv [⟨102,some 102,0,⟨0,.own,36,5,[[.int .i64 0,.int .i64 0,.int .i64 0,.nil,.nil]]⟩⟩] (by repeat (first|exact .nil|refine .old rfl (by decide) rfl ?_)) (by repeat (first|exact .nil|refine .cons (.plain rfl rfl rfl) ?_|refine .cons (.ptr rfl (.head _) rfl) ?_)))⟩
  ·have p1:=p1 (by omega)
   (repeat (first|refine FW.seq ?_|refine FW.region ?_|refine FW.block ?_|refine FW.skip ?_|refine zc.nil ?_|refine zb rfl rfl rfl ?_|refine za rfl rfl rfl ?_|refine zj rfl rfl rfl (by simp;done) rfl rfl rfl rfl rfl ?_|refine zn rfl rfl rfl rfl rfl rfl (by simp;done) rfl rfl ?_))
   refine Up rfl hcy rfl rfl ?_
   unfold zma
   by_cases hc:YU l=[]
   ·rw [show decide (((YU l).length:Int) > 0)=false by rw [hc];rfl]
    (repeat (first|refine FW.seq ?_|refine FW.region ?_|refine FW.skip ?_|refine FW.condF rfl ?_|refine zc.nil ?_|refine zD rfl rfl rfl rfl rfl rfl rfl ?_|refine zb rfl rfl rfl ?_|refine za rfl rfl rfl ?_|refine zm rfl rfl rfl rfl rfl rfl rfl rfl rfl ?_|refine zw rfl rfl rfl rfl rfl ?_|refine zu rfl rfl (by omega) rfl rfl ?_))
    refine ⟨2,⟨by omega,fun _=>p1,fun _=>hc,by omega,by omega⟩,by omega,(FLe.cv [⟨102,some 102,0,⟨0,.own,36,5,[[.int .i64 0,.int .i64 0,.int .i64 0,.nil,.nil]]⟩⟩] (by repeat (first|exact .nil|refine .old rfl (by decide) rfl ?_)) (by repeat (first|exact .nil|refine .cons (.plain rfl rfl rfl) ?_|refine .cons (.ptr rfl (.head _) rfl) ?_)))⟩
   ·rw [show decide (((YU l).length:Int) > 0)=true by have:=List.length_pos_iff.2 hc;simpa using this,hR2]
    unfold WC
    rw [p1]
    dsimp only
    rw [if_pos hc]
    (repeat (first|refine FW.seq ?_|refine FW.region ?_|refine FW.condT rfl ?_|refine zc.nil ?_|refine zD rfl rfl rfl rfl rfl rfl rfl ?_|refine zb rfl rfl rfl ?_|refine za rfl rfl rfl ?_|refine xK rfl rfl rfl rfl rfl rfl rfl rfl rfl ?_|refine zm rfl rfl rfl rfl rfl rfl rfl rfl rfl ?_|refine yX rfl rfl rfl (by decide) rfl rfl (by simp;done) rfl rfl rfl rfl ?_|refine zw rfl rfl rfl rfl rfl ?_|refine zi rfl rfl rfl rfl rfl rfl (by decide) rfl rfl ?_))
    exact FW.ret ⟨.inl rfl,.sh (.cons (ye rfl rfl rfl rfl rfl rfl (by decide)) (.cons (.tmp 3 rfl rfl) .nil)) rfl rfl⟩
  ·have p1:=p1 (by omega)
   have p2:=p2 (by omega)
   (repeat (first|refine FW.seq ?_|refine FW.region ?_|refine FW.block ?_|refine FW.skip ?_|refine zc.nil ?_|refine zb rfl rfl rfl ?_|refine za rfl rfl rfl ?_|refine zj rfl rfl rfl (by simp;done) rfl rfl rfl rfl rfl ?_|refine zn rfl rfl rfl rfl rfl rfl (by simp;done) rfl rfl ?_))
   refine Up rfl hov rfl rfl ?_
   unfold zgI
   cases ht:WY l with
   | some w=>
    obtain ⟨w1,w2,i⟩:=w
    rw [hR2]
    unfold WC
    rw [p1,ht]
    dsimp only
    rw [if_neg (by simpa using p2)]
    unfold VW
    generalize ZT l w1 w2++ZT l w2 i=X
    rcases zim 3 (X.map EdC.fv) with hX|hX <;> rw [hX]
    ·(repeat (first|refine FW.seq ?_|refine FW.region ?_|refine FW.condT rfl ?_|refine zc.nil ?_|refine zD rfl rfl rfl rfl rfl rfl rfl ?_|refine zb rfl rfl rfl ?_|refine za rfl rfl rfl ?_|refine xK rfl rfl rfl rfl rfl rfl rfl rfl rfl ?_|refine zm rfl rfl rfl rfl rfl rfl rfl rfl rfl ?_|refine yX rfl rfl rfl (by decide) rfl rfl (by simp;done) rfl rfl rfl rfl ?_|refine zw rfl rfl rfl rfl rfl ?_|refine zi rfl rfl rfl rfl rfl rfl (by decide) rfl rfl ?_))
     exact FW.ret ⟨.inl rfl,.sh (.cons (ye rfl rfl rfl rfl rfl rfl (by decide)) (.cons (.tmp 3 rfl rfl) .nil)) rfl rfl⟩
    ·(repeat (first|refine FW.seq ?_|refine FW.region ?_|refine FW.condT rfl ?_|refine zc.nil ?_|refine zD rfl rfl rfl rfl rfl rfl rfl ?_|refine zb rfl rfl rfl ?_|refine za rfl rfl rfl ?_|refine xK rfl rfl rfl rfl rfl rfl rfl rfl rfl ?_|refine zm rfl rfl rfl rfl rfl rfl rfl rfl rfl ?_|refine yX rfl rfl rfl (by decide) rfl rfl (by simp;done) rfl rfl rfl rfl ?_|refine zw rfl rfl rfl rfl rfl ?_|refine zi rfl rfl rfl rfl rfl rfl (by decide) rfl rfl ?_))
     exact FW.ret ⟨.inl rfl,.sh (.cons (ye rfl rfl rfl rfl rfl rfl (by decide)) (.cons (.tmp 3 rfl rfl) .nil)) rfl rfl⟩
   | none =>
    (repeat (first|refine FW.seq ?_|refine FW.region ?_|refine FW.skip ?_|refine FW.condF rfl ?_|refine zc.nil ?_|refine zD rfl rfl rfl rfl rfl rfl rfl ?_|refine zb rfl rfl rfl ?_|refine za rfl rfl rfl ?_|refine zm rfl rfl rfl rfl rfl rfl rfl rfl rfl ?_|refine zw rfl rfl rfl rfl rfl ?_|refine zu rfl rfl (by omega) rfl rfl ?_))
    refine ⟨3,⟨by omega,fun _=>p1,fun _=>p2,fun _=>by first|exact ht|rfl,by omega⟩,by omega,(FLe.cv [⟨102,some 102,0,⟨0,.own,36,5,[[.int .i64 0,.int .i64 0,.int .i64 0,.nil,.nil]]⟩⟩] (by repeat (first|exact .nil|refine .old rfl (by decide) rfl ?_)) (by repeat (first|exact .nil|refine .cons (.plain rfl rfl rfl) ?_|refine .cons (.ptr rfl (.head _) rfl) ?_)))⟩
  ·have p1:=p1 (by omega)
   have p2:=p2 (by omega)
   have p3:=p3 (by omega)
   (repeat (first|refine FW.seq ?_|refine FW.region ?_|refine FW.block ?_|refine FW.skip ?_|refine zc.nil ?_|refine zb rfl rfl rfl ?_|refine za rfl rfl rfl ?_|refine zj rfl rfl rfl (by simp;done) rfl rfl rfl rfl rfl ?_|refine zn rfl rfl rfl rfl rfl rfl (by simp;done) rfl rfl ?_))
   refine Up rfl hit rfl rfl ?_
   unfold zgu
   cases ht:WQ l with
   | some w=>
    obtain ⟨w,i⟩:=w
    rw [hR2]
    unfold WC
    rw [p1,p3,ht]
    dsimp only
    rw [if_neg (by simpa using p2)]
    unfold VW
    generalize ZT l w i=X
    rcases zim 3 (X.map EdC.fv) with hX|hX <;> rw [hX]
    ·(repeat (first|refine FW.seq ?_|refine FW.region ?_|refine FW.condT rfl ?_|refine zc.nil ?_|refine zD rfl rfl rfl rfl rfl rfl rfl ?_|refine zb rfl rfl rfl ?_|refine za rfl rfl rfl ?_|refine xK rfl rfl rfl rfl rfl rfl rfl rfl rfl ?_|refine zm rfl rfl rfl rfl rfl rfl rfl rfl rfl ?_|refine yX rfl rfl rfl (by decide) rfl rfl (by simp;done) rfl rfl rfl rfl ?_|refine zw rfl rfl rfl rfl rfl ?_|refine zi rfl rfl rfl rfl rfl rfl (by decide) rfl rfl ?_))
     exact FW.ret ⟨.inl rfl,.sh (.cons (ye rfl rfl rfl rfl rfl rfl (by decide)) (.cons (.tmp 3 rfl rfl) .nil)) rfl rfl⟩
    ·(repeat (first|refine FW.seq ?_|refine FW.region ?_|refine FW.condT rfl ?_|refine zc.nil ?_|refine zD rfl rfl rfl rfl rfl rfl rfl ?_|refine zb rfl rfl rfl ?_|refine za rfl rfl rfl ?_|refine xK rfl rfl rfl rfl rfl rfl rfl rfl rfl ?_|refine zm rfl rfl rfl rfl rfl rfl rfl rfl rfl ?_|refine yX rfl rfl rfl (by decide) rfl rfl (by simp;done) rfl rfl rfl rfl ?_|refine zw rfl rfl rfl rfl rfl ?_|refine zi rfl rfl rfl rfl rfl rfl (by decide) rfl rfl ?_))
     exact FW.ret ⟨.inl rfl,.sh (.cons (ye rfl rfl rfl rfl rfl rfl (by decide)) (.cons (.tmp 3 rfl rfl) .nil)) rfl rfl⟩
   | none =>
    (repeat (first|refine FW.seq ?_|refine FW.region ?_|refine FW.skip ?_|refine FW.condF rfl ?_|refine zc.nil ?_|refine zD rfl rfl rfl rfl rfl rfl rfl ?_|refine zb rfl rfl rfl ?_|refine za rfl rfl rfl ?_|refine zm rfl rfl rfl rfl rfl rfl rfl rfl rfl ?_|refine zw rfl rfl rfl rfl rfl ?_|refine zu rfl rfl (by omega) rfl rfl ?_))
    refine ⟨4,⟨by omega,fun _=>p1,fun _=>p2,fun _=>p3,fun _=>by first|exact ht|rfl⟩,by omega,(FLe.cv [⟨102,some 102,0,⟨0,.own,36,5,[[.int .i64 0,.int .i64 0,.int .i64 0,.nil,.nil]]⟩⟩] (by repeat (first|exact .nil|refine .old rfl (by decide) rfl ?_)) (by repeat (first|exact .nil|refine .cons (.plain rfl rfl rfl) ?_|refine .cons (.ptr rfl (.head _) rfl) ?_)))⟩
 ·have hk4:k=4:=by simp at h;omega
  subst hk4
  have p1:=p1 (by omega)
  have p2:=p2 (by omega)
  have p3:=p3 (by omega)
  have p4:=p4 (by omega)
  rw [hR2]
  unfold WC
  rw [p1,p3,p4]
  dsimp only
  rw [if_neg (by simpa using p2)]
  obtain ⟨_,hO⟩:=YL (Yd l) p2
  have hTL:=htop p2
  unfold zl4
  generalize yU l.length (edC l)=TT at hO hTL
  have hTl:=hO.len
  have hD:=Ub 1 TT 39 [.eptr 1 [[r]] 0 0] (fun x=>!yC l x.toNat) (by omega) (fun x hx=>by
   have hr:=hO.rng x hx
   have:=hch x.toNat (by omega)
   rw [show ((x.toNat:Nat):Int)=x by omega] at this
   exact this)
  rw [hTl] at hD
  have hKl:=WS (fun x=>!yC l x.toNat) TT TT.length
  rw [List.take_length,hTl] at hKl
  generalize xx (fun x=>!yC l x.toNat) TT=KK at hD hKl
  clear hth hcy hov hit hch hb hdm
  (repeat (first|refine FW.seq ?_|refine FW.region ?_|refine FW.exit ?_|refine za rfl rfl rfl ?_|refine zj rfl rfl rfl (by simp;done) rfl rfl rfl rfl rfl ?_|refine zp rfl rfl (by first|exact List.length_map _|rfl|(simp;done)) rfl rfl ?_))
  refine xJ hpairs (zG.cons (.plain rfl hrh) .nil) rfl rfl ?_
  refine xI hTL [(4000,105)] rfl zB.nil rfl rfl rfl rfl rfl rfl ?_
  rintro _ ob' ⟨rfl,h4⟩
  refine xg.one [(105,⟨1,.own,3,1,TT.map zy⟩)] (.wrap .tup [.own 105 1 0 l.length,.bool true]) rfl (by show [(105,zh.ren _ (look {} ob' 4000))]=_;rw [h4];rfl) ?_
  clear h4 ob' hTL
  (repeat (first|refine za rfl rfl rfl ?_))
  refine zaw rfl rfl rfl rfl rfl ?_
  refine zaw rfl rfl rfl rfl rfl ?_
  (repeat (first|refine FW.seq ?_|refine FW.region ?_|refine zc.nil ?_|refine zb rfl rfl rfl ?_|refine za rfl rfl rfl ?_|refine zg0 rfl rfl rfl rfl ?_))
  refine xI hD [(5000,105)] rfl (zB.cons rfl rfl rfl zB.nil) rfl rfl rfl rfl rfl rfl ?_
  rintro _ ob' ⟨rfl,h4⟩
  obtain ⟨Ze,hZe⟩:∃ Ze,(KK++List.replicate (l.length - KK.length) 0).map zy=Ze:=⟨_,rfl⟩
  have hZt:(Ze.drop 0).take KK.length=KK.map zy:=by rw [← hZe,List.drop_zero,List.map_append,List.take_left' (List.length_map _)]
  rw [hZe] at h4
  refine xg.one [(105,⟨1,.own,3,1,Ze⟩)] (.own 105 1 0 KK.length) rfl (by show [(105,zh.ren _ (look {} ob' 5000))]=_;rw [h4];rfl) ?_
  clear h4 ob' hD
  refine zc.le ?_ (FLe.shut (i:=105) rfl)
  refine zc.le ?_ (FLe.list (d:=53) (i:=105) (f:=.list 1 (KK.map zy)) rfl rfl (by rw [hZt]))
  (repeat (first|refine FW.seq ?_|refine FW.region ?_|refine zc.nil ?_|refine zb rfl rfl rfl ?_|refine za rfl rfl rfl ?_|refine zT rfl rfl rfl rfl ?_|refine zm rfl rfl rfl rfl rfl rfl rfl rfl rfl ?_|refine zV.nil ?_|refine zV.one rfl rfl rfl rfl rfl ?_|refine zV.agg rfl rfl rfl rfl (List.cons_ne_nil _ _) rfl ?_))
  exact FW.ret ⟨.inl rfl,.sh (.cons (ye rfl rfl rfl rfl rfl rfl (by decide)) (.cons (.tmp 3 rfl rfl) .nil)) rfl rfl⟩
end Go.Proofs.Ytmnmakhpjgjdaaa
