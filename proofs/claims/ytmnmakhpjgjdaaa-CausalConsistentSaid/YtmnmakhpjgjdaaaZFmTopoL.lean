/-
  Some texts as one: FmTopoL, FmDel, FmCauD.
-/
import Derived.Test.YtmnmakhpjgjdaaaZFmCyc2
import Derived.Test.YtmnmakhpjgjdaaaZK
import Derived.Test.YtmnmakhpjgjdaaaZD
import Derived.Test.YtmnmakhpjgjdaaaZFmW
import Derived.Test.YtmnmakhpjgjdaaaZOrderPlain
/-
 graph.Topo of a graph without cycles: the order is the caller's own.
-/
namespace Go.Proofs.Ytmnmakhpjgjdaaa
set_option linter.unusedVariables false
open Go.RowKit

set_option maxHeartbeats 8000000 in
theorem zhj (n:Nat) (E:List (Nat×Nat)) (hn:n≤300) (hE:E.length≤100000) (hin:InN n E) (hac:(xc n E).length=n):yA Try.prog 36 [.int .i64 n,.list 2 (E.map edf)] [] [4000] (fun res o=>res=.wrap .tup [.own 4000 1 0 n,.bool true]∧o 4000=⟨1,.own,3,1,(xc n E).map zA⟩):=by
 refine yA.of_body (c:=(ZW Try.prog zH zB 104)) ⟨Try.func36,rfl,Try.ntmps36,by kernel_rfl⟩ (by exact Nat.le_of_ble_eq_true rfl) ?_ ?_
 ·rintro res o ⟨rfl,h⟩
  exact ⟨(fun k hk=>by cases hk),(fun k hk=>by obtain rfl:=List.mem_singleton.1 hk;rw [h];exact ⟨Nat.zero_lt_one,fun _=>rfl⟩),(fun k hk=>by obtain rfl:=List.mem_singleton.1 hk;rw [h];rfl),rfl⟩
 change FW _ _ _ ⟨[(0,.int .i64 n),(1,.list 2 (E.map edf))],[]⟩
 have hrl:=yj n E
 have hrn:=fun v (hv:v<n)=>Zy E hv
 (repeat (first|refine FW.seq ?_|refine FW.region ?_|refine zc.nil ?_|refine zb rfl rfl rfl ?_|refine za rfl rfl rfl ?_))
 refine xI (ZR n E (by omega) (by omega) hin) (by repeat (first|exact zI.nil|refine zI.cons (by exact Zr.plain rfl rfl) ?_)) rfl rfl ?_
 rw [zcL]
 (repeat (first|refine FW.seq ?_|refine FW.region ?_|refine FW.block ?_|refine zc.nil ?_|refine zb rfl rfl rfl ?_|refine za rfl rfl rfl ?_|refine zaE rfl rfl rfl rfl rfl rfl rfl rfl (by omega) (by omega) rfl rfl rfl ?_|refine zu rfl rfl (by first|exact List.length_map _|rfl|omega) rfl rfl ?_))
 rw [show List.replicate n [FV.int .i64 0]=(List.replicate n 0).map zA by rw [List.map_replicate];rfl]
 refine FW.loop (fun i:Nat=>⟨[(0,.int .i64 n),(6,.list 1 ((zN n E).map Xb)),(7,.own 100 0 0 n),(26,.list 1 ((zN n E).map Xb)),(27,.int .i64 n),(28,.int .i64 i)],[(100,⟨0,.own,3,1,(Yq n E i).map zA⟩)]⟩) (fun i=>i≤n) (fun i=>n - i) 0 (Nat.zero_le _) ?_ ?_
 ·rw [hrl,show Yq n E 0=List.replicate n 0 from rfl]
  obtain ⟨z,hz⟩:∃ z,(List.replicate n (0:Int)).map zA=z:=⟨_,rfl⟩
  rw [hz]
  exact (FLe.cv [⟨100,some 25,0+1,⟨0,.own,3,1,z⟩⟩] (by repeat (first|exact .nil|refine .old rfl (by decide) rfl ?_)) (by repeat (first|exact .nil|refine .cons (.plain rfl rfl rfl) ?_|refine .cons (.own rfl (.head _) rfl rfl) ?_)))
 intro i hi
 obtain ⟨hml,hmb⟩:=zeV hin i
 (repeat (first|refine FW.seq ?_|refine FW.region ?_|refine zc.nil ?_|refine zZ rfl rfl rfl rfl ?_))
 refine FW.cond rfl (fun h=>?_) (fun h=>?_)
 ·have hlt:i<n:=by simpa using h
  clear h
  have hsl:=Xx E i
  have hms:=zeW n E hlt
  (repeat (first|refine FW.seq ?_|refine FW.region ?_|refine FW.block ?_|refine FW.skip ?_|refine zc.nil ?_|refine zb rfl rfl rfl ?_|refine za rfl rfl rfl ?_|refine zu rfl rfl (by first|exact List.length_map _|rfl|(simp;omega)) rfl rfl ?_|refine zq rfl rfl rfl rfl rfl rfl (by simp;omega) rfl rfl ?_|refine zm rfl rfl rfl (by simp;omega) (by first|exact zf (by omega)|rfl) rfl rfl rfl rfl ?_))
  rw [hrn i hlt]
  skip
  generalize Yq n E i=M at hml hmb hms
  refine FW.loop (fun j:Nat=>⟨[(0,.int .i64 n),(6,.list 1 ((zN n E).map Xb)),(7,.own 100 0 0 n),(26,.list 1 ((zN n E).map Xb)),(27,.int .i64 n),(28,.int .i64 i),(32,.list 1 ((zn E i).map zA)),(33,.int .i64 (zn E i).length),(34,.int .i64 j)],[(100,⟨0,.own,3,1,(((zn E i).take j).foldl zbA M).map zA⟩)]⟩) (fun j=>j≤(zn E i).length) (fun j=>(zn E i).length - j) 0 (Nat.zero_le _) ?_ ?_
  ·show FLe _ ⟨[(0,.int .i64 n),(6,.list 1 ((zN n E).map Xb)),(7,.own 100 0 0 n),(26,.list 1 ((zN n E).map Xb)),(27,.int .i64 n),(28,.int .i64 i),(32,.list 1 ((zn E i).map zA)),(33,.int .i64 (zn E i).length),(34,.int .i64 0)],[(100,⟨0,.own,3,1,M.map zA⟩)]⟩
   exact (FLe.cv [⟨100,some 100,0,⟨0,.own,3,1,M.map zA⟩⟩] (by repeat (first|exact .nil|refine .old rfl (by decide) rfl ?_)) (by repeat (first|exact .nil|refine .cons (.plain rfl rfl rfl) ?_|refine .cons (.own rfl (.head _) rfl rfl) ?_)))
  intro j hj
  (repeat (first|refine FW.seq ?_|refine FW.region ?_|refine zc.nil ?_|refine zZ rfl rfl rfl rfl ?_))
  refine FW.cond rfl (fun h=>?_) (fun h=>?_)
  ·have hlt2:j<(zn E i).length:=by simpa using h
   clear h
   obtain ⟨w,hw⟩:∃ w:Nat,nth (zn E i) j=w:=⟨(nth (zn E i) j).toNat,by have:=(yw hin (zx hlt2)).1;omega⟩
   have hwn:w<n:=by have:=(yw hin (zx hlt2)).2;omega
   have hst:((zn E i).take (j+1)).foldl zbA M=(((zn E i).take j).foldl zbA M).set w (nth (((zn E i).take j).foldl zbA M) w+1):=by
    rw [List.take_succ_eq_append_getElem hlt2,List.foldl_append,← nth_eq hlt2,hw];rfl
   have hbd:0≤nth (((zn E i).take j).foldl zbA M) w∧nth (((zn E i).take j).foldl zbA M) w≤n+1:=by
    rw [zag (n:=n) (List.Nodup.sublist (List.take_sublist _ _) (ZS E i)) (fun q hq=>yw hin (List.mem_of_mem_take hq)) hml w hwn]
    have:=hmb w hwn
    split <;> omega
   have hzl:(((zn E i).take j).foldl zbA M).length=n:=by rw [zaf];exact hml
   obtain ⟨Z,hZ⟩:∃ Z,((zn E i).take j).foldl zbA M=Z:=⟨_,rfl⟩
   rw [hZ] at hst hbd hzl ⊢
   (repeat (first|refine FW.seq ?_|refine FW.region ?_|refine FW.block ?_|refine FW.skip ?_|refine zc.nil ?_|refine zb rfl rfl rfl ?_|refine za rfl rfl rfl ?_|refine zq rfl rfl (by first|rfl|exact (Int.toNat_of_nonneg (by omega)).symm) rfl rfl rfl (by first|omega|(simp;omega)) rfl rfl ?_|refine zL rfl rfl (by first|rfl|exact (Int.toNat_of_nonneg (by omega)).symm) rfl rfl rfl (by decide) rfl (by first|omega|(simp;omega)) rfl rfl ?_|refine zm rfl rfl rfl (by first|omega|(simp;omega)) (by first|exact zf (by omega)|rfl) rfl rfl rfl rfl ?_|refine zp rfl rfl rfl rfl rfl (by first|omega|(simp;omega)) (by first|exact zf (by omega)|rfl) rfl rfl rfl rfl ?_))
   rw [hw,Int.toNat_natCast]
   (repeat (first|refine FW.region ?_|refine zc.nil ?_|refine za rfl rfl rfl ?_|refine zL rfl rfl rfl rfl rfl rfl (by decide) rfl (by first|omega|(simp;omega)) rfl rfl ?_|refine zt rfl rfl (by omega) rfl rfl ?_|refine ZP rfl rfl rfl rfl rfl rfl (by first|omega|(simp;omega)) (by first|exact zf (by omega)|rfl) rfl rfl rfl ?_))
   rw [show (zA (nth Z w)).set 0 (.int .i64 (nth Z w+1))=zA (nth Z w+1) from rfl,← List.map_set,← hst]
   skip
   refine ⟨j+1,by omega,by omega,?_⟩
   obtain ⟨Y,hY⟩:∃ Y,(((zn E i).take (j+1)).foldl zbA M).map zA=Y:=⟨_,rfl⟩
   rw [hY]
   exact (FLe.cv [⟨100,some 100,0,⟨0,.own,3,1,Y⟩⟩] (by repeat (first|exact .nil|refine .old rfl (by decide) rfl ?_)) (by repeat (first|exact .nil|refine .cons (.plain rfl rfl rfl) ?_|refine .cons (.own rfl (.head _) rfl rfl) ?_)))
  ·obtain rfl:j=(zn E i).length:=by simp at h;omega
   clear h hj
   rw [List.take_length,← hms]
   (repeat (first|refine FW.region ?_|refine FW.exit ?_|refine zc.nil ?_|refine za rfl rfl rfl ?_|refine zt rfl rfl (by omega) rfl rfl ?_))
   refine ⟨i+1,by omega,by omega,?_⟩
   exact (FLe.cv [⟨100,some 100,0,⟨0,.own,3,1,(Yq n E (i+1)).map zA⟩⟩] (by repeat (first|exact .nil|refine .old rfl (by decide) rfl ?_)) (by repeat (first|exact .nil|refine .cons (.plain rfl rfl rfl) ?_|refine .cons (.own rfl (.head _) rfl rfl) ?_)))
 ·obtain rfl:i=n:=by simp at h;omega
  clear h hi hml hmb
  rw [zgF]
  obtain ⟨hml,hmc⟩:=zbH hin
  have hcb:∀ w,zei i E [] w≤i:=fun w=>by
   have:zei i E [] w≤(List.range i).length:=List.countP_le_length
   rwa [List.length_range] at this
  (repeat (first|refine FW.seq ?_|refine FW.region ?_|refine FW.exit ?_|refine zg1 rfl rfl rfl rfl rfl rfl ?_))
  refine zk5 (f:=.own 46 (0+1) 0 0) rfl (.inr (.inl ⟨_,_,_,_,rfl,⟨by show ya.own≠.dead;decide,rfl⟩⟩)) rfl rfl rfl ?_
  refine zd5 rfl rfl rfl rfl rfl ?_
  (repeat (first|refine FW.seq ?_|refine FW.region ?_|refine FW.block ?_|refine zc.nil ?_|refine zb rfl rfl rfl ?_|refine za rfl rfl rfl ?_|refine yH rfl rfl rfl (by decide) rfl rfl ?_|refine zg8 rfl rfl rfl rfl rfl rfl (by decide) (by simp;done) rfl ?_|refine zg5 rfl rfl rfl rfl ?_))
  obtain ⟨n,hni⟩:∃ n,i=n:=⟨_,rfl⟩
  subst hni
  generalize hMM:zbf i E=M at hml hmc
  obtain ⟨n,hni⟩:∃ n,n=i:=⟨_,rfl⟩
  subst hni
  refine FW.loop (fun k:Nat=>⟨[(0,.int .i64 n),(6,.list 1 ((zN n E).map Xb)),(7,.own 100 0 0 n),(12,.ptr 110 0 0 0),(13,.wrap (.fn 60) [.ptr 110 0 0 0]),(49,.own 100 0 0 n),(50,.int .i64 n),(51,.int .i64 k)],[(100,⟨0,.own,3,1,M.map zA⟩),(110,⟨0,.hrow,96,1,[[.ptr 111 0 0 0]]⟩),(111,⟨0,.hrow,97,1,[[.own 112 0 0 (xG M k).length]]⟩),(112,⟨0,.own,3,1,(xG M k).map zA⟩)]⟩) (fun k=>k≤n) (fun k=>n - k) 0 (Nat.zero_le _) ?_ ?_
  ·show FLe _ ⟨[(0,.int .i64 n),(6,.list 1 ((zN n E).map Xb)),(7,.own 100 0 0 n),(12,.ptr 110 0 0 0),(13,.wrap (.fn 60) [.ptr 110 0 0 0]),(49,.own 100 0 0 n),(50,.int .i64 n),(51,.int .i64 0)],[(100,⟨0,.own,3,1,M.map zA⟩),(110,⟨0,.hrow,96,1,[[.ptr 111 0 0 0]]⟩),(111,⟨0,.hrow,97,1,[[.own 112 0 0 0]]⟩),(112,⟨0,.own,3,1,[]⟩)]⟩
   exact (FLe.cv [⟨100,some 100,0,⟨0,.own,3,1,M.map zA⟩⟩,⟨110,some 12,0+1,⟨0,.hrow,96,1,[[.ptr 111 0 0 0]]⟩⟩,⟨111,some 47,0+1,⟨0,.hrow,97,1,[[.own 112 0 0 0]]⟩⟩,⟨112,some 46,0+1,⟨0,.own,3,1,[]⟩⟩] (by repeat (first|exact .nil|refine .old rfl (by decide) rfl ?_|refine .oldH rfl (by repeat (first|exact .nil|refine .cons (.ptr (.tail _ (.tail _ (.head _))) rfl) ?_|refine .cons (.own (.tail _ (.tail _ (.tail _ (.head _)))) rfl rfl rfl) ?_)) ?_)) (by repeat (first|exact .nil|refine .cons (.plain rfl rfl rfl) ?_|refine .cons (.own rfl (.head _) rfl rfl) ?_|refine .cons (.ptr rfl (.tail _ (.head _)) rfl) ?_|refine .cons (.wrap rfl (by repeat (first|exact zd.nil|refine zd.cons (.plain rfl rfl) ?_|refine zd.cons (.ptr (.head _) rfl) ?_|refine zd.cons (.own (.head _) rfl rfl rfl) ?_|refine zd.cons (.omap (.head _) rfl) ?_|refine zd.cons (.ptr (.tail _ (.head _)) rfl) ?_|refine zd.cons (.own (.tail _ (.head _)) rfl rfl rfl) ?_|refine zd.cons (.omap (.tail _ (.head _)) rfl) ?_|refine zd.cons (.ptr (.tail _ (.tail _ (.head _))) rfl) ?_|refine zd.cons (.own (.tail _ (.tail _ (.head _))) rfl rfl rfl) ?_|refine zd.cons (.omap (.tail _ (.tail _ (.head _))) rfl) ?_|refine zd.cons (.ptr (.tail _ (.tail _ (.tail _ (.head _)))) rfl) ?_|refine zd.cons (.own (.tail _ (.tail _ (.tail _ (.head _)))) rfl rfl rfl) ?_|refine zd.cons (.omap (.tail _ (.tail _ (.tail _ (.head _)))) rfl) ?_))) ?_)))
  intro k hk
  (repeat (first|refine FW.seq ?_|refine FW.region ?_|refine zc.nil ?_|refine zZ rfl rfl rfl rfl ?_))
  refine FW.cond rfl (fun h=>?_) (fun h=>?_)
  ·have hlt:k<n:=by simpa using h
   clear h
   have hmk:=hmc k hlt
   have hck:=hcb k
   have hrs:xG M (k+1)=if nth M k=0 then Xm (xG M k) k else xG M k:=by
    unfold xG
    rw [List.range_succ,List.foldl_append];rfl
   have hrl:(xG M k).length≤k:=Yr (YO M k).2.1 fun x hx=>(((YO M k).2.2 x).1 hx).1
   obtain ⟨H,hH⟩:∃ H,xG M k=H:=⟨_,rfl⟩
   rw [hH] at hrs hrl ⊢
   (repeat (first|refine FW.seq ?_|refine FW.region ?_|refine FW.block ?_|refine FW.skip ?_|refine zc.nil ?_|refine zb rfl rfl rfl ?_|refine za rfl rfl rfl ?_|refine zL rfl rfl rfl rfl rfl rfl (by decide) rfl (by first|omega|(simp;omega)) rfl rfl ?_|refine zp rfl rfl rfl rfl rfl (by first|omega|(simp;omega)) (by first|exact zf (by omega)|rfl) rfl rfl rfl rfl ?_|refine yL rfl rfl rfl rfl ?_))
   refine FW.cond rfl (fun h=>?_) (fun h=>?_)
   ·rw [if_pos (by simpa using h)] at hrs
    (repeat (first|refine FW.region ?_|refine za rfl rfl rfl ?_))
    refine zd6 rfl (zaU 0 0 0 H k (by omega)) [(5002,110),(5000,111),(5001,112)] rfl (zC.cons rfl rfl rfl (zC.cons rfl rfl rfl (zC.cons rfl rfl rfl zC.nil))) rfl rfl rfl rfl rfl rfl ?_
    rintro _ ob' ⟨rfl,h2,h0,h1⟩
    refine xe.one [(110,⟨0,.hrow,96,1,[[.ptr 111 0 0 0]]⟩),(111,⟨0,.hrow,97,1,[[.own 112 (0+1) 0 (H.length+1)]]⟩),(112,⟨0+1,.own,3,1,(Xm H k).map zA⟩)] (.tup []) rfl (by show [(110,zh.ren _ (look {} ob' 5002)),(111,zh.ren _ (look {} ob' 5000)),(112,zh.ren _ (look {} ob' 5001))]=_;rw [h2,h0,h1];rfl) ?_
    clear h2 h0 h1 ob'
    (repeat (first|refine FW.region ?_|refine zc.nil ?_|refine za rfl rfl rfl ?_|refine zt rfl rfl (by omega) rfl rfl ?_))
    refine ⟨k+1,by omega,by omega,?_⟩
    rw [hrs]
    have hpl:=zae H k
    generalize Xm H k=Y at hpl
    rw [hpl]
    exact (FLe.cv [⟨100,some 100,0,⟨0,.own,3,1,M.map zA⟩⟩,⟨110,some 110,0,⟨0,.hrow,96,1,[[.ptr 111 0 0 0]]⟩⟩,⟨111,some 111,0,⟨0,.hrow,97,1,[[.own 112 0 0 (H.length+1)]]⟩⟩,⟨112,some 112,0+1,⟨0,.own,3,1,Y.map zA⟩⟩] (by repeat (first|exact .nil|refine .old rfl (by decide) rfl ?_|refine .oldH rfl (by repeat (first|exact .nil|refine .cons (.ptr (.tail _ (.tail _ (.head _))) rfl) ?_|refine .cons (.own (.tail _ (.tail _ (.tail _ (.head _)))) rfl rfl rfl) ?_)) ?_)) (by repeat (first|exact .nil|refine .cons (.plain rfl rfl rfl) ?_|refine .cons (.own rfl (.head _) rfl rfl) ?_|refine .cons (.ptr rfl (.tail _ (.head _)) rfl) ?_|refine .cons (.wrap rfl (by repeat (first|exact zd.nil|refine zd.cons (.plain rfl rfl) ?_|refine zd.cons (.ptr (.head _) rfl) ?_|refine zd.cons (.own (.head _) rfl rfl rfl) ?_|refine zd.cons (.omap (.head _) rfl) ?_|refine zd.cons (.ptr (.tail _ (.head _)) rfl) ?_|refine zd.cons (.own (.tail _ (.head _)) rfl rfl rfl) ?_|refine zd.cons (.omap (.tail _ (.head _)) rfl) ?_|refine zd.cons (.ptr (.tail _ (.tail _ (.head _))) rfl) ?_|refine zd.cons (.own (.tail _ (.tail _ (.head _))) rfl rfl rfl) ?_|refine zd.cons (.omap (.tail _ (.tail _ (.head _))) rfl) ?_|refine zd.cons (.ptr (.tail _ (.tail _ (.tail _ (.head _)))) rfl) ?_|refine zd.cons (.own (.tail _ (.tail _ (.tail _ (.head _)))) rfl rfl rfl) ?_|refine zd.cons (.omap (.tail _ (.tail _ (.tail _ (.head _)))) rfl) ?_))) ?_)))
   ·rw [if_neg (by simpa using h)] at hrs
    (repeat (first|refine FW.region ?_|refine FW.skip ?_|refine zc.nil ?_|refine za rfl rfl rfl ?_|refine zt rfl rfl (by omega) rfl rfl ?_))
    refine ⟨k+1,by omega,by omega,?_⟩
    rw [hrs]
    exact (FLe.cv [⟨100,some 100,0,⟨0,.own,3,1,M.map zA⟩⟩,⟨110,some 110,0,⟨0,.hrow,96,1,[[.ptr 111 0 0 0]]⟩⟩,⟨111,some 111,0,⟨0,.hrow,97,1,[[.own 112 0 0 H.length]]⟩⟩,⟨112,some 112,0,⟨0,.own,3,1,H.map zA⟩⟩] (by repeat (first|exact .nil|refine .old rfl (by decide) rfl ?_|refine .oldH rfl (by repeat (first|exact .nil|refine .cons (.ptr (.tail _ (.tail _ (.head _))) rfl) ?_|refine .cons (.own (.tail _ (.tail _ (.tail _ (.head _)))) rfl rfl rfl) ?_)) ?_)) (by repeat (first|exact .nil|refine .cons (.plain rfl rfl rfl) ?_|refine .cons (.own rfl (.head _) rfl rfl) ?_|refine .cons (.ptr rfl (.tail _ (.head _)) rfl) ?_|refine .cons (.wrap rfl (by repeat (first|exact zd.nil|refine zd.cons (.plain rfl rfl) ?_|refine zd.cons (.ptr (.head _) rfl) ?_|refine zd.cons (.own (.head _) rfl rfl rfl) ?_|refine zd.cons (.omap (.head _) rfl) ?_|refine zd.cons (.ptr (.tail _ (.head _)) rfl) ?_|refine zd.cons (.own (.tail _ (.head _)) rfl rfl rfl) ?_|refine zd.cons (.omap (.tail _ (.head _)) rfl) ?_|refine zd.cons (.ptr (.tail _ (.tail _ (.head _))) rfl) ?_|refine zd.cons (.own (.tail _ (.tail _ (.head _))) rfl rfl rfl) ?_|refine zd.cons (.omap (.tail _ (.tail _ (.head _))) rfl) ?_|refine zd.cons (.ptr (.tail _ (.tail _ (.tail _ (.head _)))) rfl) ?_|refine zd.cons (.own (.tail _ (.tail _ (.tail _ (.head _)))) rfl rfl rfl) ?_|refine zd.cons (.omap (.tail _ (.tail _ (.tail _ (.head _)))) rfl) ?_))) ?_)))
  ·obtain rfl:k=n:=by simp at h;omega
   clear h hk
   have hTI:=TI.start hin
   have hst:yu k E=⟨M,xG M k,[]⟩:=by unfold yu;rw [hMM]
   have hend:(yb E (k+1) (yu k E)).out=xc k E:=rfl
   rw [hst] at hTI hend
   (repeat (first|refine FW.seq ?_|refine FW.region ?_|refine FW.block ?_|refine FW.exit ?_|refine zc.nil ?_|refine zb rfl rfl rfl ?_|refine Zt rfl rfl rfl rfl rfl rfl rfl ?_|refine zj5 rfl rfl rfl rfl ?_))
   obtain ⟨n,hni⟩:∃ n,n=k:=⟨_,rfl⟩
   subst hni
   generalize xG M n=H at hTI hend
   clear hMM hst hcb hmc hml
   refine FW.loop (fun s:zcU=>⟨[(0,.int .i64 n),(6,.list 1 ((zN n E).map Xb)),(7,.own 100 0 0 n),(12,.ptr 110 0 0 0),(13,.wrap (.fn 60) [.ptr 110 0 0 0]),(16,.own 101 0 0 s.out.length),(17,.wrap (.bound 62) [.ptr 111 0 0 0])],[(101,⟨0,.own,3,1,s.out.map zA⟩),(100,⟨0,.own,3,1,s.m.map zA⟩),(110,⟨0,.hrow,96,1,[[.ptr 111 0 0 0]]⟩),(111,⟨0,.hrow,97,1,[[.own 112 0 0 s.h.length]]⟩),(112,⟨0,.own,3,1,s.h.map zA⟩)]⟩) (fun s=>TI n E s∧∃ k,n<s.out.length+k∧(yb E k s).out=xc n E) (fun s=>n - s.out.length) ⟨M,H,[]⟩ ⟨hTI,n+1,by show n<0+(n+1);omega,hend⟩ ?_ ?_
   ·show FLe _ ⟨[(0,.int .i64 n),(6,.list 1 ((zN n E).map Xb)),(7,.own 100 0 0 n),(12,.ptr 110 0 0 0),(13,.wrap (.fn 60) [.ptr 110 0 0 0]),(16,.own 101 0 0 0),(17,.wrap (.bound 62) [.ptr 111 0 0 0])],[(101,⟨0,.own,3,1,[]⟩),(100,⟨0,.own,3,1,M.map zA⟩),(110,⟨0,.hrow,96,1,[[.ptr 111 0 0 0]]⟩),(111,⟨0,.hrow,97,1,[[.own 112 0 0 H.length]]⟩),(112,⟨0,.own,3,1,H.map zA⟩)]⟩
    exact (FLe.cv [⟨101,none,0,⟨0,.own,3,1,[]⟩⟩,⟨100,some 100,0,⟨0,.own,3,1,M.map zA⟩⟩,⟨110,some 110,0,⟨0,.hrow,96,1,[[.ptr 111 0 0 0]]⟩⟩,⟨111,some 111,0,⟨0,.hrow,97,1,[[.own 112 0 0 H.length]]⟩⟩,⟨112,some 112,0,⟨0,.own,3,1,H.map zA⟩⟩] (by repeat (first|exact .nil|refine .old rfl (by decide) rfl ?_|refine .oldH rfl (by repeat (first|exact .nil|refine .cons (.ptr (.tail _ (.tail _ (.tail _ (.head _)))) rfl) ?_|refine .cons (.own (.tail _ (.tail _ (.tail _ (.tail _ (.head _))))) rfl rfl rfl) ?_)) ?_|refine .new ?_)) (by repeat (first|exact .nil|refine .cons (.plain rfl rfl rfl) ?_|refine .cons (.nil rfl (.head _) rfl) ?_|refine .cons (.own rfl (.tail _ (.head _)) rfl rfl) ?_|refine .cons (.ptr rfl (.tail _ (.tail _ (.head _))) rfl) ?_|refine .cons (.wrap rfl (by repeat (first|exact zd.nil|refine zd.cons (.plain rfl rfl) ?_|refine zd.cons (.ptr (.head _) rfl) ?_|refine zd.cons (.own (.head _) rfl rfl rfl) ?_|refine zd.cons (.omap (.head _) rfl) ?_|refine zd.cons (.ptr (.tail _ (.head _)) rfl) ?_|refine zd.cons (.own (.tail _ (.head _)) rfl rfl rfl) ?_|refine zd.cons (.omap (.tail _ (.head _)) rfl) ?_|refine zd.cons (.ptr (.tail _ (.tail _ (.head _))) rfl) ?_|refine zd.cons (.own (.tail _ (.tail _ (.head _))) rfl rfl rfl) ?_|refine zd.cons (.omap (.tail _ (.tail _ (.head _))) rfl) ?_|refine zd.cons (.ptr (.tail _ (.tail _ (.tail _ (.head _)))) rfl) ?_|refine zd.cons (.own (.tail _ (.tail _ (.tail _ (.head _)))) rfl rfl rfl) ?_|refine zd.cons (.omap (.tail _ (.tail _ (.tail _ (.head _)))) rfl) ?_|refine zd.cons (.ptr (.tail _ (.tail _ (.tail _ (.tail _ (.head _))))) rfl) ?_|refine zd.cons (.own (.tail _ (.tail _ (.tail _ (.tail _ (.head _))))) rfl rfl rfl) ?_|refine zd.cons (.omap (.tail _ (.tail _ (.tail _ (.tail _ (.head _))))) rfl) ?_))) ?_)))
   clear hTI hend M H
   rintro ⟨m,h,out⟩ ⟨hTI,fu,hfu,hend⟩
   dsimp only at hfu hend ⊢
   have hhl:h.length≤n:=hTI.hle
   have hml:m.length=n:=hTI.len
   have hol:out.length≤n:=hTI.le
   (repeat (first|refine FW.seq ?_|refine FW.region ?_|refine za rfl rfl rfl ?_))
   refine ziY rfl (VB 0 0 h) [(5000,111),(5001,112)] rfl (zC.cons rfl rfl rfl (zC.cons rfl rfl rfl zC.nil)) rfl rfl rfl rfl rfl rfl ?_
   rintro _ ob' ⟨rfl,h1,h2⟩
   refine xe.one [(111,⟨0,.hrow,97,1,[[.own 112 0 0 h.length]]⟩),(112,⟨0,.own,3,1,h.map zA⟩)] (.int .i64 h.length) rfl (by show [(111,zh.ren _ (look {} ob' 5000)),(112,zh.ren _ (look {} ob' 5001))]=_;rw [h1,h2];rfl) ?_
   clear h1 h2 ob'
   (repeat (first|refine zc.nil ?_|refine Yw rfl rfl rfl rfl ?_))
   refine FW.cond rfl (fun hc=>?_) (fun hc=>?_)
   ·obtain ⟨k,hk⟩:∃ k,h.length=k+1:=⟨h.length - 1,by simp at hc;omega⟩
    clear hc
    (repeat (first|refine FW.seq ?_|refine FW.region ?_|refine FW.block ?_|refine FW.skip ?_|refine Zt rfl rfl rfl rfl rfl rfl rfl ?_|refine zaF rfl rfl (by kernel_rfl) rfl rfl ?_))
    refine xH (zgv 0 0 h k hk (by omega)) [(5000,111),(5001,112)] rfl (zC.cons rfl rfl rfl (zC.cons rfl rfl rfl zC.nil)) rfl rfl rfl rfl rfl rfl ?_
    rintro _ ob' ⟨rfl,h1,h2⟩
    refine xe.one [(111,⟨0,.hrow,97,1,[[.own 112 (0+1) 0 k]]⟩),(112,⟨0+1,.own,3,1,((yK h k).take k).map zA⟩)] (.iface 3 (.int .i64 (nth (yK h k) k))) rfl (by show [(111,zh.ren _ (look {} ob' 5000)),(112,zh.ren _ (look {} ob' 5001))]=_;rw [h1,h2];rfl) ?_
    clear h1 h2 ob'
    obtain ⟨v,hv,hvn,hvo,hm0,hmin,hDI,hN,hR⟩:=hTI.first hk
    dsimp only at hv hvo hm0 hmin hDI hN hR
    rw [hv]
    have hstep:yT E ⟨m,h,out⟩=⟨((zn E v).foldl decr (m,(yK h k).take k)).1,((zn E v).foldl decr (m,(yK h k).take k)).2,out++[(v:Int)]⟩:=by
     unfold yT
     dsimp only
     rw [show h.length - 1=k by omega,hv];rfl
    have hTI':=hTI.step hin (by rintro e;rw [show h=[] from e] at hk;simp at hk)
    rw [hstep] at hTI'
    have hend' : ∀ f,fu=f+1→(yb E f (yT E ⟨m,h,out⟩)).out=xc n E:=fun f hf=>by
     subst hf
     rw [← hend]
     exact (congrArg zcU.out (show yb E (f+1) ⟨m,h,out⟩=yb E f (yT E ⟨m,h,out⟩) from if_neg (by rintro e;rw [show h=[] from e] at hk;simp at hk))).symm
    rw [hstep] at hend'
    have hsl:=Xx E v
    (repeat (first|refine FW.seq ?_|refine FW.region ?_|refine FW.block ?_|refine zc.nil ?_|refine zb rfl rfl rfl ?_|refine za rfl rfl rfl ?_|refine zu rfl rfl (by first|exact List.length_map _|exact (List.length_map _).symm|rfl|(simp;done)|(simp;omega)) rfl rfl ?_|refine zq rfl rfl rfl rfl rfl rfl (by first|(simp;omega)|(simp;done)) rfl rfl ?_|refine zm rfl rfl rfl (by first|(simp;omega)|(simp;done)) (by first|exact zf (by omega)|rfl) rfl rfl rfl rfl ?_|refine xm rfl rfl rfl rfl rfl rfl rfl rfl ?_|refine zhb rfl rfl rfl (by kernel_rfl) rfl rfl ?_|refine VF rfl rfl (by first|exact List.length_map _|exact (List.length_map _).symm|rfl|(simp;done)|(simp;omega)) rfl rfl rfl (by decide) (by exact YV.own rfl rfl (by decide) (by first|exact List.length_map _|exact (List.length_map _).symm|exact List.length_replicate|rfl|(simp;done)|omega|(simp;omega))) (by first|(simp;omega)|(simp;done)) (by first|(simp;omega)|(simp;done)) rfl rfl rfl ?_))
    rw [hrn v hvn]
    obtain ⟨O,hO⟩:∃ O,out++[(v:Int)]=O:=⟨_,rfl⟩
    obtain ⟨Om,hOm⟩:∃ Om,out.map zA++[[.int .i64 v]]=Om:=⟨_,rfl⟩
    have hOO:O.map zA=Om:=by rw [← hO,← hOm,List.map_append];rfl
    have hOl:Om.length=O.length:=by rw [← hOO,List.length_map]
    have hOl2:O.length=out.length+1:=by rw [← hO];simp
    rw [hO] at hDI hN hR hTI' hend'
    rw [hOm,hOl]
    have htl:((yK h k).take k).length=k:=by rw [List.length_take,zad];omega
    obtain ⟨H0,hH0⟩:∃ H0,(yK h k).take k=H0:=⟨_,rfl⟩
    rw [hH0] at hDI htl hTI' hend' ⊢
    clear hstep hH0 hv hmin
    refine FW.loop (fun j:Nat=>⟨[(0,.int .i64 n),(6,.list 1 ((zN n E).map Xb)),(7,.own 100 0 0 n),(12,.ptr 110 0 0 0),(13,.wrap (.fn 60) [.ptr 110 0 0 0]),(16,.own 101 0 0 O.length),(17,.wrap (.bound 62) [.ptr 111 0 0 0]),(78,.list 1 ((zn E v).map zA)),(79,.int .i64 (zn E v).length),(80,.int .i64 j)],[(101,⟨0,.own,3,1,O.map zA⟩),(100,⟨0,.own,3,1,(((zn E v).take j).foldl decr (m,H0)).1.map zA⟩),(110,⟨0,.hrow,96,1,[[.ptr 111 0 0 0]]⟩),(111,⟨0,.hrow,97,1,[[.own 112 0 0 (((zn E v).take j).foldl decr (m,H0)).2.length]]⟩),(112,⟨0,.own,3,1,(((zn E v).take j).foldl decr (m,H0)).2.map zA⟩)]⟩) (fun j=>j≤(zn E v).length) (fun j=>(zn E v).length - j) 0 (Nat.zero_le _) ?_ ?_
    ·show FLe _ ⟨[(0,.int .i64 n),(6,.list 1 ((zN n E).map Xb)),(7,.own 100 0 0 n),(12,.ptr 110 0 0 0),(13,.wrap (.fn 60) [.ptr 110 0 0 0]),(16,.own 101 0 0 O.length),(17,.wrap (.bound 62) [.ptr 111 0 0 0]),(78,.list 1 ((zn E v).map zA)),(79,.int .i64 (zn E v).length),(80,.int .i64 0)],[(101,⟨0,.own,3,1,O.map zA⟩),(100,⟨0,.own,3,1,m.map zA⟩),(110,⟨0,.hrow,96,1,[[.ptr 111 0 0 0]]⟩),(111,⟨0,.hrow,97,1,[[.own 112 0 0 H0.length]]⟩),(112,⟨0,.own,3,1,H0.map zA⟩)]⟩
     rw [← hOO,htl]
     exact (FLe.cv [⟨101,some 74,0+1,⟨0,.own,3,1,O.map zA⟩⟩,⟨100,some 100,0,⟨0,.own,3,1,m.map zA⟩⟩,⟨110,some 110,0,⟨0,.hrow,96,1,[[.ptr 111 0 0 0]]⟩⟩,⟨111,some 111,0,⟨0,.hrow,97,1,[[.own 112 0 0 k]]⟩⟩,⟨112,some 112,0+1,⟨0,.own,3,1,H0.map zA⟩⟩] (by repeat (first|exact .nil|refine .old rfl (by decide) rfl ?_|refine .oldH rfl (by repeat (first|exact .nil|refine .cons (.ptr (.tail _ (.tail _ (.tail _ (.head _)))) rfl) ?_|refine .cons (.own (.tail _ (.tail _ (.tail _ (.tail _ (.head _))))) rfl rfl rfl) ?_)) ?_)) (by repeat (first|exact .nil|refine .cons (.plain rfl rfl rfl) ?_|refine .cons (.own rfl (.head _) rfl rfl) ?_|refine .cons (.own rfl (.tail _ (.head _)) rfl rfl) ?_|refine .cons (.ptr rfl (.tail _ (.tail _ (.head _))) rfl) ?_|refine .cons (.wrap rfl (by repeat (first|exact zd.nil|refine zd.cons (.plain rfl rfl) ?_|refine zd.cons (.ptr (.head _) rfl) ?_|refine zd.cons (.own (.head _) rfl rfl rfl) ?_|refine zd.cons (.omap (.head _) rfl) ?_|refine zd.cons (.ptr (.tail _ (.head _)) rfl) ?_|refine zd.cons (.own (.tail _ (.head _)) rfl rfl rfl) ?_|refine zd.cons (.omap (.tail _ (.head _)) rfl) ?_|refine zd.cons (.ptr (.tail _ (.tail _ (.head _))) rfl) ?_|refine zd.cons (.own (.tail _ (.tail _ (.head _))) rfl rfl rfl) ?_|refine zd.cons (.omap (.tail _ (.tail _ (.head _))) rfl) ?_|refine zd.cons (.ptr (.tail _ (.tail _ (.tail _ (.head _)))) rfl) ?_|refine zd.cons (.own (.tail _ (.tail _ (.tail _ (.head _)))) rfl rfl rfl) ?_|refine zd.cons (.omap (.tail _ (.tail _ (.tail _ (.head _)))) rfl) ?_|refine zd.cons (.ptr (.tail _ (.tail _ (.tail _ (.tail _ (.head _))))) rfl) ?_|refine zd.cons (.own (.tail _ (.tail _ (.tail _ (.tail _ (.head _))))) rfl rfl rfl) ?_|refine zd.cons (.omap (.tail _ (.tail _ (.tail _ (.tail _ (.head _))))) rfl) ?_))) ?_)))
    intro j hj
    have hDj:=DI.fold (r1:=(zn E v).take j) (r2:=(zn E v).drop j) hR (by rw [List.take_append_drop];exact hDI) (by rw [List.take_append_drop];exact ZS E v) (by rw [List.take_append_drop];exact fun w hw=>yw hin hw)
    have hst:∀ hl:j<(zn E v).length,((zn E v).take (j+1)).foldl decr (m,H0)=decr (((zn E v).take j).foldl decr (m,H0)) (nth (zn E v) j):=fun hl=>by
     rw [List.take_succ_eq_append_getElem hl,List.foldl_append,← nth_eq hl];rfl
    have hlast:j=(zn E v).length→(zn E v).foldl decr (m,H0)=((zn E v).take j).foldl decr (m,H0):=fun e=>by rw [e,List.take_length]
    generalize ((zn E v).take j).foldl decr (m,H0)=q at hDj hst hlast
    obtain ⟨qm,qh⟩:=q
    have hql:qm.length=n:=hDj.len
    have hqh:qh.length≤n:=Yr hDj.hN fun x hx=>((hDj.hM x).1 hx).1
    dsimp only
    (repeat (first|refine FW.seq ?_|refine FW.region ?_|refine zc.nil ?_|refine zZ rfl rfl rfl rfl ?_))
    refine FW.cond rfl (fun hc=>?_) (fun hc=>?_)
    ·have hlt2:j<(zn E v).length:=by simpa using hc
     clear hc hlast
     have hst:=hst hlt2
     obtain ⟨w,hw⟩:∃ w:Nat,nth (zn E v) j=w:=⟨(nth (zn E v) j).toNat,by have:=(yw hin (zx hlt2)).1;omega⟩
     have hwn:w<n:=by have:=(yw hin (zx hlt2)).2;omega
     have hbd:0≤nth qm w∧nth qm w≤n+1:=by
      have h1:=hDj.cnt w hwn
      have h2:zei n E O w≤(List.range n).length:=List.countP_le_length
      rw [List.length_range] at h2
      dsimp only at h1
      rw [h1]
      split <;> omega
     have hdec:decr (qm,qh) (w:Int)=(qm.set w (nth qm w - 1),if nth qm w - 1=0 then Xm qh w else qh):=by unfold decr;rw [Int.toNat_natCast]
     rw [hw,hdec] at hst
     obtain ⟨Z,hZ⟩:∃ Z,qm.set w (nth qm w - 1)=Z:=⟨_,rfl⟩
     have hZl:Z.length=n:=by rw [← hZ];simpa using hql
     have hZw:nth Z w=nth qm w - 1:=by rw [← hZ];exact zE (by omega)
     rw [hZ] at hst
     (repeat (first|refine FW.seq ?_|refine FW.region ?_|refine FW.block ?_|refine FW.skip ?_|refine zc.nil ?_|refine zb rfl rfl rfl ?_|refine za rfl rfl rfl ?_|refine zq rfl rfl (by first|rfl|exact (Int.toNat_of_nonneg (by omega)).symm) rfl rfl rfl (by first|omega|(simp;omega)) rfl rfl ?_|refine zL rfl rfl (by first|rfl|exact (Int.toNat_of_nonneg (by omega)).symm) rfl rfl rfl (by decide) rfl (by first|omega|(simp;omega)) rfl rfl ?_|refine zm rfl rfl rfl (by first|omega|(simp;omega)) (by first|exact zf (by omega)|rfl) rfl rfl rfl rfl ?_|refine zp rfl rfl rfl rfl rfl (by first|omega|(simp;omega)) (by first|exact zf (by omega)|rfl) rfl rfl rfl rfl ?_))
     rw [hw,Int.toNat_natCast]
     (repeat (first|refine FW.seq ?_|refine FW.region ?_|refine zc.nil ?_|refine za rfl rfl rfl ?_|refine zL rfl rfl rfl rfl rfl rfl (by decide) rfl (by first|omega|(simp;omega)) rfl rfl ?_|refine ZP rfl rfl rfl rfl rfl rfl (by first|omega|(simp;omega)) (by first|exact zf (by omega)|rfl) rfl rfl rfl ?_|refine zaI rfl rfl (by omega) rfl rfl ?_))
     rw [show (zA (nth qm w)).set 0 (.int .i64 (nth qm w - 1))=zA (nth qm w - 1) from rfl,← List.map_set,hZ]
     (repeat (first|refine zc.nil ?_|refine zp rfl rfl rfl rfl rfl (by simp;omega) (by exact zf (by omega)) rfl rfl rfl rfl ?_|refine yL rfl rfl rfl rfl ?_))
     rw [hZw]
     skip
     refine FW.cond rfl (fun hc=>?_) (fun hc=>?_)
     ·rw [if_pos (by simpa using hc)] at hst
      (repeat (first|refine FW.region ?_|refine za rfl rfl rfl ?_))
      refine zd6 rfl (zaU 0 0 0 qh w (by omega)) [(5002,110),(5000,111),(5001,112)] rfl (zC.cons rfl rfl rfl (zC.cons rfl rfl rfl (zC.cons rfl rfl rfl zC.nil))) rfl rfl rfl rfl rfl rfl ?_
      rintro _ ob' ⟨rfl,h2,h0,h1⟩
      refine xe.one [(110,⟨0,.hrow,96,1,[[.ptr 111 0 0 0]]⟩),(111,⟨0,.hrow,97,1,[[.own 112 (0+1) 0 (qh.length+1)]]⟩),(112,⟨0+1,.own,3,1,(Xm qh w).map zA⟩)] (.tup []) rfl (by show [(110,zh.ren _ (look {} ob' 5002)),(111,zh.ren _ (look {} ob' 5000)),(112,zh.ren _ (look {} ob' 5001))]=_;rw [h2,h0,h1];rfl) ?_
      clear h2 h0 h1 ob'
      (repeat (first|refine FW.region ?_|refine zc.nil ?_|refine za rfl rfl rfl ?_|refine zt rfl rfl (by omega) rfl rfl ?_))
      refine ⟨j+1,by omega,by omega,?_⟩
      rw [hst]
      dsimp only
      have hpl:=zae qh w
      generalize Xm qh w=Y at hpl
      rw [hpl]
      exact (FLe.cv [⟨101,some 101,0,⟨0,.own,3,1,O.map zA⟩⟩,⟨100,some 100,0,⟨0,.own,3,1,Z.map zA⟩⟩,⟨110,some 110,0,⟨0,.hrow,96,1,[[.ptr 111 0 0 0]]⟩⟩,⟨111,some 111,0,⟨0,.hrow,97,1,[[.own 112 0 0 (qh.length+1)]]⟩⟩,⟨112,some 112,0+1,⟨0,.own,3,1,Y.map zA⟩⟩] (by repeat (first|exact .nil|refine .old rfl (by decide) rfl ?_|refine .oldH rfl (by repeat (first|exact .nil|refine .cons (.ptr (.tail _ (.tail _ (.tail _ (.head _)))) rfl) ?_|refine .cons (.own (.tail _ (.tail _ (.tail _ (.tail _ (.head _))))) rfl rfl rfl) ?_)) ?_)) (by repeat (first|exact .nil|refine .cons (.plain rfl rfl rfl) ?_|refine .cons (.own rfl (.head _) rfl rfl) ?_|refine .cons (.own rfl (.tail _ (.head _)) rfl rfl) ?_|refine .cons (.ptr rfl (.tail _ (.tail _ (.head _))) rfl) ?_|refine .cons (.wrap rfl (by repeat (first|exact zd.nil|refine zd.cons (.plain rfl rfl) ?_|refine zd.cons (.ptr (.head _) rfl) ?_|refine zd.cons (.own (.head _) rfl rfl rfl) ?_|refine zd.cons (.omap (.head _) rfl) ?_|refine zd.cons (.ptr (.tail _ (.head _)) rfl) ?_|refine zd.cons (.own (.tail _ (.head _)) rfl rfl rfl) ?_|refine zd.cons (.omap (.tail _ (.head _)) rfl) ?_|refine zd.cons (.ptr (.tail _ (.tail _ (.head _))) rfl) ?_|refine zd.cons (.own (.tail _ (.tail _ (.head _))) rfl rfl rfl) ?_|refine zd.cons (.omap (.tail _ (.tail _ (.head _))) rfl) ?_|refine zd.cons (.ptr (.tail _ (.tail _ (.tail _ (.head _)))) rfl) ?_|refine zd.cons (.own (.tail _ (.tail _ (.tail _ (.head _)))) rfl rfl rfl) ?_|refine zd.cons (.omap (.tail _ (.tail _ (.tail _ (.head _)))) rfl) ?_|refine zd.cons (.ptr (.tail _ (.tail _ (.tail _ (.tail _ (.head _))))) rfl) ?_|refine zd.cons (.own (.tail _ (.tail _ (.tail _ (.tail _ (.head _))))) rfl rfl rfl) ?_|refine zd.cons (.omap (.tail _ (.tail _ (.tail _ (.tail _ (.head _))))) rfl) ?_))) ?_)))
     ·rw [if_neg (by simpa using hc)] at hst
      (repeat (first|refine FW.region ?_|refine FW.skip ?_|refine zc.nil ?_|refine za rfl rfl rfl ?_|refine zt rfl rfl (by omega) rfl rfl ?_))
      refine ⟨j+1,by omega,by omega,?_⟩
      rw [hst]
      dsimp only
      exact (FLe.cv [⟨101,some 101,0,⟨0,.own,3,1,O.map zA⟩⟩,⟨100,some 100,0,⟨0,.own,3,1,Z.map zA⟩⟩,⟨110,some 110,0,⟨0,.hrow,96,1,[[.ptr 111 0 0 0]]⟩⟩,⟨111,some 111,0,⟨0,.hrow,97,1,[[.own 112 0 0 qh.length]]⟩⟩,⟨112,some 112,0,⟨0,.own,3,1,qh.map zA⟩⟩] (by repeat (first|exact .nil|refine .old rfl (by decide) rfl ?_|refine .oldH rfl (by repeat (first|exact .nil|refine .cons (.ptr (.tail _ (.tail _ (.tail _ (.head _)))) rfl) ?_|refine .cons (.own (.tail _ (.tail _ (.tail _ (.tail _ (.head _))))) rfl rfl rfl) ?_)) ?_)) (by repeat (first|exact .nil|refine .cons (.plain rfl rfl rfl) ?_|refine .cons (.own rfl (.head _) rfl rfl) ?_|refine .cons (.own rfl (.tail _ (.head _)) rfl rfl) ?_|refine .cons (.ptr rfl (.tail _ (.tail _ (.head _))) rfl) ?_|refine .cons (.wrap rfl (by repeat (first|exact zd.nil|refine zd.cons (.plain rfl rfl) ?_|refine zd.cons (.ptr (.head _) rfl) ?_|refine zd.cons (.own (.head _) rfl rfl rfl) ?_|refine zd.cons (.omap (.head _) rfl) ?_|refine zd.cons (.ptr (.tail _ (.head _)) rfl) ?_|refine zd.cons (.own (.tail _ (.head _)) rfl rfl rfl) ?_|refine zd.cons (.omap (.tail _ (.head _)) rfl) ?_|refine zd.cons (.ptr (.tail _ (.tail _ (.head _))) rfl) ?_|refine zd.cons (.own (.tail _ (.tail _ (.head _))) rfl rfl rfl) ?_|refine zd.cons (.omap (.tail _ (.tail _ (.head _))) rfl) ?_|refine zd.cons (.ptr (.tail _ (.tail _ (.tail _ (.head _)))) rfl) ?_|refine zd.cons (.own (.tail _ (.tail _ (.tail _ (.head _)))) rfl rfl rfl) ?_|refine zd.cons (.omap (.tail _ (.tail _ (.tail _ (.head _)))) rfl) ?_|refine zd.cons (.ptr (.tail _ (.tail _ (.tail _ (.tail _ (.head _))))) rfl) ?_|refine zd.cons (.own (.tail _ (.tail _ (.tail _ (.tail _ (.head _))))) rfl rfl rfl) ?_|refine zd.cons (.omap (.tail _ (.tail _ (.tail _ (.tail _ (.head _))))) rfl) ?_))) ?_)))
    ·have hje:j=(zn E v).length:=by simp at hc;omega
     rw [hlast hje] at hTI' hend'
     clear hc hlast hst
     (repeat (first|refine FW.exit ?_))
     refine ⟨⟨qm,qh,O⟩,⟨hTI',fu - 1,by show n<O.length+(fu - 1);omega,hend' _ (by omega)⟩,by show n - O.length<n - out.length;have:=hTI'.le;dsimp only at this;omega,?_⟩
     exact (FLe.cv [⟨101,some 101,0,⟨0,.own,3,1,O.map zA⟩⟩,⟨100,some 100,0,⟨0,.own,3,1,qm.map zA⟩⟩,⟨110,some 110,0,⟨0,.hrow,96,1,[[.ptr 111 0 0 0]]⟩⟩,⟨111,some 111,0,⟨0,.hrow,97,1,[[.own 112 0 0 qh.length]]⟩⟩,⟨112,some 112,0,⟨0,.own,3,1,qh.map zA⟩⟩] (by repeat (first|exact .nil|refine .old rfl (by decide) rfl ?_|refine .oldH rfl (by repeat (first|exact .nil|refine .cons (.ptr (.tail _ (.tail _ (.tail _ (.head _)))) rfl) ?_|refine .cons (.own (.tail _ (.tail _ (.tail _ (.tail _ (.head _))))) rfl rfl rfl) ?_)) ?_)) (by repeat (first|exact .nil|refine .cons (.plain rfl rfl rfl) ?_|refine .cons (.own rfl (.head _) rfl rfl) ?_|refine .cons (.own rfl (.tail _ (.head _)) rfl rfl) ?_|refine .cons (.ptr rfl (.tail _ (.tail _ (.head _))) rfl) ?_|refine .cons (.wrap rfl (by repeat (first|exact zd.nil|refine zd.cons (.plain rfl rfl) ?_|refine zd.cons (.ptr (.head _) rfl) ?_|refine zd.cons (.own (.head _) rfl rfl rfl) ?_|refine zd.cons (.omap (.head _) rfl) ?_|refine zd.cons (.ptr (.tail _ (.head _)) rfl) ?_|refine zd.cons (.own (.tail _ (.head _)) rfl rfl rfl) ?_|refine zd.cons (.omap (.tail _ (.head _)) rfl) ?_|refine zd.cons (.ptr (.tail _ (.tail _ (.head _))) rfl) ?_|refine zd.cons (.own (.tail _ (.tail _ (.head _))) rfl rfl rfl) ?_|refine zd.cons (.omap (.tail _ (.tail _ (.head _))) rfl) ?_|refine zd.cons (.ptr (.tail _ (.tail _ (.tail _ (.head _)))) rfl) ?_|refine zd.cons (.own (.tail _ (.tail _ (.tail _ (.head _)))) rfl rfl rfl) ?_|refine zd.cons (.omap (.tail _ (.tail _ (.tail _ (.head _)))) rfl) ?_|refine zd.cons (.ptr (.tail _ (.tail _ (.tail _ (.tail _ (.head _))))) rfl) ?_|refine zd.cons (.own (.tail _ (.tail _ (.tail _ (.tail _ (.head _))))) rfl rfl rfl) ?_|refine zd.cons (.omap (.tail _ (.tail _ (.tail _ (.tail _ (.head _))))) rfl) ?_))) ?_)))
   ·have hh:h=[]:=by
     cases h with
     | nil => rfl
     | cons x h => simp at hc
    subst hh
    clear hc
    rw [Vi E fu _ rfl] at hend
    dsimp only at hend
    subst hend
    generalize xc n E=O at hol hac
    subst hac
    (repeat (first|refine FW.seq ?_|refine FW.region ?_|refine FW.exit ?_|refine zc.nil ?_|refine za rfl rfl rfl ?_|refine yH rfl rfl rfl (by decide) rfl rfl ?_|refine zZ rfl rfl rfl rfl ?_))
    refine FW.cond rfl (fun hc=>?_) (fun hc=>?_)
    ·exfalso;simp at hc
    ·(repeat (first|refine FW.seq ?_|refine FW.region ?_|refine FW.skip ?_|refine zc.nil ?_|refine zb rfl rfl rfl ?_|refine za rfl rfl rfl ?_))
     refine FW.le (s':=⟨[(4,.own 4000 1 0 O.length),(5,.bool true)],[(4000,⟨1,.own,3,1,O.map zA⟩)]⟩) ?_ (FLe.cv [⟨4000,some 101,0,⟨1,.own,3,1,O.map zA⟩⟩] (by repeat (first|exact .nil|refine .old rfl (by decide) rfl ?_)) (by repeat (first|exact .nil|refine .cons (.plain rfl rfl rfl) ?_|refine .cons (.own rfl (.head _) rfl rfl) ?_)))
     exact FW.ret ⟨.inl rfl,_,.pair rfl rfl rfl (fun _ _ e=>by cases e) (fun _ _ e=>by cases e),rfl,rfl⟩
end Go.Proofs.Ytmnmakhpjgjdaaa
/-
 slices.DeleteFunc of ints,at plain values.
-/
namespace Go.Proofs.Ytmnmakhpjgjdaaa
set_option linter.unusedVariables false
open Go.RowKit

theorem VQ (p:Int→Bool) (r:List Int):∀ k i:Nat,(YY p r k i = -1∧∀ q,i≤q→q<i+k→p (nth r q)=false)∨∃ j:Nat,i≤j∧j<i+k∧YY p r k i=j∧p (nth r j)=true∧∀ q,i≤q→q<j→p (nth r q)=false
 | 0, i => .inl ⟨rfl, fun q h1 h2 => by omega⟩
 | k+1,i=>by
  unfold YY
  by_cases h:p (nth r i)=true
  ·rw [if_pos h]
   exact .inr ⟨i,Nat.le_refl _,by omega,rfl,h,fun q h1 h2=>by omega⟩
  ·rw [if_neg h]
   have h' : p (nth r i)=false:=by simpa using h
   rcases VQ p r k (i+1) with ⟨h1,h2⟩|⟨j,h1,h2,h3,h4,h5⟩
   ·refine .inl ⟨h1,fun q q1 q2=>?_⟩
    by_cases e:q=i
    ·subst e;exact h'
    ·exact h2 q (by omega) (by omega)
   ·refine .inr ⟨j,by omega,by omega,h3,h4,fun q q1 q2=>?_⟩
    by_cases e:q=i
    ·subst e;exact h'
    ·exact h5 q (by omega) q2
def xt (p:Int→Bool) (r:List Int):List Int:=r.filter fun x=>!p x
theorem zbC {p:Int→Bool} {r:List Int} (h:∀ q,q<r.length→p (nth r q)=false):xt p r=r:=by
 unfold xt
 rw [List.filter_eq_self]
 intro x hx
 obtain ⟨q,hq,rfl⟩:=List.getElem_of_mem hx
 have:=h q hq
 rw [nth_eq hq] at this
 rw [this];rfl
theorem XL {p:Int→Bool} {r:List Int} {j:Nat} (hj:j<r.length):xt p (r.take (j+1))=xt p (r.take j)++if p (nth r j)=true then [] else [nth r j]:=by
 unfold xt
 rw [List.take_succ_eq_append_getElem hj,List.filter_append,← nth_eq hj]
 congr 1
 by_cases h:p (nth r j)=true
 ·simp [h]
 ·simp [h]
theorem WS (p:Int→Bool) (r:List Int) (j:Nat):(xt p (r.take j)).length≤j:=by
 unfold xt
 have h1:((r.take j).filter fun x=>!p x).length≤(r.take j).length:=List.length_filter_le _ _
 have h2:(r.take j).length≤j:=by rw [List.length_take];omega
 omega
def Xi (p:Int→Bool) (r:List Int) (j:Nat):List Int:=xt p (r.take j)++r.drop (xt p (r.take j)).length
theorem zdc {p:Int→Bool} {r:List Int} {j:Nat} (hj:j≤r.length):(Xi p r j).length=r.length:=by
 have:=WS p r j
 unfold Xi
 rw [List.length_append,List.length_drop]
 omega
theorem zhK {p:Int→Bool} {r:List Int} {j:Nat} (hj:j<r.length):nth (Xi p r j) j=nth r j:=by
 have h:=WS p r j
 have hl:=zdc (p:=p) (r:=r) (j:=j) (by omega)
 rw [nth_eq (by omega),nth_eq hj]
 simp only [Xi]
 rw [List.getElem_append_right h,List.getElem_drop]
 congr 1
 omega
theorem zgd {p:Int→Bool} {r:List Int} {j:Nat} (hj:j<r.length) (hp:p (nth r j)=false):(Xi p r j).set (xt p (r.take j)).length (nth r j)=Xi p r (j+1):=by
 have h:=WS p r j
 unfold Xi
 rw [XL hj,if_neg (by rw [hp];decide),List.set_append_right _ _ (Nat.le_refl _),Nat.sub_self,List.append_assoc]
 congr 1
 rw [List.length_append,List.length_singleton,List.drop_eq_getElem_cons (show (xt p (r.take j)).length<r.length by omega)]
 rfl
theorem zge {p:Int→Bool} {r:List Int} {j:Nat} (hj:j<r.length) (hp:p (nth r j)=true):Xi p r (j+1)=Xi p r j:=by
 unfold Xi
 rw [XL hj,if_pos hp,List.append_nil]
theorem zeB {p:Int→Bool} {r:List Int} {j:Nat} (hj:j<r.length) (hp:p (nth r j)=true) (h0:∀ q,q<j→p (nth r q)=false):xt p (r.take (j+1))=r.take j∧Xi p r (j+1)=r:=by
 have e:xt p (r.take j)=r.take j:=zbC fun q hq=>by
  rw [List.length_take] at hq
  have:nth (r.take j) q=nth r q:=by rw [nth_eq (by rw [List.length_take];exact hq),nth_eq (by omega),List.getElem_take]
  rw [this];exact h0 q (by omega)
 have e2:xt p (r.take (j+1))=r.take j:=by rw [XL hj,if_pos hp,List.append_nil,e]
 refine ⟨e2,?_⟩
 unfold Xi
 rw [e2,List.length_take,Nat.min_eq_left (by omega),List.take_append_drop]
set_option maxHeartbeats 4000000 in
theorem Ug (v:Nat) (r:List Int) (cf:Nat) (caps:List FV) (p:Int→Bool) (hr:r.length≤1000000) (hp:∀ x∈r,yn Try.prog cf ([.int .i64 x]++caps) .fr (.bool (p x))) :
  yA Try.prog 38 [.own 5000 v 0 r.length,.fn cf caps] [(5000,⟨v,.own,3,1,r.map zA⟩)] [] (fun res o=>res=.own 5000 v 0 (xt p r).length∧o 5000=⟨v,.own,3,1,(xt p r++List.replicate (r.length - (xt p r).length) 0).map zA⟩):=by
 refine yA.of_body (c:=(ZW Try.prog zH zB 42)) ⟨Try.func38,rfl,Try.ntmps38,by kernel_rfl⟩ (by exact Nat.le_of_ble_eq_true rfl) ?_ ?_
 ·rintro res o ⟨rfl,h⟩;exact Xn (v:=v) rfl (by rw [h]) (by rw [h]) rfl
 change FW _ _ _ ⟨[(0,.own 5000 v 0 r.length),(1,.fn cf caps)],[(5000,⟨v,.own,3,1,r.map zA⟩)]⟩
 (repeat (first|refine FW.seq ?_|refine FW.region ?_|refine zc.nil ?_|refine zb rfl rfl rfl ?_|refine za rfl rfl rfl ?_))
 refine yS (Wc r cf caps p hr hp) (by repeat (first|exact zI.nil|refine zI.cons (by first|exact Zr.plain rfl rfl|exact Zr.own rfl rfl (by decide) (by first|exact (fun _=>rfl)|(intro h;cases h)) (by first|rfl|(simp;done)|(congr 1;omega)|(simp;omega)|(simp [List.take_of_length_le];done)|(refine congrArg (FV.int .i64) ?_;omega))) ?_)) rfl rfl ?_
 rcases VQ p r r.length 0 with ⟨h1,h2⟩|⟨j0,_,h2,h3,h4,h5⟩
 ·have hk:=zbC (p:=p) (r:=r) fun q hq=>h2 q (Nat.zero_le _) (by omega)
  rw [hk,Nat.sub_self,show VT p r = -1 from h1,show r++List.replicate 0 0=r by simp]
  (repeat (first|refine FW.seq ?_|refine FW.region ?_|refine FW.condT rfl ?_|refine zc.nil ?_|refine zb rfl rfl rfl ?_|refine za rfl rfl rfl ?_|refine yL rfl rfl rfl rfl ?_))
  exact FW.ret ⟨.inl rfl,_,.tmp rfl rfl,rfl,rfl⟩
 ·have hj0:j0<r.length:=by omega
  obtain ⟨s1,s2⟩:=zeB hj0 h4 fun q hq=>h5 q (Nat.zero_le _) hq
  rw [show VT p r=(j0:Int) from h3]
  obtain ⟨n,hn⟩:∃ n,r.length=n:=⟨_,rfl⟩
  rw [hn] at hr hj0 ⊢
  (repeat (first|refine FW.seq ?_|refine FW.region ?_|refine FW.block ?_|refine FW.skip ?_|refine FW.condF rfl ?_|refine zc.nil ?_|refine zb rfl rfl rfl ?_|refine za rfl rfl rfl ?_|refine yL rfl rfl rfl rfl ?_|refine zt rfl rfl (by omega) rfl rfl ?_))
  refine FW.loop (fun j:Nat=>⟨[(0,.own 5000 v 0 n),(1,.fn cf caps),(5,.int .i64 (xt p (r.take j)).length),(6,.int .i64 j)],[(5000,⟨v,.own,3,1,(Xi p r j).map zA⟩)]⟩) (fun j=>j≤n∧(xt p (r.take j)).length<j) (fun j=>n - j) (j0+1) ⟨by omega,by rw [s1,List.length_take];omega⟩ ?_ ?_
  ·rw [s1,s2,List.length_take,Nat.min_eq_left (by omega)]
   exact (FLe.cv [⟨5000,some 5000,v,⟨v,.own,3,1,r.map zA⟩⟩] (by repeat (first|exact .nil|refine .old rfl (by decide) rfl ?_)) (by repeat (first|exact .nil|refine .cons (.plain rfl rfl rfl) ?_|refine .cons (.own rfl (.head _) rfl rfl) ?_)))
  rintro j ⟨hj,hkj⟩
  have hdl:=zdc (p:=p) (r:=r) (j:=j) (by omega)
  have hdn:=fun h:j<r.length=>zhK (p:=p) h
  have hks:=fun h:j<r.length=>XL (p:=p) h
  have hdk:=fun (h:j<r.length) (hp:p (nth r j)=false)=>zgd h hp
  have hds:=fun (h:j<r.length) (hp:p (nth r j)=true)=>zge h hp
  have hlast:j=n→xt p (r.take j)=xt p r∧Xi p r j=xt p r++r.drop (xt p r).length:=fun e=>by
   have e1:xt p (r.take j)=xt p r:=by rw [e,← hn,List.take_length]
   exact ⟨e1,by unfold Xi;rw [e1]⟩
  generalize Xi p r j=D at hdl hdn hdk hds hlast
  generalize xt p (r.take j)=K at hkj hks hdk hlast
  (repeat (first|refine FW.seq ?_|refine FW.region ?_|refine zc.nil ?_|refine za rfl rfl rfl ?_|refine yH rfl rfl rfl (by decide) rfl rfl ?_|refine zZ rfl rfl rfl rfl ?_))
  refine FW.cond rfl (fun hc=>?_) (fun hc=>?_)
  ·have hlt:j<n:=by simpa using hc
   have hlr:j<r.length:=by omega
   clear hc hlast
   have hdn:=hdn hlr
   have hks:=hks hlr
   have hpj:=hp (nth r j) (zx hlr)
   have hjD:j<D.length:=by omega
   (repeat (first|refine FW.seq ?_|refine FW.region ?_|refine FW.block ?_|refine FW.skip ?_|refine zc.nil ?_|refine zb rfl rfl rfl ?_|refine za rfl rfl rfl ?_|refine zL rfl rfl rfl rfl rfl rfl (by decide) rfl (by first|omega|(simp;omega)) rfl rfl ?_|refine zp rfl rfl rfl rfl rfl (by first|omega|(simp;omega)) (by first|exact zf (by omega)|rfl) rfl rfl rfl rfl ?_))
   rw [hdn]
   skip
   refine zfR rfl hpj (by repeat (first|exact zI.nil|refine zI.cons (by exact Zr.plain rfl rfl) ?_)) rfl rfl ?_
   (repeat (first|refine zc.nil ?_|refine Xt rfl rfl rfl ?_))
   cases hb:p (nth r j) with
   | true =>
    rw [if_pos hb,List.append_nil] at hks
    have hds:=hds hlr hb
    (repeat (first|refine FW.region ?_|refine FW.skip ?_|refine FW.condF rfl ?_|refine zc.nil ?_|refine zb rfl rfl rfl ?_|refine za rfl rfl rfl ?_|refine zt rfl rfl (by omega) rfl rfl ?_))
    refine ⟨j+1,⟨by omega,by rw [hks];omega⟩,by omega,?_⟩
    rw [hks,hds]
    exact (FLe.cv [⟨5000,some 5000,v,⟨v,.own,3,1,D.map zA⟩⟩] (by repeat (first|exact .nil|refine .old rfl (by decide) rfl ?_)) (by repeat (first|exact .nil|refine .cons (.plain rfl rfl rfl) ?_|refine .cons (.own rfl (.head _) rfl rfl) ?_)))
   | false =>
    rw [if_neg (by rw [hb];decide)] at hks
    have hdk:=hdk hlr hb
    have hKD:K.length<D.length:=by omega
    (repeat (first|refine FW.seq ?_|refine FW.region ?_|refine FW.condT rfl ?_|refine zc.nil ?_|refine zb rfl rfl rfl ?_|refine za rfl rfl rfl ?_|refine zt rfl rfl (by omega) rfl rfl ?_|refine zL rfl rfl rfl rfl rfl rfl (by decide) rfl (by first|omega|(simp;omega)) rfl rfl ?_|refine ZP rfl rfl rfl rfl rfl rfl (by first|omega|(simp;omega)) (by first|exact zf (by omega)|rfl) rfl rfl rfl ?_))
    rw [show (zA (nth D K.length)).set 0 (.int .i64 (nth r j))=zA (nth r j) from rfl,← List.map_set,hdk]
    refine ⟨j+1,⟨by omega,by rw [hks];simp;omega⟩,by omega,?_⟩
    rw [hks,List.length_append,List.length_singleton]
    generalize Xi p r (j+1)=D2
    exact (FLe.cv [⟨5000,some 5000,v,⟨v,.own,3,1,D2.map zA⟩⟩] (by repeat (first|exact .nil|refine .old rfl (by decide) rfl ?_)) (by repeat (first|exact .nil|refine .cons (.plain rfl rfl rfl) ?_|refine .cons (.own rfl (.head _) rfl rfl) ?_)))
  ·obtain rfl:j=n:=by simp at hc;omega
   obtain ⟨e1,e2⟩:=hlast rfl
   subst e1
   have hsp:splice (D.map zA) (0+(xt p r).length) (List.replicate (j - (xt p r).length) [FV.int .i64 0])=(xt p r++List.replicate (j - (xt p r).length) 0).map zA:=by
    rw [e2]
    unfold splice
    rw [Nat.zero_add,List.map_append,List.take_left' (List.length_map _),List.drop_of_length_le (by simp;omega),List.append_nil,List.map_append,List.map_replicate]
    rfl
   (repeat (first|refine FW.seq ?_|refine FW.region ?_|refine FW.exit ?_|refine za rfl rfl rfl ?_|refine zaH rfl rfl rfl rfl (by decide) rfl (by exact LoR.some rfl) (by exact HiR.none) (by omega) (by omega) rfl rfl ?_))
   refine zj7 rfl rfl rfl rfl rfl rfl (by omega) rfl ?_
   rw [hsp]
   (repeat (first|refine FW.seq ?_|refine FW.region ?_|refine zc.nil ?_|refine zb rfl rfl rfl ?_|refine za rfl rfl rfl ?_|refine zaH rfl rfl rfl rfl (by decide) rfl (by exact LoR.none) (by exact HiR.some rfl) (by omega) (by omega) rfl rfl ?_))
   exact FW.ret ⟨.inl rfl,_,.tmp rfl rfl,rfl,rfl⟩
end Go.Proofs.Ytmnmakhpjgjdaaa
/-
 causal.Check,at plain values.
-/
namespace Go.Proofs.Ytmnmakhpjgjdaaa
set_option linter.unusedVariables false
open Go.RowKit

def zmh (l:List OpV):List Int:=xt (fun x=>!xC l x.toNat) (xc l.length (edC l))
def WF (l:List OpV):List FV:=match zbj l with
 | some i => Ua 5 2 (nth l i).key [i] []
 | none=>if Uf l≠[] then [.int .i64 5,.int .i64 6,.int .i64 0,.nil,.list 3 ((Vp l (Uf l) (Uf l).length).map EdC.fv)] else match zbg l with
  | some (w1, w2, i) => Ua 5 7 (nth l w2).key [w1, w2, i] (YZ l w1 w2 ++ YZ l w2 i)
  | none => match zbe l with
   | some (w, i) => Ua 5 8 (nth l w).key [w, i] (YZ l w i)
   | none => [.int .i64 5, .int .i64 0, .int .i64 0, .list 1 ((zmh l).map zA), .nil]
def zkK (l:List OpV):FV:=if Xc l≠0 then .tup [.agg [.int .i64 0,.int .i64 0,.int .i64 0,.nil,.nil],.int .i64 (Xc l)] else .tup [.agg (WF l),.int .i64 0]
theorem zit (sz:Nat) (es:List (List FV)):zkW sz es=.nil∨zkW sz es=.list sz es:=by cases es <;> simp [zkW]
theorem zlu (l:List OpV) {i:Nat} (hi:i<l.length):(xh (KC l i)).nilMap=some (!xC l i):=by
 unfold KC
 by_cases h:i∈zJ l l.length
 ·rw [if_pos h,(Zh.1 h).2];rfl
 ·rw [if_neg h]
  have:xC l i=false:=by cases hq:xC l i with|false=>rfl|true=>exact absurd (Zh.2 ⟨hi,hq⟩) h
  rw [this];rfl
theorem zc5 (l:List OpV) (i:Nat) (hi:i<l.length):yn Try.prog 39 ([.int .i64 i]++[.eptr 1 [[zd1 l]] 0 0]) .fr (.bool (!xC l i)):=by
 have hcell:(List.map (fun q=>[xh (KC l q)]) (List.range l.length)).getD i []=[xh (KC l i)]:=by rw [List.getD_eq_getElem?_getD,xv l.length i _ hi];rfl
 have hnil:=zlu l hi
 obtain ⟨C,hC⟩:∃ C,C=List.map (fun q=>[xh (KC l q)]) (List.range l.length):=⟨_,rfl⟩
 have hCl:C.length=l.length:=by rw [hC];simp
 obtain ⟨b,hb⟩:∃ b,(!xC l i)=b:=⟨_,rfl⟩
 rw [hb] at hnil ⊢
 unfold zd1 zgX
 rw [← hC] at hcell ⊢
 refine yn.of_body (c:=(ZW Try.prog zH zB 12)) ⟨Try.func39,rfl,Try.ntmps39,by kernel_rfl⟩ (by simp [FV.hand]) (by exact Nat.le_of_ble_eq_true rfl) rfl ?_
 change FW _ _ _ ⟨[(0,.int .i64 i),(1,.eptr 1 [[.eptr 4 [[.list 8 (l.map OpV.fv),.list 1 ((zJ l l.length).map yI),.smap (yD l l.length),.list 1 C]] 0 0]] 0 0)],[]⟩
 (repeat (first|refine FW.seq ?_|refine FW.region ?_|refine zc.nil ?_|refine zb rfl rfl rfl ?_|refine zm rfl rfl rfl (by first|omega|(simp;done)) rfl rfl rfl rfl rfl ?_|refine yN rfl rfl rfl ?_|refine zV rfl rfl rfl rfl rfl rfl rfl ?_|refine za rfl rfl rfl ?_|refine zq rfl rfl rfl rfl rfl rfl (by first|omega|(simp;done)) rfl rfl ?_))
 refine zm rfl rfl rfl (by rw [hCl];exact hi) hcell rfl rfl rfl rfl ?_
 refine zi0 rfl hnil (by kernel_rfl) rfl rfl ?_
 (repeat (first|refine zc.nil ?_|refine zb rfl rfl rfl ?_))
 exact FW.ret ⟨.inl rfl,yd rfl rfl rfl rfl⟩
theorem zfa (l:List OpV) (hl:l.length≤14) (hc:Uf l=[]):yA Try.prog 36 [.int .i64 l.length,.perm 2 ((edC l).map edf)] [] [4000] (fun res o=>res=.wrap .tup [.own 4000 1 0 l.length,.bool true]∧o 4000=⟨1,.own,3,1,(xc l.length (edC l)).map zA⟩):=by
 refine yA.perm (pre:=[.int .i64 l.length]) (post:=[]) fun es' hp=>?_
 obtain ⟨P,hP,rfl⟩:=zfK hp
 have hm:∀ e,e∈P↔e∈edC l:=fun e=>hP.mem_iff
 have hin:=(Xj l).mem hm
 have h1:=zhN l
 have h2:=Nat.mul_le_mul hl hl
 have hcP:xF P l.length=[]:=by rw [VY hm];exact hc
 obtain ⟨h3,h4⟩:=Wq hin hcP
 obtain ⟨h5,_⟩:=Wq (Xj l) hc
 rw [zeb hm,h5] at h3
 injection h3 with h3
 rw [h3]
 exact zhj l.length P (by omega) (by rw [hP.length_eq];omega) hin h4.len
set_option maxHeartbeats 8000000 in
theorem zep (l:List OpV) (hl:l.length≤14) (hin:∀ o∈l,Ul o):yn Try.prog 18 [.list 8 (l.map OpV.fv)] .sh (zkK l):=by
 have hdm:=VM l (by omega) hin
 obtain ⟨R,hR⟩:∃ R,zkK l=R:=⟨_,rfl⟩
 have hRh:R.hand=none:=by rw [← hR];unfold zkK;split <;> rfl
 rw [hR]
 have hR1:Xc l≠0→R=.tup [.agg [.int .i64 0,.int .i64 0,.int .i64 0,.nil,.nil],.int .i64 (Xc l)]:=fun h=>by rw [← hR];unfold zkK;rw [if_pos h]
 have hR2:Xc l=0→R=.tup [.agg (WF l),.int .i64 0]:=fun h=>by rw [← hR];unfold zkK;rw [if_neg (by simpa using h)]
 have hdom:Xc l=0→xf l:=fun h=>by
  unfold Xc at h
  split at h
  ·rename_i h1;exact absurd h h1
  ·split at h
   ·assumption
   ·cases h
 clear hR
 obtain ⟨e,he⟩:∃ e,Xc l=e:=⟨_,rfl⟩
 rw [he] at hdm hR1 hR2 hdom
 have hb:=fun hd=>zbm l (by omega) hin hd
 rw [zhO] at hb
 change xf l→yn _ _ _ _ (zd1 l) at hb
 have hth:=zjh l (by omega) hin
 have hcy:=zeA l hl
 have hov:=ziA l (by omega) hin
 have hit:=zib l (by omega) hin
 have hpairs:=zar (.list 8 (l.map OpV.fv)) (.smap (yD l l.length)) (.list 1 ((zJ l l.length).map yI)) (KC l) l.length (by omega) (kok l (by omega))
 change yn _ _ [zd1 l] _ (.perm 2 ((edC l).map edf)) at hpairs
 have htop:=zfa l hl
 have hch:=zc5 l
 obtain ⟨r,hr⟩:∃ r,zd1 l=r:=⟨_,rfl⟩
 have hr1:r.one=true:=by rw [← hr];rfl
 have hrc:r.cells=[r]:=by rw [← hr];rfl
 have hrh:r.hand=none:=by rw [← hr];rfl
 rw [hr] at hb hth hcy hov hit hpairs hch
 clear hr
 refine yn.of_body (c:=(ZW Try.prog zH zB 57)) ⟨Try.func18,rfl,Try.ntmps18,by kernel_rfl⟩ (by simp [FV.hand]) (by exact Nat.le_of_ble_eq_true rfl) hRh ?_
 change FW _ _ _ ⟨[(0,.list 8 (l.map OpV.fv))],[]⟩
 (repeat (first|refine FW.seq ?_|refine FW.region ?_|refine zc.nil ?_|refine zD rfl rfl rfl rfl rfl rfl rfl ?_|refine zb rfl rfl rfl ?_|refine za rfl rfl rfl ?_))
 refine yS hdm (by repeat (first|exact zI.nil|refine zI.cons (by exact Zr.plain rfl rfl) ?_)) rfl rfl ?_
 (repeat (first|refine FW.seq ?_|refine FW.region ?_|refine zc.nil ?_|refine zb rfl rfl rfl ?_|refine za rfl rfl rfl ?_|refine xJ rfl rfl rfl rfl ?_))
 refine FW.cond rfl (fun h=>?_) (fun h=>?_)
 ·rw [hR1 (by simpa using h)]
  (repeat (first|refine FW.seq ?_|refine FW.region ?_|refine zc.nil ?_|refine zb rfl rfl rfl ?_|refine za rfl rfl rfl ?_|refine zU rfl rfl rfl rfl ?_|refine zj rfl rfl rfl rfl rfl rfl rfl rfl rfl ?_|refine zW.nil ?_))
  exact FW.ret ⟨.inl rfl,.sh (.cons (yc rfl rfl rfl rfl rfl rfl (by decide)) (.cons (.tmp 3 rfl rfl) .nil)) rfl rfl⟩
 have he0:e=0:=by simpa using h
 subst he0
 have hR2:=hR2 rfl
 have hb:=hb (hdom rfl)
 clear h hR1 hdom
 (repeat (first|refine FW.seq ?_|refine FW.region ?_|refine FW.skip ?_|refine za rfl rfl rfl ?_))
 refine xI hb (by repeat (first|exact zI.nil|refine zI.cons (by exact Zr.plain rfl rfl) ?_)) rfl rfl ?_
 refine zd5 rfl rfl rfl rfl rfl ?_
 refine zg9 rfl rfl hr1 rfl rfl rfl (by decide) rfl ?_
 refine zc.le ?_ (FLe.ofH 5 rfl (by simp [hr1]))
 refine zc.le ?_ (FLe.shareP 5 rfl rfl)
 (repeat (first|refine FW.seq ?_|refine FW.region ?_|refine zc.nil ?_|refine zm rfl rfl rfl (by simp;done) rfl rfl rfl rfl rfl ?_))
 refine zfQ rfl hrh rfl rfl ?_
 (repeat (first|refine zm rfl rfl rfl (by simp;done) rfl rfl rfl rfl rfl ?_))
 refine zfQ rfl hrh rfl rfl ?_
 (repeat (first|refine zm rfl rfl rfl (by simp;done) rfl rfl rfl rfl rfl ?_))
 refine zfQ rfl hrh rfl rfl ?_
 (repeat (first|refine zm rfl rfl rfl (by simp;done) rfl rfl rfl rfl rfl ?_))
 refine zfQ rfl hrh rfl rfl ?_
 refine Yv (es:=[[.bnd 32 [r]],[.bnd 33 [r]],[.bnd 34 [r]],[.bnd 35 [r]]]) rfl rfl rfl (by refine xO.one rfl rfl rfl rfl ?_;refine xO.one rfl rfl rfl rfl ?_;refine xO.one rfl rfl rfl rfl ?_;refine xO.one rfl rfl rfl rfl ?_;exact xO.nil) rfl rfl rfl rfl rfl ?_
 (repeat (first|refine FW.block ?_|refine zc.nil ?_|refine za rfl rfl rfl ?_|refine zu rfl rfl rfl rfl rfl ?_))
 refine FW.loop (fun k:Nat=>⟨[(0,.list 8 (l.map OpV.fv)),(2,.ptr 102 0 0 0),(5,.eptr 1 [[r]] 0 0),(28,.list 1 [[.bnd 32 [r]],[.bnd 33 [r]],[.bnd 34 [r]],[.bnd 35 [r]]]),(29,.int .i64 4),(30,.int .i64 k)],[(102,⟨0,.own,36,5,[[.int .i64 0,.int .i64 0,.int .i64 0,.nil,.nil]]⟩)]⟩) (fun k=>k≤4∧(1≤k→zbj l=none)∧(2≤k→Uf l=[])∧(3≤k→zbg l=none)∧(4≤k→zbe l=none)) (fun k=>4 - k) 0 ⟨Nat.zero_le _,by omega,by omega,by omega,by omega⟩ ?_ ?_
 ·exact (FLe.cv [⟨102,some 2,0+1,⟨0,.own,36,5,[[.int .i64 0,.int .i64 0,.int .i64 0,.nil,.nil]]⟩⟩] (by repeat (first|exact .nil|refine .old rfl (by decide) rfl ?_)) (by repeat (first|exact .nil|refine .cons (.plain rfl rfl rfl) ?_|refine .cons (.ptr rfl (.head _) rfl) ?_)))
 rintro k ⟨hk,p1,p2,p3,p4⟩
 (repeat (first|refine FW.seq ?_|refine FW.region ?_|refine zc.nil ?_|refine zZ rfl rfl rfl rfl ?_))
 refine FW.cond rfl (fun h=>?_) (fun h=>?_)
 ·have hk4:k=0∨k=1∨k=2∨k=3:=by simp at h;omega
  clear h
  rcases hk4 with rfl|rfl|rfl|rfl
  ·(repeat (first|refine FW.seq ?_|refine FW.region ?_|refine FW.block ?_|refine FW.skip ?_|refine zc.nil ?_|refine zb rfl rfl rfl ?_|refine za rfl rfl rfl ?_|refine zm rfl rfl rfl (by simp;done) rfl rfl rfl rfl rfl ?_|refine zq rfl rfl rfl rfl rfl rfl (by simp;done) rfl rfl ?_))
   refine Uv rfl hth rfl rfl ?_
   unfold zhi
   cases ht:zbj l with
   | some i =>
    rw [hR2]
    unfold WF
    rw [ht]
    dsimp only
    unfold Ua
    (repeat (first|refine FW.seq ?_|refine FW.region ?_|refine FW.condT rfl ?_|refine zc.nil ?_|refine zD rfl rfl rfl rfl rfl rfl rfl ?_|refine zb rfl rfl rfl ?_|refine za rfl rfl rfl ?_|refine xK rfl rfl rfl rfl rfl rfl rfl rfl rfl ?_|refine zj rfl rfl rfl rfl rfl rfl rfl rfl rfl ?_|refine yV rfl rfl rfl (by decide) rfl rfl (by simp;done) rfl rfl rfl rfl ?_|refine zw rfl rfl rfl rfl rfl ?_|refine zi rfl rfl rfl rfl rfl rfl (by decide) rfl rfl ?_))
    exact FW.ret ⟨.inl rfl,.sh (.cons (yc rfl rfl rfl rfl rfl rfl (by decide)) (.cons (.tmp 3 rfl rfl) .nil)) rfl rfl⟩
   | none =>
    (repeat (first|refine FW.seq ?_|refine FW.region ?_|refine FW.skip ?_|refine FW.condF rfl ?_|refine zc.nil ?_|refine zD rfl rfl rfl rfl rfl rfl rfl ?_|refine zb rfl rfl rfl ?_|refine za rfl rfl rfl ?_|refine zj rfl rfl rfl rfl rfl rfl rfl rfl rfl ?_|refine zw rfl rfl rfl rfl rfl ?_|refine zt rfl rfl (by omega) rfl rfl ?_))
    refine ⟨1,⟨by omega,fun _=>by first|exact ht|rfl,by omega,by omega,by omega⟩,by omega,(FLe.cv [⟨102,some 102,0,⟨0,.own,36,5,[[.int .i64 0,.int .i64 0,.int .i64 0,.nil,.nil]]⟩⟩] (by repeat (first|exact .nil|refine .old rfl (by decide) rfl ?_)) (by repeat (first|exact .nil|refine .cons (.plain rfl rfl rfl) ?_|refine .cons (.ptr rfl (.head _) rfl) ?_)))⟩
  ·have p1:=p1 (by omega)
   (repeat (first|refine FW.seq ?_|refine FW.region ?_|refine FW.block ?_|refine FW.skip ?_|refine zc.nil ?_|refine zb rfl rfl rfl ?_|refine za rfl rfl rfl ?_|refine zm rfl rfl rfl (by simp;done) rfl rfl rfl rfl rfl ?_|refine zq rfl rfl rfl rfl rfl rfl (by simp;done) rfl rfl ?_))
   refine Uv rfl hcy rfl rfl ?_
   unfold zma
   by_cases hc:Uf l=[]
   ·rw [show decide (((Uf l).length:Int) > 0)=false by rw [hc];rfl]
    (repeat (first|refine FW.seq ?_|refine FW.region ?_|refine FW.skip ?_|refine FW.condF rfl ?_|refine zc.nil ?_|refine zD rfl rfl rfl rfl rfl rfl rfl ?_|refine zb rfl rfl rfl ?_|refine za rfl rfl rfl ?_|refine zj rfl rfl rfl rfl rfl rfl rfl rfl rfl ?_|refine zw rfl rfl rfl rfl rfl ?_|refine zt rfl rfl (by omega) rfl rfl ?_))
    refine ⟨2,⟨by omega,fun _=>p1,fun _=>hc,by omega,by omega⟩,by omega,(FLe.cv [⟨102,some 102,0,⟨0,.own,36,5,[[.int .i64 0,.int .i64 0,.int .i64 0,.nil,.nil]]⟩⟩] (by repeat (first|exact .nil|refine .old rfl (by decide) rfl ?_)) (by repeat (first|exact .nil|refine .cons (.plain rfl rfl rfl) ?_|refine .cons (.ptr rfl (.head _) rfl) ?_)))⟩
   ·rw [show decide (((Uf l).length:Int) > 0)=true by have:=List.length_pos_iff.2 hc;simpa using this,hR2]
    unfold WF
    rw [p1]
    dsimp only
    rw [if_pos hc]
    (repeat (first|refine FW.seq ?_|refine FW.region ?_|refine FW.condT rfl ?_|refine zc.nil ?_|refine zD rfl rfl rfl rfl rfl rfl rfl ?_|refine zb rfl rfl rfl ?_|refine za rfl rfl rfl ?_|refine xK rfl rfl rfl rfl rfl rfl rfl rfl rfl ?_|refine zj rfl rfl rfl rfl rfl rfl rfl rfl rfl ?_|refine yV rfl rfl rfl (by decide) rfl rfl (by simp;done) rfl rfl rfl rfl ?_|refine zw rfl rfl rfl rfl rfl ?_|refine zi rfl rfl rfl rfl rfl rfl (by decide) rfl rfl ?_))
    exact FW.ret ⟨.inl rfl,.sh (.cons (yc rfl rfl rfl rfl rfl rfl (by decide)) (.cons (.tmp 3 rfl rfl) .nil)) rfl rfl⟩
  ·have p1:=p1 (by omega)
   have p2:=p2 (by omega)
   (repeat (first|refine FW.seq ?_|refine FW.region ?_|refine FW.block ?_|refine FW.skip ?_|refine zc.nil ?_|refine zb rfl rfl rfl ?_|refine za rfl rfl rfl ?_|refine zm rfl rfl rfl (by simp;done) rfl rfl rfl rfl rfl ?_|refine zq rfl rfl rfl rfl rfl rfl (by simp;done) rfl rfl ?_))
   refine Uv rfl hov rfl rfl ?_
   unfold zgL
   cases ht:zbg l with
   | some w=>
    obtain ⟨w1,w2,i⟩:=w
    rw [hR2]
    unfold WF
    rw [p1,ht]
    dsimp only
    rw [if_neg (by simpa using p2)]
    unfold Ua
    generalize YZ l w1 w2++YZ l w2 i=X
    rcases zit 3 (X.map EdC.fv) with hX|hX <;> rw [hX]
    ·(repeat (first|refine FW.seq ?_|refine FW.region ?_|refine FW.condT rfl ?_|refine zc.nil ?_|refine zD rfl rfl rfl rfl rfl rfl rfl ?_|refine zb rfl rfl rfl ?_|refine za rfl rfl rfl ?_|refine xK rfl rfl rfl rfl rfl rfl rfl rfl rfl ?_|refine zj rfl rfl rfl rfl rfl rfl rfl rfl rfl ?_|refine yV rfl rfl rfl (by decide) rfl rfl (by simp;done) rfl rfl rfl rfl ?_|refine zw rfl rfl rfl rfl rfl ?_|refine zi rfl rfl rfl rfl rfl rfl (by decide) rfl rfl ?_))
     exact FW.ret ⟨.inl rfl,.sh (.cons (yc rfl rfl rfl rfl rfl rfl (by decide)) (.cons (.tmp 3 rfl rfl) .nil)) rfl rfl⟩
    ·(repeat (first|refine FW.seq ?_|refine FW.region ?_|refine FW.condT rfl ?_|refine zc.nil ?_|refine zD rfl rfl rfl rfl rfl rfl rfl ?_|refine zb rfl rfl rfl ?_|refine za rfl rfl rfl ?_|refine xK rfl rfl rfl rfl rfl rfl rfl rfl rfl ?_|refine zj rfl rfl rfl rfl rfl rfl rfl rfl rfl ?_|refine yV rfl rfl rfl (by decide) rfl rfl (by simp;done) rfl rfl rfl rfl ?_|refine zw rfl rfl rfl rfl rfl ?_|refine zi rfl rfl rfl rfl rfl rfl (by decide) rfl rfl ?_))
     exact FW.ret ⟨.inl rfl,.sh (.cons (yc rfl rfl rfl rfl rfl rfl (by decide)) (.cons (.tmp 3 rfl rfl) .nil)) rfl rfl⟩
   | none =>
    (repeat (first|refine FW.seq ?_|refine FW.region ?_|refine FW.skip ?_|refine FW.condF rfl ?_|refine zc.nil ?_|refine zD rfl rfl rfl rfl rfl rfl rfl ?_|refine zb rfl rfl rfl ?_|refine za rfl rfl rfl ?_|refine zj rfl rfl rfl rfl rfl rfl rfl rfl rfl ?_|refine zw rfl rfl rfl rfl rfl ?_|refine zt rfl rfl (by omega) rfl rfl ?_))
    refine ⟨3,⟨by omega,fun _=>p1,fun _=>p2,fun _=>by first|exact ht|rfl,by omega⟩,by omega,(FLe.cv [⟨102,some 102,0,⟨0,.own,36,5,[[.int .i64 0,.int .i64 0,.int .i64 0,.nil,.nil]]⟩⟩] (by repeat (first|exact .nil|refine .old rfl (by decide) rfl ?_)) (by repeat (first|exact .nil|refine .cons (.plain rfl rfl rfl) ?_|refine .cons (.ptr rfl (.head _) rfl) ?_)))⟩
  ·have p1:=p1 (by omega)
   have p2:=p2 (by omega)
   have p3:=p3 (by omega)
   (repeat (first|refine FW.seq ?_|refine FW.region ?_|refine FW.block ?_|refine FW.skip ?_|refine zc.nil ?_|refine zb rfl rfl rfl ?_|refine za rfl rfl rfl ?_|refine zm rfl rfl rfl (by simp;done) rfl rfl rfl rfl rfl ?_|refine zq rfl rfl rfl rfl rfl rfl (by simp;done) rfl rfl ?_))
   refine Uv rfl hit rfl rfl ?_
   unfold zgx
   cases ht:zbe l with
   | some w=>
    obtain ⟨w,i⟩:=w
    rw [hR2]
    unfold WF
    rw [p1,p3,ht]
    dsimp only
    rw [if_neg (by simpa using p2)]
    unfold Ua
    generalize YZ l w i=X
    rcases zit 3 (X.map EdC.fv) with hX|hX <;> rw [hX]
    ·(repeat (first|refine FW.seq ?_|refine FW.region ?_|refine FW.condT rfl ?_|refine zc.nil ?_|refine zD rfl rfl rfl rfl rfl rfl rfl ?_|refine zb rfl rfl rfl ?_|refine za rfl rfl rfl ?_|refine xK rfl rfl rfl rfl rfl rfl rfl rfl rfl ?_|refine zj rfl rfl rfl rfl rfl rfl rfl rfl rfl ?_|refine yV rfl rfl rfl (by decide) rfl rfl (by simp;done) rfl rfl rfl rfl ?_|refine zw rfl rfl rfl rfl rfl ?_|refine zi rfl rfl rfl rfl rfl rfl (by decide) rfl rfl ?_))
     exact FW.ret ⟨.inl rfl,.sh (.cons (yc rfl rfl rfl rfl rfl rfl (by decide)) (.cons (.tmp 3 rfl rfl) .nil)) rfl rfl⟩
    ·(repeat (first|refine FW.seq ?_|refine FW.region ?_|refine FW.condT rfl ?_|refine zc.nil ?_|refine zD rfl rfl rfl rfl rfl rfl rfl ?_|refine zb rfl rfl rfl ?_|refine za rfl rfl rfl ?_|refine xK rfl rfl rfl rfl rfl rfl rfl rfl rfl ?_|refine zj rfl rfl rfl rfl rfl rfl rfl rfl rfl ?_|refine yV rfl rfl rfl (by decide) rfl rfl (by simp;done) rfl rfl rfl rfl ?_|refine zw rfl rfl rfl rfl rfl ?_|refine zi rfl rfl rfl rfl rfl rfl (by decide) rfl rfl ?_))
     exact FW.ret ⟨.inl rfl,.sh (.cons (yc rfl rfl rfl rfl rfl rfl (by decide)) (.cons (.tmp 3 rfl rfl) .nil)) rfl rfl⟩
   | none =>
    (repeat (first|refine FW.seq ?_|refine FW.region ?_|refine FW.skip ?_|refine FW.condF rfl ?_|refine zc.nil ?_|refine zD rfl rfl rfl rfl rfl rfl rfl ?_|refine zb rfl rfl rfl ?_|refine za rfl rfl rfl ?_|refine zj rfl rfl rfl rfl rfl rfl rfl rfl rfl ?_|refine zw rfl rfl rfl rfl rfl ?_|refine zt rfl rfl (by omega) rfl rfl ?_))
    refine ⟨4,⟨by omega,fun _=>p1,fun _=>p2,fun _=>p3,fun _=>by first|exact ht|rfl⟩,by omega,(FLe.cv [⟨102,some 102,0,⟨0,.own,36,5,[[.int .i64 0,.int .i64 0,.int .i64 0,.nil,.nil]]⟩⟩] (by repeat (first|exact .nil|refine .old rfl (by decide) rfl ?_)) (by repeat (first|exact .nil|refine .cons (.plain rfl rfl rfl) ?_|refine .cons (.ptr rfl (.head _) rfl) ?_)))⟩
 ·have hk4:k=4:=by simp at h;omega
  subst hk4
  have p1:=p1 (by omega)
  have p2:=p2 (by omega)
  have p3:=p3 (by omega)
  have p4:=p4 (by omega)
  rw [hR2]
  unfold WF
  rw [p1,p3,p4]
  dsimp only
  rw [if_neg (by simpa using p2)]
  obtain ⟨_,hO⟩:=Wq (Xj l) p2
  have hTL:=htop p2
  unfold zmh
  generalize xc l.length (edC l)=TT at hO hTL
  have hTl:=hO.len
  have hD:=Ug 1 TT 39 [.eptr 1 [[r]] 0 0] (fun x=>!xC l x.toNat) (by omega) (fun x hx=>by
   have hr:=hO.rng x hx
   have:=hch x.toNat (by omega)
   rw [show ((x.toNat:Nat):Int)=x by omega] at this
   exact this)
  rw [hTl] at hD
  have hKl:=WS (fun x=>!xC l x.toNat) TT TT.length
  rw [List.take_length,hTl] at hKl
  generalize xt (fun x=>!xC l x.toNat) TT=KK at hD hKl
  clear hth hcy hov hit hch hb hdm
  (repeat (first|refine FW.seq ?_|refine FW.region ?_|refine FW.exit ?_|refine za rfl rfl rfl ?_|refine zm rfl rfl rfl (by simp;done) rfl rfl rfl rfl rfl ?_|refine zu rfl rfl (by first|exact List.length_map _|rfl|(simp;done)) rfl rfl ?_))
  refine xI hpairs (zI.cons (.plain rfl hrh) .nil) rfl rfl ?_
  refine xH hTL [(4000,105)] rfl zC.nil rfl rfl rfl rfl rfl rfl ?_
  rintro _ ob' ⟨rfl,h4⟩
  refine xe.one [(105,⟨1,.own,3,1,TT.map zA⟩)] (.wrap .tup [.own 105 1 0 l.length,.bool true]) rfl (by show [(105,zh.ren _ (look {} ob' 4000))]=_;rw [h4];rfl) ?_
  clear h4 ob' hTL
  (repeat (first|refine za rfl rfl rfl ?_))
  refine zaD rfl rfl rfl rfl rfl ?_
  refine zaD rfl rfl rfl rfl rfl ?_
  (repeat (first|refine FW.seq ?_|refine FW.region ?_|refine zc.nil ?_|refine zb rfl rfl rfl ?_|refine za rfl rfl rfl ?_|refine zg3 rfl rfl rfl rfl ?_))
  refine xH hD [(5000,105)] rfl (zC.cons rfl rfl rfl zC.nil) rfl rfl rfl rfl rfl rfl ?_
  rintro _ ob' ⟨rfl,h4⟩
  obtain ⟨Ze,hZe⟩:∃ Ze,(KK++List.replicate (l.length - KK.length) 0).map zA=Ze:=⟨_,rfl⟩
  have hZt:(Ze.drop 0).take KK.length=KK.map zA:=by rw [← hZe,List.drop_zero,List.map_append,List.take_left' (List.length_map _)]
  rw [hZe] at h4
  refine xe.one [(105,⟨1,.own,3,1,Ze⟩)] (.own 105 1 0 KK.length) rfl (by show [(105,zh.ren _ (look {} ob' 5000))]=_;rw [h4];rfl) ?_
  clear h4 ob' hD
  refine zc.le ?_ (FLe.shut (i:=105) rfl)
  refine zc.le ?_ (FLe.list (d:=53) (i:=105) (f:=.list 1 (KK.map zA)) rfl rfl (by rw [hZt]))
  (repeat (first|refine FW.seq ?_|refine FW.region ?_|refine zc.nil ?_|refine zb rfl rfl rfl ?_|refine za rfl rfl rfl ?_|refine zU rfl rfl rfl rfl ?_|refine zj rfl rfl rfl rfl rfl rfl rfl rfl rfl ?_|refine zW.nil ?_|refine zW.one rfl rfl rfl rfl rfl ?_|refine zW.agg rfl rfl rfl rfl (List.cons_ne_nil _ _) rfl ?_))
  exact FW.ret ⟨.inl rfl,.sh (.cons (yc rfl rfl rfl rfl rfl rfl (by decide)) (.cons (.tmp 3 rfl rfl) .nil)) rfl rfl⟩
end Go.Proofs.Ytmnmakhpjgjdaaa
