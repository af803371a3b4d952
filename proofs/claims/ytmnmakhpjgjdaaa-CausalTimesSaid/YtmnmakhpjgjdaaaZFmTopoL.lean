/-
  Some texts as one: FmTopoL, FmDel, FmCauD.
-/
import Derived.Test.YtmnmakhpjgjdaaaZFmCyc2
import Derived.Test.YtmnmakhpjgjdaaaZK
import Derived.Test.YtmnmakhpjgjdaaaZD
import Derived.Test.YtmnmakhpjgjdaaaZFmW
import Derived.Test.YtmnmakhpjgjdaaaZOrderPlain
/-
 graph.Topo of a graph without cycles: the order is the caller's own.
-/
namespace Go.Proofs.Ytmnmakhpjgjdaaa
set_option linter.unusedVariables false
open Go.RowKit

set_option maxHeartbeats 8000000 in
theorem zgQ (n:Nat) (E:List (Nat×Nat)) (hn:n≤300) (hE:E.length≤100000) (hin:InN n E) (hac:(yR n E).length=n):yy Try.prog 36 [.int .i64 n,.list 2 (E.map edf)] [] [4000] (fun res o=>res=.wrap .tup [.own 4000 1 0 n,.bool true]∧o 4000=⟨1,.own,3,1,(yR n E).map zy⟩):=by
 refine yy.of_body (c:=(ZJ Try.prog zH zB 104)) ⟨Try.func36,rfl,Try.ntmps36,by kernel_rfl⟩ (by exact Nat.le_of_ble_eq_true rfl) ?_ ?_
 ·rintro res o ⟨rfl,h⟩
  exact ⟨(fun k hk=>by cases hk),(fun k hk=>by obtain rfl:=List.mem_singleton.1 hk;rw [h];exact ⟨Nat.zero_lt_one,fun _=>rfl⟩),(fun k hk=>by obtain rfl:=List.mem_singleton.1 hk;rw [h];rfl),rfl⟩
 change FW _ _ _ ⟨[(0,.int .i64 n),(1,.list 2 (E.map edf))],[]⟩
 have hrl:=yh n E
 have hrn:=fun v (hv:v<n)=>Zq E hv
 (repeat (first|refine FW.seq ?_|refine FW.region ?_|refine zc.nil ?_|refine zb rfl rfl rfl ?_|refine za rfl rfl rfl ?_))
 refine xi (ZG n E (by omega) (by omega) hin) (by repeat (first|exact zG.nil|refine zG.cons (by exact Zg.plain rfl rfl) ?_)) rfl rfl ?_
 rw [zcm]
 (repeat (first|refine FW.seq ?_|refine FW.region ?_|refine FW.block ?_|refine zc.nil ?_|refine zb rfl rfl rfl ?_|refine za rfl rfl rfl ?_|refine zcl rfl rfl rfl rfl rfl rfl rfl rfl (by omega) (by omega) rfl rfl rfl ?_|refine zu rfl rfl (by first|exact List.length_map _|rfl|omega) rfl rfl ?_))
 rw [show List.replicate n [FV.int .i64 0]=(List.replicate n 0).map zy by rw [List.map_replicate];rfl]
 refine FW.loop (fun i:Nat=>⟨[(0,.int .i64 n),(6,.list 1 ((zL n E).map YO)),(7,.own 100 0 0 n),(26,.list 1 ((zL n E).map YO)),(27,.int .i64 n),(28,.int .i64 i)],[(100,⟨0,.own,3,1,(Yb n E i).map zy⟩)]⟩) (fun i=>i≤n) (fun i=>n - i) 0 (Nat.zero_le _) ?_ ?_
 ·rw [hrl,show Yb n E 0=List.replicate n 0 from rfl]
  obtain ⟨z,hz⟩:∃ z,(List.replicate n (0:Int)).map zy=z:=⟨_,rfl⟩
  rw [hz]
  exact (FLe.cv [⟨100,some 25,0+1,⟨0,.own,3,1,z⟩⟩] (by repeat (first|exact .nil|refine .old rfl (by decide) rfl ?_)) (by repeat (first|exact .nil|refine .cons (.plain rfl rfl rfl) ?_|refine .cons (.own rfl (.head _) rfl rfl) ?_)))
 intro i hi
 obtain ⟨hml,hmb⟩:=zev hin i
 (repeat (first|refine FW.seq ?_|refine FW.region ?_|refine zc.nil ?_|refine zX rfl rfl rfl rfl ?_))
 refine FW.cond rfl (fun h=>?_) (fun h=>?_)
 ·have hlt:i<n:=by simpa using h
  clear h
  have hsl:=Xh E i
  have hms:=zew n E hlt
  (repeat (first|refine FW.seq ?_|refine FW.region ?_|refine FW.block ?_|refine FW.skip ?_|refine zc.nil ?_|refine zb rfl rfl rfl ?_|refine za rfl rfl rfl ?_|refine zu rfl rfl (by first|exact List.length_map _|rfl|(simp;omega)) rfl rfl ?_|refine zp rfl rfl rfl rfl rfl rfl (by simp;omega) rfl rfl ?_|refine zm rfl rfl rfl (by simp;omega) (by first|exact zg (by omega)|rfl) rfl rfl rfl rfl ?_))
  rw [hrn i hlt]
  skip
  generalize Yb n E i=M at hml hmb hms
  refine FW.loop (fun j:Nat=>⟨[(0,.int .i64 n),(6,.list 1 ((zL n E).map YO)),(7,.own 100 0 0 n),(26,.list 1 ((zL n E).map YO)),(27,.int .i64 n),(28,.int .i64 i),(32,.list 1 ((zn E i).map zy)),(33,.int .i64 (zn E i).length),(34,.int .i64 j)],[(100,⟨0,.own,3,1,(((zn E i).take j).foldl zbb M).map zy⟩)]⟩) (fun j=>j≤(zn E i).length) (fun j=>(zn E i).length - j) 0 (Nat.zero_le _) ?_ ?_
  ·show FLe _ ⟨[(0,.int .i64 n),(6,.list 1 ((zL n E).map YO)),(7,.own 100 0 0 n),(26,.list 1 ((zL n E).map YO)),(27,.int .i64 n),(28,.int .i64 i),(32,.list 1 ((zn E i).map zy)),(33,.int .i64 (zn E i).length),(34,.int .i64 0)],[(100,⟨0,.own,3,1,M.map zy⟩)]⟩
   exact (FLe.cv [⟨100,some 100,0,⟨0,.own,3,1,M.map zy⟩⟩] (by repeat (first|exact .nil|refine .old rfl (by decide) rfl ?_)) (by repeat (first|exact .nil|refine .cons (.plain rfl rfl rfl) ?_|refine .cons (.own rfl (.head _) rfl rfl) ?_)))
  intro j hj
  (repeat (first|refine FW.seq ?_|refine FW.region ?_|refine zc.nil ?_|refine zX rfl rfl rfl rfl ?_))
  refine FW.cond rfl (fun h=>?_) (fun h=>?_)
  ·have hlt2:j<(zn E i).length:=by simpa using h
   clear h
   obtain ⟨w,hw⟩:∃ w:Nat,nth (zn E i) j=w:=⟨(nth (zn E i) j).toNat,by have:=(yu hin (zC hlt2)).1;omega⟩
   have hwn:w<n:=by have:=(yu hin (zC hlt2)).2;omega
   have hst:((zn E i).take (j+1)).foldl zbb M=(((zn E i).take j).foldl zbb M).set w (nth (((zn E i).take j).foldl zbb M) w+1):=by
    rw [List.take_succ_eq_append_getElem hlt2,List.foldl_append,← nth_eq hlt2,hw];rfl
   have hbd:0≤nth (((zn E i).take j).foldl zbb M) w∧nth (((zn E i).take j).foldl zbb M) w≤n+1:=by
    rw [UN (n:=n) (List.Nodup.sublist (List.take_sublist _ _) (ZH E i)) (fun q hq=>yu hin (List.mem_of_mem_take hq)) hml w hwn]
    have:=hmb w hwn
    split <;> omega
   have hzl:(((zn E i).take j).foldl zbb M).length=n:=by rw [UM];exact hml
   obtain ⟨Z,hZ⟩:∃ Z,((zn E i).take j).foldl zbb M=Z:=⟨_,rfl⟩
   rw [hZ] at hst hbd hzl ⊢
   (repeat (first|refine FW.seq ?_|refine FW.region ?_|refine FW.block ?_|refine FW.skip ?_|refine zc.nil ?_|refine zb rfl rfl rfl ?_|refine za rfl rfl rfl ?_|refine zp rfl rfl (by first|rfl|exact (Int.toNat_of_nonneg (by omega)).symm) rfl rfl rfl (by first|omega|(simp;omega)) rfl rfl ?_|refine zO rfl rfl (by first|rfl|exact (Int.toNat_of_nonneg (by omega)).symm) rfl rfl rfl (by decide) rfl (by first|omega|(simp;omega)) rfl rfl ?_|refine zm rfl rfl rfl (by first|omega|(simp;omega)) (by first|exact zg (by omega)|rfl) rfl rfl rfl rfl ?_|refine zw rfl rfl rfl rfl rfl (by first|omega|(simp;omega)) (by first|exact zg (by omega)|rfl) rfl rfl rfl rfl ?_))
   rw [hw,Int.toNat_natCast]
   (repeat (first|refine FW.region ?_|refine zc.nil ?_|refine za rfl rfl rfl ?_|refine zO rfl rfl rfl rfl rfl rfl (by decide) rfl (by first|omega|(simp;omega)) rfl rfl ?_|refine zq rfl rfl (by omega) rfl rfl ?_|refine xD rfl rfl rfl rfl rfl rfl (by first|omega|(simp;omega)) (by first|exact zg (by omega)|rfl) rfl rfl rfl ?_))
   rw [show (zy (nth Z w)).set 0 (.int .i64 (nth Z w+1))=zy (nth Z w+1) from rfl,← List.map_set,← hst]
   skip
   refine ⟨j+1,by omega,by omega,?_⟩
   obtain ⟨Y,hY⟩:∃ Y,(((zn E i).take (j+1)).foldl zbb M).map zy=Y:=⟨_,rfl⟩
   rw [hY]
   exact (FLe.cv [⟨100,some 100,0,⟨0,.own,3,1,Y⟩⟩] (by repeat (first|exact .nil|refine .old rfl (by decide) rfl ?_)) (by repeat (first|exact .nil|refine .cons (.plain rfl rfl rfl) ?_|refine .cons (.own rfl (.head _) rfl rfl) ?_)))
  ·obtain rfl:j=(zn E i).length:=by simp at h;omega
   clear h hj
   rw [List.take_length,← hms]
   (repeat (first|refine FW.region ?_|refine FW.exit ?_|refine zc.nil ?_|refine za rfl rfl rfl ?_|refine zq rfl rfl (by omega) rfl rfl ?_))
   refine ⟨i+1,by omega,by omega,?_⟩
   exact (FLe.cv [⟨100,some 100,0,⟨0,.own,3,1,(Yb n E (i+1)).map zy⟩⟩] (by repeat (first|exact .nil|refine .old rfl (by decide) rfl ?_)) (by repeat (first|exact .nil|refine .cons (.plain rfl rfl rfl) ?_|refine .cons (.own rfl (.head _) rfl rfl) ?_)))
 ·obtain rfl:i=n:=by simp at h;omega
  clear h hi hml hmb
  rw [zgb]
  obtain ⟨hml,hmc⟩:=zbj hin
  have hcb:∀ w,zdU i E [] w≤i:=fun w=>by
   have:zdU i E [] w≤(List.range i).length:=List.countP_le_length
   rwa [List.length_range] at this
  (repeat (first|refine FW.seq ?_|refine FW.region ?_|refine FW.exit ?_|refine zbv rfl rfl rfl rfl rfl rfl ?_))
  refine zky (f:=.own 46 (0+1) 0 0) rfl (.inr (.inl ⟨_,_,_,_,rfl,⟨by show zY.own≠.dead;decide,rfl⟩⟩)) rfl rfl rfl ?_
  refine zdH rfl rfl rfl rfl rfl ?_
  (repeat (first|refine FW.seq ?_|refine FW.region ?_|refine FW.block ?_|refine zc.nil ?_|refine zb rfl rfl rfl ?_|refine za rfl rfl rfl ?_|refine yF rfl rfl rfl (by decide) rfl rfl ?_|refine zgF rfl rfl rfl rfl rfl rfl (by decide) (by simp;done) rfl ?_|refine zgC rfl rfl rfl rfl ?_))
  obtain ⟨n,hni⟩:∃ n,i=n:=⟨_,rfl⟩
  subst hni
  generalize hMM:zaT i E=M at hml hmc
  obtain ⟨n,hni⟩:∃ n,n=i:=⟨_,rfl⟩
  subst hni
  refine FW.loop (fun k:Nat=>⟨[(0,.int .i64 n),(6,.list 1 ((zL n E).map YO)),(7,.own 100 0 0 n),(12,.ptr 110 0 0 0),(13,.wrap (.fn 60) [.ptr 110 0 0 0]),(49,.own 100 0 0 n),(50,.int .i64 n),(51,.int .i64 k)],[(100,⟨0,.own,3,1,M.map zy⟩),(110,⟨0,.hrow,96,1,[[.ptr 111 0 0 0]]⟩),(111,⟨0,.hrow,97,1,[[.own 112 0 0 (xA M k).length]]⟩),(112,⟨0,.own,3,1,(xA M k).map zy⟩)]⟩) (fun k=>k≤n) (fun k=>n - k) 0 (Nat.zero_le _) ?_ ?_
  ·show FLe _ ⟨[(0,.int .i64 n),(6,.list 1 ((zL n E).map YO)),(7,.own 100 0 0 n),(12,.ptr 110 0 0 0),(13,.wrap (.fn 60) [.ptr 110 0 0 0]),(49,.own 100 0 0 n),(50,.int .i64 n),(51,.int .i64 0)],[(100,⟨0,.own,3,1,M.map zy⟩),(110,⟨0,.hrow,96,1,[[.ptr 111 0 0 0]]⟩),(111,⟨0,.hrow,97,1,[[.own 112 0 0 0]]⟩),(112,⟨0,.own,3,1,[]⟩)]⟩
   exact (FLe.cv [⟨100,some 100,0,⟨0,.own,3,1,M.map zy⟩⟩,⟨110,some 12,0+1,⟨0,.hrow,96,1,[[.ptr 111 0 0 0]]⟩⟩,⟨111,some 47,0+1,⟨0,.hrow,97,1,[[.own 112 0 0 0]]⟩⟩,⟨112,some 46,0+1,⟨0,.own,3,1,[]⟩⟩] (by repeat (first|exact .nil|refine .old rfl (by decide) rfl ?_|refine .oldH rfl (by repeat (first|exact .nil|refine .cons (.ptr (.tail _ (.tail _ (.head _))) rfl) ?_|refine .cons (.own (.tail _ (.tail _ (.tail _ (.head _)))) rfl rfl rfl) ?_)) ?_)) (by repeat (first|exact .nil|refine .cons (.plain rfl rfl rfl) ?_|refine .cons (.own rfl (.head _) rfl rfl) ?_|refine .cons (.ptr rfl (.tail _ (.head _)) rfl) ?_|refine .cons (.wrap rfl (by repeat (first|exact zd.nil|refine zd.cons (.plain rfl rfl) ?_|refine zd.cons (.ptr (.head _) rfl) ?_|refine zd.cons (.own (.head _) rfl rfl rfl) ?_|refine zd.cons (.omap (.head _) rfl) ?_|refine zd.cons (.ptr (.tail _ (.head _)) rfl) ?_|refine zd.cons (.own (.tail _ (.head _)) rfl rfl rfl) ?_|refine zd.cons (.omap (.tail _ (.head _)) rfl) ?_|refine zd.cons (.ptr (.tail _ (.tail _ (.head _))) rfl) ?_|refine zd.cons (.own (.tail _ (.tail _ (.head _))) rfl rfl rfl) ?_|refine zd.cons (.omap (.tail _ (.tail _ (.head _))) rfl) ?_|refine zd.cons (.ptr (.tail _ (.tail _ (.tail _ (.head _)))) rfl) ?_|refine zd.cons (.own (.tail _ (.tail _ (.tail _ (.head _)))) rfl rfl rfl) ?_|refine zd.cons (.omap (.tail _ (.tail _ (.tail _ (.head _)))) rfl) ?_))) ?_)))
  intro k hk
  (repeat (first|refine FW.seq ?_|refine FW.region ?_|refine zc.nil ?_|refine zX rfl rfl rfl rfl ?_))
  refine FW.cond rfl (fun h=>?_) (fun h=>?_)
  ·have hlt:k<n:=by simpa using h
   clear h
   have hmk:=hmc k hlt
   have hck:=hcb k
   have hrs:xA M (k+1)=if nth M k=0 then YX (xA M k) k else xA M k:=by
    unfold xA
    rw [List.range_succ,List.foldl_append];rfl
   have hrl:(xA M k).length≤k:=Yc (YC M k).2.1 fun x hx=>(((YC M k).2.2 x).1 hx).1
   obtain ⟨H,hH⟩:∃ H,xA M k=H:=⟨_,rfl⟩
   rw [hH] at hrs hrl ⊢
   (repeat (first|refine FW.seq ?_|refine FW.region ?_|refine FW.block ?_|refine FW.skip ?_|refine zc.nil ?_|refine zb rfl rfl rfl ?_|refine za rfl rfl rfl ?_|refine zO rfl rfl rfl rfl rfl rfl (by decide) rfl (by first|omega|(simp;omega)) rfl rfl ?_|refine zw rfl rfl rfl rfl rfl (by first|omega|(simp;omega)) (by first|exact zg (by omega)|rfl) rfl rfl rfl rfl ?_|refine yO rfl rfl rfl rfl ?_))
   refine FW.cond rfl (fun h=>?_) (fun h=>?_)
   ·rw [if_pos (by simpa using h)] at hrs
    (repeat (first|refine FW.region ?_|refine za rfl rfl rfl ?_))
    refine zdI rfl (zay 0 0 0 H k (by omega)) [(5002,110),(5000,111),(5001,112)] rfl (zA.cons rfl rfl rfl (zA.cons rfl rfl rfl (zA.cons rfl rfl rfl zA.nil))) rfl rfl rfl rfl rfl rfl ?_
    rintro _ ob' ⟨rfl,h2,h0,h1⟩
    refine xa.one [(110,⟨0,.hrow,96,1,[[.ptr 111 0 0 0]]⟩),(111,⟨0,.hrow,97,1,[[.own 112 (0+1) 0 (H.length+1)]]⟩),(112,⟨0+1,.own,3,1,(YX H k).map zy⟩)] (.tup []) rfl (by show [(110,zh.ren _ (look {} ob' 5002)),(111,zh.ren _ (look {} ob' 5000)),(112,zh.ren _ (look {} ob' 5001))]=_;rw [h2,h0,h1];rfl) ?_
    clear h2 h0 h1 ob'
    (repeat (first|refine FW.region ?_|refine zc.nil ?_|refine za rfl rfl rfl ?_|refine zq rfl rfl (by omega) rfl rfl ?_))
    refine ⟨k+1,by omega,by omega,?_⟩
    rw [hrs]
    have hpl:=UL H k
    generalize YX H k=Y at hpl
    rw [hpl]
    exact (FLe.cv [⟨100,some 100,0,⟨0,.own,3,1,M.map zy⟩⟩,⟨110,some 110,0,⟨0,.hrow,96,1,[[.ptr 111 0 0 0]]⟩⟩,⟨111,some 111,0,⟨0,.hrow,97,1,[[.own 112 0 0 (H.length+1)]]⟩⟩,⟨112,some 112,0+1,⟨0,.own,3,1,Y.map zy⟩⟩] (by repeat (first|exact .nil|refine .old rfl (by decide) rfl ?_|refine .oldH rfl (by repeat (first|exact .nil|refine .cons (.ptr (.tail _ (.tail _ (.head _))) rfl) ?_|refine .cons (.own (.tail _ (.tail _ (.tail _ (.head _)))) rfl rfl rfl) ?_)) ?_)) (by repeat (first|exact .nil|refine .cons (.plain rfl rfl rfl) ?_|refine .cons (.own rfl (.head _) rfl rfl) ?_|refine .cons (.ptr rfl (.tail _ (.head _)) rfl) ?_|refine .cons (.wrap rfl (by repeat (first|exact zd.nil|refine zd.cons (.plain rfl rfl) ?_|refine zd.cons (.ptr (.head _) rfl) ?_|refine zd.cons (.own (.head _) rfl rfl rfl) ?_|refine zd.cons (.omap (.head _) rfl) ?_|refine zd.cons (.ptr (.tail _ (.head _)) rfl) ?_|refine zd.cons (.own (.tail _ (.head _)) rfl rfl rfl) ?_|refine zd.cons (.omap (.tail _ (.head _)) rfl) ?_|refine zd.cons (.ptr (.tail _ (.tail _ (.head _))) rfl) ?_|refine zd.cons (.own (.tail _ (.tail _ (.head _))) rfl rfl rfl) ?_|refine zd.cons (.omap (.tail _ (.tail _ (.head _))) rfl) ?_|refine zd.cons (.ptr (.tail _ (.tail _ (.tail _ (.head _)))) rfl) ?_|refine zd.cons (.own (.tail _ (.tail _ (.tail _ (.head _)))) rfl rfl rfl) ?_|refine zd.cons (.omap (.tail _ (.tail _ (.tail _ (.head _)))) rfl) ?_))) ?_)))
   ·rw [if_neg (by simpa using h)] at hrs
    (repeat (first|refine FW.region ?_|refine FW.skip ?_|refine zc.nil ?_|refine za rfl rfl rfl ?_|refine zq rfl rfl (by omega) rfl rfl ?_))
    refine ⟨k+1,by omega,by omega,?_⟩
    rw [hrs]
    exact (FLe.cv [⟨100,some 100,0,⟨0,.own,3,1,M.map zy⟩⟩,⟨110,some 110,0,⟨0,.hrow,96,1,[[.ptr 111 0 0 0]]⟩⟩,⟨111,some 111,0,⟨0,.hrow,97,1,[[.own 112 0 0 H.length]]⟩⟩,⟨112,some 112,0,⟨0,.own,3,1,H.map zy⟩⟩] (by repeat (first|exact .nil|refine .old rfl (by decide) rfl ?_|refine .oldH rfl (by repeat (first|exact .nil|refine .cons (.ptr (.tail _ (.tail _ (.head _))) rfl) ?_|refine .cons (.own (.tail _ (.tail _ (.tail _ (.head _)))) rfl rfl rfl) ?_)) ?_)) (by repeat (first|exact .nil|refine .cons (.plain rfl rfl rfl) ?_|refine .cons (.own rfl (.head _) rfl rfl) ?_|refine .cons (.ptr rfl (.tail _ (.head _)) rfl) ?_|refine .cons (.wrap rfl (by repeat (first|exact zd.nil|refine zd.cons (.plain rfl rfl) ?_|refine zd.cons (.ptr (.head _) rfl) ?_|refine zd.cons (.own (.head _) rfl rfl rfl) ?_|refine zd.cons (.omap (.head _) rfl) ?_|refine zd.cons (.ptr (.tail _ (.head _)) rfl) ?_|refine zd.cons (.own (.tail _ (.head _)) rfl rfl rfl) ?_|refine zd.cons (.omap (.tail _ (.head _)) rfl) ?_|refine zd.cons (.ptr (.tail _ (.tail _ (.head _))) rfl) ?_|refine zd.cons (.own (.tail _ (.tail _ (.head _))) rfl rfl rfl) ?_|refine zd.cons (.omap (.tail _ (.tail _ (.head _))) rfl) ?_|refine zd.cons (.ptr (.tail _ (.tail _ (.tail _ (.head _)))) rfl) ?_|refine zd.cons (.own (.tail _ (.tail _ (.tail _ (.head _)))) rfl rfl rfl) ?_|refine zd.cons (.omap (.tail _ (.tail _ (.tail _ (.head _)))) rfl) ?_))) ?_)))
  ·obtain rfl:k=n:=by simp at h;omega
   clear h hk
   have hTI:=TI.start hin
   have hst:yr k E=⟨M,xA M k,[]⟩:=by unfold yr;rw [hMM]
   have hend:(zZ E (k+1) (yr k E)).out=yR k E:=rfl
   rw [hst] at hTI hend
   (repeat (first|refine FW.seq ?_|refine FW.region ?_|refine FW.block ?_|refine FW.exit ?_|refine zc.nil ?_|refine zb rfl rfl rfl ?_|refine Zn rfl rfl rfl rfl rfl rfl rfl ?_|refine zjz rfl rfl rfl rfl ?_))
   obtain ⟨n,hni⟩:∃ n,n=k:=⟨_,rfl⟩
   subst hni
   generalize xA M n=H at hTI hend
   clear hMM hst hcb hmc hml
   refine FW.loop (fun s:zcv=>⟨[(0,.int .i64 n),(6,.list 1 ((zL n E).map YO)),(7,.own 100 0 0 n),(12,.ptr 110 0 0 0),(13,.wrap (.fn 60) [.ptr 110 0 0 0]),(16,.own 101 0 0 s.out.length),(17,.wrap (.bound 62) [.ptr 111 0 0 0])],[(101,⟨0,.own,3,1,s.out.map zy⟩),(100,⟨0,.own,3,1,s.m.map zy⟩),(110,⟨0,.hrow,96,1,[[.ptr 111 0 0 0]]⟩),(111,⟨0,.hrow,97,1,[[.own 112 0 0 s.h.length]]⟩),(112,⟨0,.own,3,1,s.h.map zy⟩)]⟩) (fun s=>TI n E s∧∃ k,n<s.out.length+k∧(zZ E k s).out=yR n E) (fun s=>n - s.out.length) ⟨M,H,[]⟩ ⟨hTI,n+1,by show n<0+(n+1);omega,hend⟩ ?_ ?_
   ·show FLe _ ⟨[(0,.int .i64 n),(6,.list 1 ((zL n E).map YO)),(7,.own 100 0 0 n),(12,.ptr 110 0 0 0),(13,.wrap (.fn 60) [.ptr 110 0 0 0]),(16,.own 101 0 0 0),(17,.wrap (.bound 62) [.ptr 111 0 0 0])],[(101,⟨0,.own,3,1,[]⟩),(100,⟨0,.own,3,1,M.map zy⟩),(110,⟨0,.hrow,96,1,[[.ptr 111 0 0 0]]⟩),(111,⟨0,.hrow,97,1,[[.own 112 0 0 H.length]]⟩),(112,⟨0,.own,3,1,H.map zy⟩)]⟩
    exact (FLe.cv [⟨101,none,0,⟨0,.own,3,1,[]⟩⟩,⟨100,some 100,0,⟨0,.own,3,1,M.map zy⟩⟩,⟨110,some 110,0,⟨0,.hrow,96,1,[[.ptr 111 0 0 0]]⟩⟩,⟨111,some 111,0,⟨0,.hrow,97,1,[[.own 112 0 0 H.length]]⟩⟩,⟨112,some 112,0,⟨0,.own,3,1,H.map zy⟩⟩] (by repeat (first|exact .nil|refine .old rfl (by decide) rfl ?_|refine .oldH rfl (by repeat (first|exact .nil|refine .cons (.ptr (.tail _ (.tail _ (.tail _ (.head _)))) rfl) ?_|refine .cons (.own (.tail _ (.tail _ (.tail _ (.tail _ (.head _))))) rfl rfl rfl) ?_)) ?_|refine .new ?_)) (by repeat (first|exact .nil|refine .cons (.plain rfl rfl rfl) ?_|refine .cons (.nil rfl (.head _) rfl) ?_|refine .cons (.own rfl (.tail _ (.head _)) rfl rfl) ?_|refine .cons (.ptr rfl (.tail _ (.tail _ (.head _))) rfl) ?_|refine .cons (.wrap rfl (by repeat (first|exact zd.nil|refine zd.cons (.plain rfl rfl) ?_|refine zd.cons (.ptr (.head _) rfl) ?_|refine zd.cons (.own (.head _) rfl rfl rfl) ?_|refine zd.cons (.omap (.head _) rfl) ?_|refine zd.cons (.ptr (.tail _ (.head _)) rfl) ?_|refine zd.cons (.own (.tail _ (.head _)) rfl rfl rfl) ?_|refine zd.cons (.omap (.tail _ (.head _)) rfl) ?_|refine zd.cons (.ptr (.tail _ (.tail _ (.head _))) rfl) ?_|refine zd.cons (.own (.tail _ (.tail _ (.head _))) rfl rfl rfl) ?_|refine zd.cons (.omap (.tail _ (.tail _ (.head _))) rfl) ?_|refine zd.cons (.ptr (.tail _ (.tail _ (.tail _ (.head _)))) rfl) ?_|refine zd.cons (.own (.tail _ (.tail _ (.tail _ (.head _)))) rfl rfl rfl) ?_|refine zd.cons (.omap (.tail _ (.tail _ (.tail _ (.head _)))) rfl) ?_|refine zd.cons (.ptr (.tail _ (.tail _ (.tail _ (.tail _ (.head _))))) rfl) ?_|refine zd.cons (.own (.tail _ (.tail _ (.tail _ (.tail _ (.head _))))) rfl rfl rfl) ?_|refine zd.cons (.omap (.tail _ (.tail _ (.tail _ (.tail _ (.head _))))) rfl) ?_))) ?_)))
   clear hTI hend M H
   rintro ⟨m,h,out⟩ ⟨hTI,fu,hfu,hend⟩
   dsimp only at hfu hend ⊢
   have hhl:h.length≤n:=hTI.hle
   have hml:m.length=n:=hTI.len
   have hol:out.length≤n:=hTI.le
   (repeat (first|refine FW.seq ?_|refine FW.region ?_|refine za rfl rfl rfl ?_))
   refine ziq rfl (Vg 0 0 h) [(5000,111),(5001,112)] rfl (zA.cons rfl rfl rfl (zA.cons rfl rfl rfl zA.nil)) rfl rfl rfl rfl rfl rfl ?_
   rintro _ ob' ⟨rfl,h1,h2⟩
   refine xa.one [(111,⟨0,.hrow,97,1,[[.own 112 0 0 h.length]]⟩),(112,⟨0,.own,3,1,h.map zy⟩)] (.int .i64 h.length) rfl (by show [(111,zh.ren _ (look {} ob' 5000)),(112,zh.ren _ (look {} ob' 5001))]=_;rw [h1,h2];rfl) ?_
   clear h1 h2 ob'
   (repeat (first|refine zc.nil ?_|refine Yh rfl rfl rfl rfl ?_))
   refine FW.cond rfl (fun hc=>?_) (fun hc=>?_)
   ·obtain ⟨k,hk⟩:∃ k,h.length=k+1:=⟨h.length - 1,by simp at hc;omega⟩
    clear hc
    (repeat (first|refine FW.seq ?_|refine FW.region ?_|refine FW.block ?_|refine FW.skip ?_|refine Zn rfl rfl rfl rfl rfl rfl rfl ?_|refine zak rfl rfl (by kernel_rfl) rfl rfl ?_))
    refine xB (zf1 0 0 h k hk (by omega)) [(5000,111),(5001,112)] rfl (zA.cons rfl rfl rfl (zA.cons rfl rfl rfl zA.nil)) rfl rfl rfl rfl rfl rfl ?_
    rintro _ ob' ⟨rfl,h1,h2⟩
    refine xa.one [(111,⟨0,.hrow,97,1,[[.own 112 (0+1) 0 k]]⟩),(112,⟨0+1,.own,3,1,((yK h k).take k).map zy⟩)] (.iface 3 (.int .i64 (nth (yK h k) k))) rfl (by show [(111,zh.ren _ (look {} ob' 5000)),(112,zh.ren _ (look {} ob' 5001))]=_;rw [h1,h2];rfl) ?_
    clear h1 h2 ob'
    obtain ⟨v,hv,hvn,hvo,hm0,hmin,hDI,hN,hR⟩:=hTI.first hk
    dsimp only at hv hvo hm0 hmin hDI hN hR
    rw [hv]
    have hstep:yS E ⟨m,h,out⟩=⟨((zn E v).foldl decr (m,(yK h k).take k)).1,((zn E v).foldl decr (m,(yK h k).take k)).2,out++[(v:Int)]⟩:=by
     unfold yS
     dsimp only
     rw [show h.length - 1=k by omega,hv];rfl
    have hTI':=hTI.step hin (by rintro e;rw [show h=[] from e] at hk;simp at hk)
    rw [hstep] at hTI'
    have hend' : ∀ f,fu=f+1→(zZ E f (yS E ⟨m,h,out⟩)).out=yR n E:=fun f hf=>by
     subst hf
     rw [← hend]
     exact (congrArg zcv.out (show zZ E (f+1) ⟨m,h,out⟩=zZ E f (yS E ⟨m,h,out⟩) from if_neg (by rintro e;rw [show h=[] from e] at hk;simp at hk))).symm
    rw [hstep] at hend'
    have hsl:=Xh E v
    (repeat (first|refine FW.seq ?_|refine FW.region ?_|refine FW.block ?_|refine zc.nil ?_|refine zb rfl rfl rfl ?_|refine za rfl rfl rfl ?_|refine zu rfl rfl (by first|exact List.length_map _|exact (List.length_map _).symm|rfl|(simp;done)|(simp;omega)) rfl rfl ?_|refine zp rfl rfl rfl rfl rfl rfl (by first|(simp;omega)|(simp;done)) rfl rfl ?_|refine zm rfl rfl rfl (by first|(simp;omega)|(simp;done)) (by first|exact zg (by omega)|rfl) rfl rfl rfl rfl ?_|refine xh rfl rfl rfl rfl rfl rfl rfl rfl ?_|refine zgI rfl rfl rfl (by kernel_rfl) rfl rfl ?_|refine Wa rfl rfl (by first|exact List.length_map _|exact (List.length_map _).symm|rfl|(simp;done)|(simp;omega)) rfl rfl rfl (by decide) (by exact Yq.own rfl rfl (by decide) (by first|exact List.length_map _|exact (List.length_map _).symm|exact List.length_replicate|rfl|(simp;done)|omega|(simp;omega))) (by first|(simp;omega)|(simp;done)) (by first|(simp;omega)|(simp;done)) rfl rfl rfl ?_))
    rw [hrn v hvn]
    obtain ⟨O,hO⟩:∃ O,out++[(v:Int)]=O:=⟨_,rfl⟩
    obtain ⟨Om,hOm⟩:∃ Om,out.map zy++[[.int .i64 v]]=Om:=⟨_,rfl⟩
    have hOO:O.map zy=Om:=by rw [← hO,← hOm,List.map_append];rfl
    have hOl:Om.length=O.length:=by rw [← hOO,List.length_map]
    have hOl2:O.length=out.length+1:=by rw [← hO];simp
    rw [hO] at hDI hN hR hTI' hend'
    rw [hOm,hOl]
    have htl:((yK h k).take k).length=k:=by rw [List.length_take,UK];omega
    obtain ⟨H0,hH0⟩:∃ H0,(yK h k).take k=H0:=⟨_,rfl⟩
    rw [hH0] at hDI htl hTI' hend' ⊢
    clear hstep hH0 hv hmin
    refine FW.loop (fun j:Nat=>⟨[(0,.int .i64 n),(6,.list 1 ((zL n E).map YO)),(7,.own 100 0 0 n),(12,.ptr 110 0 0 0),(13,.wrap (.fn 60) [.ptr 110 0 0 0]),(16,.own 101 0 0 O.length),(17,.wrap (.bound 62) [.ptr 111 0 0 0]),(78,.list 1 ((zn E v).map zy)),(79,.int .i64 (zn E v).length),(80,.int .i64 j)],[(101,⟨0,.own,3,1,O.map zy⟩),(100,⟨0,.own,3,1,(((zn E v).take j).foldl decr (m,H0)).1.map zy⟩),(110,⟨0,.hrow,96,1,[[.ptr 111 0 0 0]]⟩),(111,⟨0,.hrow,97,1,[[.own 112 0 0 (((zn E v).take j).foldl decr (m,H0)).2.length]]⟩),(112,⟨0,.own,3,1,(((zn E v).take j).foldl decr (m,H0)).2.map zy⟩)]⟩) (fun j=>j≤(zn E v).length) (fun j=>(zn E v).length - j) 0 (Nat.zero_le _) ?_ ?_
    ·show FLe _ ⟨[(0,.int .i64 n),(6,.list 1 ((zL n E).map YO)),(7,.own 100 0 0 n),(12,.ptr 110 0 0 0),(13,.wrap (.fn 60) [.ptr 110 0 0 0]),(16,.own 101 0 0 O.length),(17,.wrap (.bound 62) [.ptr 111 0 0 0]),(78,.list 1 ((zn E v).map zy)),(79,.int .i64 (zn E v).length),(80,.int .i64 0)],[(101,⟨0,.own,3,1,O.map zy⟩),(100,⟨0,.own,3,1,m.map zy⟩),(110,⟨0,.hrow,96,1,[[.ptr 111 0 0 0]]⟩),(111,⟨0,.hrow,97,1,[[.own 112 0 0 H0.length]]⟩),(112,⟨0,.own,3,1,H0.map zy⟩)]⟩
     rw [← hOO,htl]
     exact (FLe.cv [⟨101,some 74,0+1,⟨0,.own,3,1,O.map zy⟩⟩,⟨100,some 100,0,⟨0,.own,3,1,m.map zy⟩⟩,⟨110,some 110,0,⟨0,.hrow,96,1,[[.ptr 111 0 0 0]]⟩⟩,⟨111,some 111,0,⟨0,.hrow,97,1,[[.own 112 0 0 k]]⟩⟩,⟨112,some 112,0+1,⟨0,.own,3,1,H0.map zy⟩⟩] (by repeat (first|exact .nil|refine .old rfl (by decide) rfl ?_|refine .oldH rfl (by repeat (first|exact .nil|refine .cons (.ptr (.tail _ (.tail _ (.tail _ (.head _)))) rfl) ?_|refine .cons (.own (.tail _ (.tail _ (.tail _ (.tail _ (.head _))))) rfl rfl rfl) ?_)) ?_)) (by repeat (first|exact .nil|refine .cons (.plain rfl rfl rfl) ?_|refine .cons (.own rfl (.head _) rfl rfl) ?_|refine .cons (.own rfl (.tail _ (.head _)) rfl rfl) ?_|refine .cons (.ptr rfl (.tail _ (.tail _ (.head _))) rfl) ?_|refine .cons (.wrap rfl (by repeat (first|exact zd.nil|refine zd.cons (.plain rfl rfl) ?_|refine zd.cons (.ptr (.head _) rfl) ?_|refine zd.cons (.own (.head _) rfl rfl rfl) ?_|refine zd.cons (.omap (.head _) rfl) ?_|refine zd.cons (.ptr (.tail _ (.head _)) rfl) ?_|refine zd.cons (.own (.tail _ (.head _)) rfl rfl rfl) ?_|refine zd.cons (.omap (.tail _ (.head _)) rfl) ?_|refine zd.cons (.ptr (.tail _ (.tail _ (.head _))) rfl) ?_|refine zd.cons (.own (.tail _ (.tail _ (.head _))) rfl rfl rfl) ?_|refine zd.cons (.omap (.tail _ (.tail _ (.head _))) rfl) ?_|refine zd.cons (.ptr (.tail _ (.tail _ (.tail _ (.head _)))) rfl) ?_|refine zd.cons (.own (.tail _ (.tail _ (.tail _ (.head _)))) rfl rfl rfl) ?_|refine zd.cons (.omap (.tail _ (.tail _ (.tail _ (.head _)))) rfl) ?_|refine zd.cons (.ptr (.tail _ (.tail _ (.tail _ (.tail _ (.head _))))) rfl) ?_|refine zd.cons (.own (.tail _ (.tail _ (.tail _ (.tail _ (.head _))))) rfl rfl rfl) ?_|refine zd.cons (.omap (.tail _ (.tail _ (.tail _ (.tail _ (.head _))))) rfl) ?_))) ?_)))
    intro j hj
    have hDj:=DI.fold (r1:=(zn E v).take j) (r2:=(zn E v).drop j) hR (by rw [List.take_append_drop];exact hDI) (by rw [List.take_append_drop];exact ZH E v) (by rw [List.take_append_drop];exact fun w hw=>yu hin hw)
    have hst:∀ hl:j<(zn E v).length,((zn E v).take (j+1)).foldl decr (m,H0)=decr (((zn E v).take j).foldl decr (m,H0)) (nth (zn E v) j):=fun hl=>by
     rw [List.take_succ_eq_append_getElem hl,List.foldl_append,← nth_eq hl];rfl
    have hlast:j=(zn E v).length→(zn E v).foldl decr (m,H0)=((zn E v).take j).foldl decr (m,H0):=fun e=>by rw [e,List.take_length]
    generalize ((zn E v).take j).foldl decr (m,H0)=q at hDj hst hlast
    obtain ⟨qm,qh⟩:=q
    have hql:qm.length=n:=hDj.len
    have hqh:qh.length≤n:=Yc hDj.hN fun x hx=>((hDj.hM x).1 hx).1
    dsimp only
    (repeat (first|refine FW.seq ?_|refine FW.region ?_|refine zc.nil ?_|refine zX rfl rfl rfl rfl ?_))
    refine FW.cond rfl (fun hc=>?_) (fun hc=>?_)
    ·have hlt2:j<(zn E v).length:=by simpa using hc
     clear hc hlast
     have hst:=hst hlt2
     obtain ⟨w,hw⟩:∃ w:Nat,nth (zn E v) j=w:=⟨(nth (zn E v) j).toNat,by have:=(yu hin (zC hlt2)).1;omega⟩
     have hwn:w<n:=by have:=(yu hin (zC hlt2)).2;omega
     have hbd:0≤nth qm w∧nth qm w≤n+1:=by
      have h1:=hDj.cnt w hwn
      have h2:zdU n E O w≤(List.range n).length:=List.countP_le_length
      rw [List.length_range] at h2
      dsimp only at h1
      rw [h1]
      split <;> omega
     have hdec:decr (qm,qh) (w:Int)=(qm.set w (nth qm w - 1),if nth qm w - 1=0 then YX qh w else qh):=by unfold decr;rw [Int.toNat_natCast]
     rw [hw,hdec] at hst
     obtain ⟨Z,hZ⟩:∃ Z,qm.set w (nth qm w - 1)=Z:=⟨_,rfl⟩
     have hZl:Z.length=n:=by rw [← hZ];simpa using hql
     have hZw:nth Z w=nth qm w - 1:=by rw [← hZ];exact zE (by omega)
     rw [hZ] at hst
     (repeat (first|refine FW.seq ?_|refine FW.region ?_|refine FW.block ?_|refine FW.skip ?_|refine zc.nil ?_|refine zb rfl rfl rfl ?_|refine za rfl rfl rfl ?_|refine zp rfl rfl (by first|rfl|exact (Int.toNat_of_nonneg (by omega)).symm) rfl rfl rfl (by first|omega|(simp;omega)) rfl rfl ?_|refine zO rfl rfl (by first|rfl|exact (Int.toNat_of_nonneg (by omega)).symm) rfl rfl rfl (by decide) rfl (by first|omega|(simp;omega)) rfl rfl ?_|refine zm rfl rfl rfl (by first|omega|(simp;omega)) (by first|exact zg (by omega)|rfl) rfl rfl rfl rfl ?_|refine zw rfl rfl rfl rfl rfl (by first|omega|(simp;omega)) (by first|exact zg (by omega)|rfl) rfl rfl rfl rfl ?_))
     rw [hw,Int.toNat_natCast]
     (repeat (first|refine FW.seq ?_|refine FW.region ?_|refine zc.nil ?_|refine za rfl rfl rfl ?_|refine zO rfl rfl rfl rfl rfl rfl (by decide) rfl (by first|omega|(simp;omega)) rfl rfl ?_|refine xD rfl rfl rfl rfl rfl rfl (by first|omega|(simp;omega)) (by first|exact zg (by omega)|rfl) rfl rfl rfl ?_|refine zan rfl rfl (by omega) rfl rfl ?_))
     rw [show (zy (nth qm w)).set 0 (.int .i64 (nth qm w - 1))=zy (nth qm w - 1) from rfl,← List.map_set,hZ]
     (repeat (first|refine zc.nil ?_|refine zw rfl rfl rfl rfl rfl (by simp;omega) (by exact zg (by omega)) rfl rfl rfl rfl ?_|refine yO rfl rfl rfl rfl ?_))
     rw [hZw]
     skip
     refine FW.cond rfl (fun hc=>?_) (fun hc=>?_)
     ·rw [if_pos (by simpa using hc)] at hst
      (repeat (first|refine FW.region ?_|refine za rfl rfl rfl ?_))
      refine zdI rfl (zay 0 0 0 qh w (by omega)) [(5002,110),(5000,111),(5001,112)] rfl (zA.cons rfl rfl rfl (zA.cons rfl rfl rfl (zA.cons rfl rfl rfl zA.nil))) rfl rfl rfl rfl rfl rfl ?_
      rintro _ ob' ⟨rfl,h2,h0,h1⟩
      refine xa.one [(110,⟨0,.hrow,96,1,[[.ptr 111 0 0 0]]⟩),(111,⟨0,.hrow,97,1,[[.own 112 (0+1) 0 (qh.length+1)]]⟩),(112,⟨0+1,.own,3,1,(YX qh w).map zy⟩)] (.tup []) rfl (by show [(110,zh.ren _ (look {} ob' 5002)),(111,zh.ren _ (look {} ob' 5000)),(112,zh.ren _ (look {} ob' 5001))]=_;rw [h2,h0,h1];rfl) ?_
      clear h2 h0 h1 ob'
      (repeat (first|refine FW.region ?_|refine zc.nil ?_|refine za rfl rfl rfl ?_|refine zq rfl rfl (by omega) rfl rfl ?_))
      refine ⟨j+1,by omega,by omega,?_⟩
      rw [hst]
      dsimp only
      have hpl:=UL qh w
      generalize YX qh w=Y at hpl
      rw [hpl]
      exact (FLe.cv [⟨101,some 101,0,⟨0,.own,3,1,O.map zy⟩⟩,⟨100,some 100,0,⟨0,.own,3,1,Z.map zy⟩⟩,⟨110,some 110,0,⟨0,.hrow,96,1,[[.ptr 111 0 0 0]]⟩⟩,⟨111,some 111,0,⟨0,.hrow,97,1,[[.own 112 0 0 (qh.length+1)]]⟩⟩,⟨112,some 112,0+1,⟨0,.own,3,1,Y.map zy⟩⟩] (by repeat (first|exact .nil|refine .old rfl (by decide) rfl ?_|refine .oldH rfl (by repeat (first|exact .nil|refine .cons (.ptr (.tail _ (.tail _ (.tail _ (.head _)))) rfl) ?_|refine .cons (.own (.tail _ (.tail _ (.tail _ (.tail _ (.head _))))) rfl rfl rfl) ?_)) ?_)) (by repeat (first|exact .nil|refine .cons (.plain rfl rfl rfl) ?_|refine .cons (.own rfl (.head _) rfl rfl) ?_|refine .cons (.own rfl (.tail _ (.head _)) rfl rfl) ?_|refine .cons (.ptr rfl (.tail _ (.tail _ (.head _))) rfl) ?_|refine .cons (.wrap rfl (by repeat (first|exact zd.nil|refine zd.cons (.plain rfl rfl) ?_|refine zd.cons (.ptr (.head _) rfl) ?_|refine zd.cons (.own (.head _) rfl rfl rfl) ?_|refine zd.cons (.omap (.head _) rfl) ?_|refine zd.cons (.ptr (.tail _ (.head _)) rfl) ?_|refine zd.cons (.own (.tail _ (.head _)) rfl rfl rfl) ?_|refine zd.cons (.omap (.tail _ (.head _)) rfl) ?_|refine zd.cons (.ptr (.tail _ (.tail _ (.head _))) rfl) ?_|refine zd.cons (.own (.tail _ (.tail _ (.head _))) rfl rfl rfl) ?_|refine zd.cons (.omap (.tail _ (.tail _ (.head _))) rfl) ?_|refine zd.cons (.ptr (.tail _ (.tail _ (.tail _ (.head _)))) rfl) ?_|refine zd.cons (.own (.tail _ (.tail _ (.tail _ (.head _)))) rfl rfl rfl) ?_|refine zd.cons (.omap (.tail _ (.tail _ (.tail _ (.head _)))) rfl) ?_|refine zd.cons (.ptr (.tail _ (.tail _ (.tail _ (.tail _ (.head _))))) rfl) ?_|refine zd.cons (.own (.tail _ (.tail _ (.tail _ (.tail _ (.head _))))) rfl rfl rfl) ?_|refine zd.cons (.omap (.tail _ (.tail _ (.tail _ (.tail _ (.head _))))) rfl) ?_))) ?_)))
     ·rw [if_neg (by simpa using hc)] at hst
      (repeat (first|refine FW.region ?_|refine FW.skip ?_|refine zc.nil ?_|refine za rfl rfl rfl ?_|refine zq rfl rfl (by omega) rfl rfl ?_))
      refine ⟨j+1,by omega,by omega,?_⟩
      rw [hst]
      dsimp only
      exact (FLe.cv [⟨101,some 101,0,⟨0,.own,3,1,O.map zy⟩⟩,⟨100,some 100,0,⟨0,.own,3,1,Z.map zy⟩⟩,⟨110,some 110,0,⟨0,.hrow,96,1,[[.ptr 111 0 0 0]]⟩⟩,⟨111,some 111,0,⟨0,.hrow,97,1,[[.own 112 0 0 qh.length]]⟩⟩,⟨112,some 112,0,⟨0,.own,3,1,qh.map zy⟩⟩] (by repeat (first|exact .nil|refine .old rfl (by decide) rfl ?_|refine .oldH rfl (by repeat (first|exact .nil|refine .cons (.ptr (.tail _ (.tail _ (.tail _ (.head _)))) rfl) ?_|refine .cons (.own (.tail _ (.tail _ (.tail _ (.tail _ (.head _))))) rfl rfl rfl) ?_)) ?_)) (by repeat (first|exact .nil|refine .cons (.plain rfl rfl rfl) ?_|refine .cons (.own rfl (.head _) rfl rfl) ?_|refine .cons (.own rfl (.tail _ (.head _)) rfl rfl) ?_|refine .cons (.ptr rfl (.tail _ (.tail _ (.head _))) rfl) ?_|refine .cons (.wrap rfl (by repeat (first|exact zd.nil|refine zd.cons (.plain rfl rfl) ?_|refine zd.cons (.ptr (.head _) rfl) ?_|refine zd.cons (.own (.head _) rfl rfl rfl) ?_|refine zd.cons (.omap (.head _) rfl) ?_|refine zd.cons (.ptr (.tail _ (.head _)) rfl) ?_|refine zd.cons (.own (.tail _ (.head _)) rfl rfl rfl) ?_|refine zd.cons (.omap (.tail _ (.head _)) rfl) ?_|refine zd.cons (.ptr (.tail _ (.tail _ (.head _))) rfl) ?_|refine zd.cons (.own (.tail _ (.tail _ (.head _))) rfl rfl rfl) ?_|refine zd.cons (.omap (.tail _ (.tail _ (.head _))) rfl) ?_|refine zd.cons (.ptr (.tail _ (.tail _ (.tail _ (.head _)))) rfl) ?_|refine zd.cons (.own (.tail _ (.tail _ (.tail _ (.head _)))) rfl rfl rfl) ?_|refine zd.cons (.omap (.tail _ (.tail _ (.tail _ (.head _)))) rfl) ?_|refine zd.cons (.ptr (.tail _ (.tail _ (.tail _ (.tail _ (.head _))))) rfl) ?_|refine zd.cons (.own (.tail _ (.tail _ (.tail _ (.tail _ (.head _))))) rfl rfl rfl) ?_|refine zd.cons (.omap (.tail _ (.tail _ (.tail _ (.tail _ (.head _))))) rfl) ?_))) ?_)))
    ·have hje:j=(zn E v).length:=by simp at hc;omega
     rw [hlast hje] at hTI' hend'
     clear hc hlast hst
     (repeat (first|refine FW.exit ?_))
     refine ⟨⟨qm,qh,O⟩,⟨hTI',fu - 1,by show n<O.length+(fu - 1);omega,hend' _ (by omega)⟩,by show n - O.length<n - out.length;have:=hTI'.le;dsimp only at this;omega,?_⟩
     exact (FLe.cv [⟨101,some 101,0,⟨0,.own,3,1,O.map zy⟩⟩,⟨100,some 100,0,⟨0,.own,3,1,qm.map zy⟩⟩,⟨110,some 110,0,⟨0,.hrow,96,1,[[.ptr 111 0 0 0]]⟩⟩,⟨111,some 111,0,⟨0,.hrow,97,1,[[.own 112 0 0 qh.length]]⟩⟩,⟨112,some 112,0,⟨0,.own,3,1,qh.map zy⟩⟩] (by repeat (first|exact .nil|refine .old rfl (by decide) rfl ?_|refine .oldH rfl (by repeat (first|exact .nil|refine .cons (.ptr (.tail _ (.tail _ (.tail _ (.head _)))) rfl) ?_|refine .cons (.own (.tail _ (.tail _ (.tail _ (.tail _ (.head _))))) rfl rfl rfl) ?_)) ?_)) (by repeat (first|exact .nil|refine .cons (.plain rfl rfl rfl) ?_|refine .cons (.own rfl (.head _) rfl rfl) ?_|refine .cons (.own rfl (.tail _ (.head _)) rfl rfl) ?_|refine .cons (.ptr rfl (.tail _ (.tail _ (.head _))) rfl) ?_|refine .cons (.wrap rfl (by repeat (first|exact zd.nil|refine zd.cons (.plain rfl rfl) ?_|refine zd.cons (.ptr (.head _) rfl) ?_|refine zd.cons (.own (.head _) rfl rfl rfl) ?_|refine zd.cons (.omap (.head _) rfl) ?_|refine zd.cons (.ptr (.tail _ (.head _)) rfl) ?_|refine zd.cons (.own (.tail _ (.head _)) rfl rfl rfl) ?_|refine zd.cons (.omap (.tail _ (.head _)) rfl) ?_|refine zd.cons (.ptr (.tail _ (.tail _ (.head _))) rfl) ?_|refine zd.cons (.own (.tail _ (.tail _ (.head _))) rfl rfl rfl) ?_|refine zd.cons (.omap (.tail _ (.tail _ (.head _))) rfl) ?_|refine zd.cons (.ptr (.tail _ (.tail _ (.tail _ (.head _)))) rfl) ?_|refine zd.cons (.own (.tail _ (.tail _ (.tail _ (.head _)))) rfl rfl rfl) ?_|refine zd.cons (.omap (.tail _ (.tail _ (.tail _ (.head _)))) rfl) ?_|refine zd.cons (.ptr (.tail _ (.tail _ (.tail _ (.tail _ (.head _))))) rfl) ?_|refine zd.cons (.own (.tail _ (.tail _ (.tail _ (.tail _ (.head _))))) rfl rfl rfl) ?_|refine zd.cons (.omap (.tail _ (.tail _ (.tail _ (.tail _ (.head _))))) rfl) ?_))) ?_)))
   ·have hh:h=[]:=by
     cases h with
     | nil => rfl
     | cons x h => simp at hc
    subst hh
    clear hc
    rw [WQ E fu _ rfl] at hend
    dsimp only at hend
    subst hend
    generalize yR n E=O at hol hac
    subst hac
    (repeat (first|refine FW.seq ?_|refine FW.region ?_|refine FW.exit ?_|refine zc.nil ?_|refine za rfl rfl rfl ?_|refine yF rfl rfl rfl (by decide) rfl rfl ?_|refine zX rfl rfl rfl rfl ?_))
    refine FW.cond rfl (fun hc=>?_) (fun hc=>?_)
    ·exfalso;simp at hc
    ·(repeat (first|refine FW.seq ?_|refine FW.region ?_|refine FW.skip ?_|refine zc.nil ?_|refine zb rfl rfl rfl ?_|refine za rfl rfl rfl ?_))
     refine FW.le (s':=⟨[(4,.own 4000 1 0 O.length),(5,.bool true)],[(4000,⟨1,.own,3,1,O.map zy⟩)]⟩) ?_ (FLe.cv [⟨4000,some 101,0,⟨1,.own,3,1,O.map zy⟩⟩] (by repeat (first|exact .nil|refine .old rfl (by decide) rfl ?_)) (by repeat (first|exact .nil|refine .cons (.plain rfl rfl rfl) ?_|refine .cons (.own rfl (.head _) rfl rfl) ?_)))
     exact FW.ret ⟨.inl rfl,_,.pair rfl rfl rfl (fun _ _ e=>by cases e) (fun _ _ e=>by cases e),rfl,rfl⟩
end Go.Proofs.Ytmnmakhpjgjdaaa
/-
 slices.DeleteFunc of ints,at plain values.
-/
namespace Go.Proofs.Ytmnmakhpjgjdaaa
set_option linter.unusedVariables false
open Go.RowKit

theorem Vu (p:Int→Bool) (r:List Int):∀ k i:Nat,(YK p r k i = -1∧∀ q,i≤q→q<i+k→p (nth r q)=false)∨∃ j:Nat,i≤j∧j<i+k∧YK p r k i=j∧p (nth r j)=true∧∀ q,i≤q→q<j→p (nth r q)=false
 | 0, i => .inl ⟨rfl, fun q h1 h2 => by omega⟩
 | k+1,i=>by
  unfold YK
  by_cases h:p (nth r i)=true
  ·rw [if_pos h]
   exact .inr ⟨i,Nat.le_refl _,by omega,rfl,h,fun q h1 h2=>by omega⟩
  ·rw [if_neg h]
   have h' : p (nth r i)=false:=by simpa using h
   rcases Vu p r k (i+1) with ⟨h1,h2⟩|⟨j,h1,h2,h3,h4,h5⟩
   ·refine .inl ⟨h1,fun q q1 q2=>?_⟩
    by_cases e:q=i
    ·subst e;exact h'
    ·exact h2 q (by omega) (by omega)
   ·refine .inr ⟨j,by omega,by omega,h3,h4,fun q q1 q2=>?_⟩
    by_cases e:q=i
    ·subst e;exact h'
    ·exact h5 q (by omega) q2
def xp (p:Int→Bool) (r:List Int):List Int:=r.filter fun x=>!p x
theorem zbd {p:Int→Bool} {r:List Int} (h:∀ q,q<r.length→p (nth r q)=false):xp p r=r:=by
 unfold xp
 rw [List.filter_eq_self]
 intro x hx
 obtain ⟨q,hq,rfl⟩:=List.getElem_of_mem hx
 have:=h q hq
 rw [nth_eq hq] at this
 rw [this];rfl
theorem Xv {p:Int→Bool} {r:List Int} {j:Nat} (hj:j<r.length):xp p (r.take (j+1))=xp p (r.take j)++if p (nth r j)=true then [] else [nth r j]:=by
 unfold xp
 rw [List.take_succ_eq_append_getElem hj,List.filter_append,← nth_eq hj]
 congr 1
 by_cases h:p (nth r j)=true
 ·simp [h]
 ·simp [h]
theorem WC (p:Int→Bool) (r:List Int) (j:Nat):(xp p (r.take j)).length≤j:=by
 unfold xp
 have h1:((r.take j).filter fun x=>!p x).length≤(r.take j).length:=List.length_filter_le _ _
 have h2:(r.take j).length≤j:=by rw [List.length_take];omega
 omega
def YS (p:Int→Bool) (r:List Int) (j:Nat):List Int:=xp p (r.take j)++r.drop (xp p (r.take j)).length
theorem zcN {p:Int→Bool} {r:List Int} {j:Nat} (hj:j≤r.length):(YS p r j).length=r.length:=by
 have:=WC p r j
 unfold YS
 rw [List.length_append,List.length_drop]
 omega
theorem zhe {p:Int→Bool} {r:List Int} {j:Nat} (hj:j<r.length):nth (YS p r j) j=nth r j:=by
 have h:=WC p r j
 have hl:=zcN (p:=p) (r:=r) (j:=j) (by omega)
 rw [nth_eq (by omega),nth_eq hj]
 simp only [YS]
 rw [List.getElem_append_right h,List.getElem_drop]
 congr 1
 omega
theorem zfJ {p:Int→Bool} {r:List Int} {j:Nat} (hj:j<r.length) (hp:p (nth r j)=false):(YS p r j).set (xp p (r.take j)).length (nth r j)=YS p r (j+1):=by
 have h:=WC p r j
 unfold YS
 rw [Xv hj,if_neg (by rw [hp];decide),List.set_append_right _ _ (Nat.le_refl _),Nat.sub_self,List.append_assoc]
 congr 1
 rw [List.length_append,List.length_singleton,List.drop_eq_getElem_cons (show (xp p (r.take j)).length<r.length by omega)]
 rfl
theorem zfK {p:Int→Bool} {r:List Int} {j:Nat} (hj:j<r.length) (hp:p (nth r j)=true):YS p r (j+1)=YS p r j:=by
 unfold YS
 rw [Xv hj,if_pos hp,List.append_nil]
theorem zec {p:Int→Bool} {r:List Int} {j:Nat} (hj:j<r.length) (hp:p (nth r j)=true) (h0:∀ q,q<j→p (nth r q)=false):xp p (r.take (j+1))=r.take j∧YS p r (j+1)=r:=by
 have e:xp p (r.take j)=r.take j:=zbd fun q hq=>by
  rw [List.length_take] at hq
  have:nth (r.take j) q=nth r q:=by rw [nth_eq (by rw [List.length_take];exact hq),nth_eq (by omega),List.getElem_take]
  rw [this];exact h0 q (by omega)
 have e2:xp p (r.take (j+1))=r.take j:=by rw [Xv hj,if_pos hp,List.append_nil,e]
 refine ⟨e2,?_⟩
 unfold YS
 rw [e2,List.length_take,Nat.min_eq_left (by omega),List.take_append_drop]
set_option maxHeartbeats 4000000 in
theorem VJ (v:Nat) (r:List Int) (cf:Nat) (caps:List FV) (p:Int→Bool) (hr:r.length≤1000000) (hp:∀ x∈r,yl Try.prog cf ([.int .i64 x]++caps) .fr (.bool (p x))) :
  yy Try.prog 38 [.own 5000 v 0 r.length,.fn cf caps] [(5000,⟨v,.own,3,1,r.map zy⟩)] [] (fun res o=>res=.own 5000 v 0 (xp p r).length∧o 5000=⟨v,.own,3,1,(xp p r++List.replicate (r.length - (xp p r).length) 0).map zy⟩):=by
 refine yy.of_body (c:=(ZJ Try.prog zH zB 42)) ⟨Try.func38,rfl,Try.ntmps38,by kernel_rfl⟩ (by exact Nat.le_of_ble_eq_true rfl) ?_ ?_
 ·rintro res o ⟨rfl,h⟩;exact YY (v:=v) rfl (by rw [h]) (by rw [h]) rfl
 change FW _ _ _ ⟨[(0,.own 5000 v 0 r.length),(1,.fn cf caps)],[(5000,⟨v,.own,3,1,r.map zy⟩)]⟩
 (repeat (first|refine FW.seq ?_|refine FW.region ?_|refine zc.nil ?_|refine zb rfl rfl rfl ?_|refine za rfl rfl rfl ?_))
 refine yJ (XM r cf caps p hr hp) (by repeat (first|exact zG.nil|refine zG.cons (by first|exact Zg.plain rfl rfl|exact Zg.own rfl rfl (by decide) (by first|exact (fun _=>rfl)|(intro h;cases h)) (by first|rfl|(simp;done)|(congr 1;omega)|(simp;omega)|(simp [List.take_of_length_le];done)|(refine congrArg (FV.int .i64) ?_;omega))) ?_)) rfl rfl ?_
 rcases Vu p r r.length 0 with ⟨h1,h2⟩|⟨j0,_,h2,h3,h4,h5⟩
 ·have hk:=zbd (p:=p) (r:=r) fun q hq=>h2 q (Nat.zero_le _) (by omega)
  rw [hk,Nat.sub_self,show Vw p r = -1 from h1,show r++List.replicate 0 0=r by simp]
  (repeat (first|refine FW.seq ?_|refine FW.region ?_|refine FW.condT rfl ?_|refine zc.nil ?_|refine zb rfl rfl rfl ?_|refine za rfl rfl rfl ?_|refine yO rfl rfl rfl rfl ?_))
  exact FW.ret ⟨.inl rfl,_,.tmp rfl rfl,rfl,rfl⟩
 ·have hj0:j0<r.length:=by omega
  obtain ⟨s1,s2⟩:=zec hj0 h4 fun q hq=>h5 q (Nat.zero_le _) hq
  rw [show Vw p r=(j0:Int) from h3]
  obtain ⟨n,hn⟩:∃ n,r.length=n:=⟨_,rfl⟩
  rw [hn] at hr hj0 ⊢
  (repeat (first|refine FW.seq ?_|refine FW.region ?_|refine FW.block ?_|refine FW.skip ?_|refine FW.condF rfl ?_|refine zc.nil ?_|refine zb rfl rfl rfl ?_|refine za rfl rfl rfl ?_|refine yO rfl rfl rfl rfl ?_|refine zq rfl rfl (by omega) rfl rfl ?_))
  refine FW.loop (fun j:Nat=>⟨[(0,.own 5000 v 0 n),(1,.fn cf caps),(5,.int .i64 (xp p (r.take j)).length),(6,.int .i64 j)],[(5000,⟨v,.own,3,1,(YS p r j).map zy⟩)]⟩) (fun j=>j≤n∧(xp p (r.take j)).length<j) (fun j=>n - j) (j0+1) ⟨by omega,by rw [s1,List.length_take];omega⟩ ?_ ?_
  ·rw [s1,s2,List.length_take,Nat.min_eq_left (by omega)]
   exact (FLe.cv [⟨5000,some 5000,v,⟨v,.own,3,1,r.map zy⟩⟩] (by repeat (first|exact .nil|refine .old rfl (by decide) rfl ?_)) (by repeat (first|exact .nil|refine .cons (.plain rfl rfl rfl) ?_|refine .cons (.own rfl (.head _) rfl rfl) ?_)))
  rintro j ⟨hj,hkj⟩
  have hdl:=zcN (p:=p) (r:=r) (j:=j) (by omega)
  have hdn:=fun h:j<r.length=>zhe (p:=p) h
  have hks:=fun h:j<r.length=>Xv (p:=p) h
  have hdk:=fun (h:j<r.length) (hp:p (nth r j)=false)=>zfJ h hp
  have hds:=fun (h:j<r.length) (hp:p (nth r j)=true)=>zfK h hp
  have hlast:j=n→xp p (r.take j)=xp p r∧YS p r j=xp p r++r.drop (xp p r).length:=fun e=>by
   have e1:xp p (r.take j)=xp p r:=by rw [e,← hn,List.take_length]
   exact ⟨e1,by unfold YS;rw [e1]⟩
  generalize YS p r j=D at hdl hdn hdk hds hlast
  generalize xp p (r.take j)=K at hkj hks hdk hlast
  (repeat (first|refine FW.seq ?_|refine FW.region ?_|refine zc.nil ?_|refine za rfl rfl rfl ?_|refine yF rfl rfl rfl (by decide) rfl rfl ?_|refine zX rfl rfl rfl rfl ?_))
  refine FW.cond rfl (fun hc=>?_) (fun hc=>?_)
  ·have hlt:j<n:=by simpa using hc
   have hlr:j<r.length:=by omega
   clear hc hlast
   have hdn:=hdn hlr
   have hks:=hks hlr
   have hpj:=hp (nth r j) (zC hlr)
   have hjD:j<D.length:=by omega
   (repeat (first|refine FW.seq ?_|refine FW.region ?_|refine FW.block ?_|refine FW.skip ?_|refine zc.nil ?_|refine zb rfl rfl rfl ?_|refine za rfl rfl rfl ?_|refine zO rfl rfl rfl rfl rfl rfl (by decide) rfl (by first|omega|(simp;omega)) rfl rfl ?_|refine zw rfl rfl rfl rfl rfl (by first|omega|(simp;omega)) (by first|exact zg (by omega)|rfl) rfl rfl rfl rfl ?_))
   rw [hdn]
   skip
   refine zfp rfl hpj (by repeat (first|exact zG.nil|refine zG.cons (by exact Zg.plain rfl rfl) ?_)) rfl rfl ?_
   (repeat (first|refine zc.nil ?_|refine YL rfl rfl rfl ?_))
   cases hb:p (nth r j) with
   | true =>
    rw [if_pos hb,List.append_nil] at hks
    have hds:=hds hlr hb
    (repeat (first|refine FW.region ?_|refine FW.skip ?_|refine FW.condF rfl ?_|refine zc.nil ?_|refine zb rfl rfl rfl ?_|refine za rfl rfl rfl ?_|refine zq rfl rfl (by omega) rfl rfl ?_))
    refine ⟨j+1,⟨by omega,by rw [hks];omega⟩,by omega,?_⟩
    rw [hks,hds]
    exact (FLe.cv [⟨5000,some 5000,v,⟨v,.own,3,1,D.map zy⟩⟩] (by repeat (first|exact .nil|refine .old rfl (by decide) rfl ?_)) (by repeat (first|exact .nil|refine .cons (.plain rfl rfl rfl) ?_|refine .cons (.own rfl (.head _) rfl rfl) ?_)))
   | false =>
    rw [if_neg (by rw [hb];decide)] at hks
    have hdk:=hdk hlr hb
    have hKD:K.length<D.length:=by omega
    (repeat (first|refine FW.seq ?_|refine FW.region ?_|refine FW.condT rfl ?_|refine zc.nil ?_|refine zb rfl rfl rfl ?_|refine za rfl rfl rfl ?_|refine zq rfl rfl (by omega) rfl rfl ?_|refine zO rfl rfl rfl rfl rfl rfl (by decide) rfl (by first|omega|(simp;omega)) rfl rfl ?_|refine xD rfl rfl rfl rfl rfl rfl (by first|omega|(simp;omega)) (by first|exact zg (by omega)|rfl) rfl rfl rfl ?_))
    rw [show (zy (nth D K.length)).set 0 (.int .i64 (nth r j))=zy (nth r j) from rfl,← List.map_set,hdk]
    refine ⟨j+1,⟨by omega,by rw [hks];simp;omega⟩,by omega,?_⟩
    rw [hks,List.length_append,List.length_singleton]
    generalize YS p r (j+1)=D2
    exact (FLe.cv [⟨5000,some 5000,v,⟨v,.own,3,1,D2.map zy⟩⟩] (by repeat (first|exact .nil|refine .old rfl (by decide) rfl ?_)) (by repeat (first|exact .nil|refine .cons (.plain rfl rfl rfl) ?_|refine .cons (.own rfl (.head _) rfl rfl) ?_)))
  ·obtain rfl:j=n:=by simp at hc;omega
   obtain ⟨e1,e2⟩:=hlast rfl
   subst e1
   have hsp:splice (D.map zy) (0+(xp p r).length) (List.replicate (j - (xp p r).length) [FV.int .i64 0])=(xp p r++List.replicate (j - (xp p r).length) 0).map zy:=by
    rw [e2]
    unfold splice
    rw [Nat.zero_add,List.map_append,List.take_left' (List.length_map _),List.drop_of_length_le (by simp;omega),List.append_nil,List.map_append,List.map_replicate]
    rfl
   (repeat (first|refine FW.seq ?_|refine FW.region ?_|refine FW.exit ?_|refine za rfl rfl rfl ?_|refine zam rfl rfl rfl rfl (by decide) rfl (by exact LoR.some rfl) (by exact HiR.none) (by omega) (by omega) rfl rfl ?_))
   refine zjB rfl rfl rfl rfl rfl rfl (by omega) rfl ?_
   rw [hsp]
   (repeat (first|refine FW.seq ?_|refine FW.region ?_|refine zc.nil ?_|refine zb rfl rfl rfl ?_|refine za rfl rfl rfl ?_|refine zam rfl rfl rfl rfl (by decide) rfl (by exact LoR.none) (by exact HiR.some rfl) (by omega) (by omega) rfl rfl ?_))
   exact FW.ret ⟨.inl rfl,_,.tmp rfl rfl,rfl,rfl⟩
end Go.Proofs.Ytmnmakhpjgjdaaa
/-
 causal.Check,at plain values.
-/
namespace Go.Proofs.Ytmnmakhpjgjdaaa
set_option linter.unusedVariables false
open Go.RowKit

def ordK (l:List OpV):List Int:=xp (fun x=>!xM l x.toNat) (yR l.length (edC l))
def Wn (l:List OpV):List FV:=match thinK l with
 | some i => VC 5 2 (nth l i).key [i] []
 | none=>if cycC l≠[] then [.int .i64 5,.int .i64 6,.int .i64 0,.nil,.list 3 ((cycEd l (cycC l) (cycC l).length).map EdC.fv)] else match overC l with
  | some (w1, w2, i) => VC 5 7 (nth l w2).key [w1, w2, i] (pthC l w1 w2 ++ pthC l w2 i)
  | none => match initC l with
   | some (w, i) => VC 5 8 (nth l w).key [w, i] (pthC l w i)
   | none => [.int .i64 5, .int .i64 0, .int .i64 0, .list 1 ((ordK l).map zy), .nil]
def zke (l:List OpV):FV:=if YJ l≠0 then .tup [.agg [.int .i64 0,.int .i64 0,.int .i64 0,.nil,.nil],.int .i64 (YJ l)] else .tup [.agg (Wn l),.int .i64 0]
theorem zhV (sz:Nat) (es:List (List FV)):zkq sz es=.nil∨zkq sz es=.list sz es:=by cases es <;> simp [zkq]
theorem zkV (l:List OpV) {i:Nat} (hi:i<l.length):(xc (KC l i)).nilMap=some (!xM l i):=by
 unfold KC
 by_cases h:i∈inclN l l.length
 ·rw [if_pos h,(zdb.1 h).2];rfl
 ·rw [if_neg h]
  have:xM l i=false:=by cases hq:xM l i with|false=>rfl|true=>exact absurd (zdb.2 ⟨hi,hq⟩) h
  rw [this];rfl
theorem zcG (l:List OpV) (i:Nat) (hi:i<l.length):yl Try.prog 39 ([.int .i64 i]++[.eptr 1 [[zdD l]] 0 0]) .fr (.bool (!xM l i)):=by
 have hcell:(List.map (fun q=>[xc (KC l q)]) (List.range l.length)).getD i []=[xc (KC l i)]:=by rw [List.getD_eq_getElem?_getD,xr l.length i _ hi];rfl
 have hnil:=zkV l hi
 obtain ⟨C,hC⟩:∃ C,C=List.map (fun q=>[xc (KC l q)]) (List.range l.length):=⟨_,rfl⟩
 have hCl:C.length=l.length:=by rw [hC];simp
 obtain ⟨b,hb⟩:∃ b,(!xM l i)=b:=⟨_,rfl⟩
 rw [hb] at hnil ⊢
 unfold zdD zgv
 rw [← hC] at hcell ⊢
 refine yl.of_body (c:=(ZJ Try.prog zH zB 12)) ⟨Try.func39,rfl,Try.ntmps39,by kernel_rfl⟩ (by simp [FV.hand]) (by exact Nat.le_of_ble_eq_true rfl) rfl ?_
 change FW _ _ _ ⟨[(0,.int .i64 i),(1,.eptr 1 [[.eptr 4 [[.list 8 (l.map OpV.fv),.list 1 ((inclN l l.length).map yH),.smap (yA l l.length),.list 1 C]] 0 0]] 0 0)],[]⟩
 (repeat (first|refine FW.seq ?_|refine FW.region ?_|refine zc.nil ?_|refine zb rfl rfl rfl ?_|refine zm rfl rfl rfl (by first|omega|(simp;done)) rfl rfl rfl rfl rfl ?_|refine yM rfl rfl rfl ?_|refine zT rfl rfl rfl rfl rfl rfl rfl ?_|refine za rfl rfl rfl ?_|refine zp rfl rfl rfl rfl rfl rfl (by first|omega|(simp;done)) rfl rfl ?_))
 refine zm rfl rfl rfl (by rw [hCl];exact hi) hcell rfl rfl rfl rfl ?_
 refine zis rfl hnil (by kernel_rfl) rfl rfl ?_
 (repeat (first|refine zc.nil ?_|refine zb rfl rfl rfl ?_))
 exact FW.ret ⟨.inl rfl,yb rfl rfl rfl rfl⟩
theorem zeJ (l:List OpV) (hl:l.length≤14) (hc:cycC l=[]):yy Try.prog 36 [.int .i64 l.length,.perm 2 ((edC l).map edf)] [] [4000] (fun res o=>res=.wrap .tup [.own 4000 1 0 l.length,.bool true]∧o 4000=⟨1,.own,3,1,(yR l.length (edC l)).map zy⟩):=by
 refine yy.perm (pre:=[.int .i64 l.length]) (post:=[]) fun es' hp=>?_
 obtain ⟨P,hP,rfl⟩:=zfi hp
 have hm:∀ e,e∈P↔e∈edC l:=fun e=>hP.mem_iff
 have hin:=(YU l).mem hm
 have h1:=zhh l
 have h2:=Nat.mul_le_mul hl hl
 have hcP:xH P l.length=[]:=by rw [VA hm];exact hc
 obtain ⟨h3,h4⟩:=YA hin hcP
 obtain ⟨h5,_⟩:=YA (YU l) hc
 rw [zdN hm,h5] at h3
 injection h3 with h3
 rw [h3]
 exact zgQ l.length P (by omega) (by rw [hP.length_eq];omega) hin h4.len
set_option maxHeartbeats 8000000 in
theorem zd2 (l:List OpV) (hl:l.length≤14) (hin:∀ o∈l,Uc o):yl Try.prog 18 [.list 8 (l.map OpV.fv)] .sh (zke l):=by
 have hdm:=Vq l (by omega) hin
 obtain ⟨R,hR⟩:∃ R,zke l=R:=⟨_,rfl⟩
 have hRh:R.hand=none:=by rw [← hR];unfold zke;split <;> rfl
 rw [hR]
 have hR1:YJ l≠0→R=.tup [.agg [.int .i64 0,.int .i64 0,.int .i64 0,.nil,.nil],.int .i64 (YJ l)]:=fun h=>by rw [← hR];unfold zke;rw [if_pos h]
 have hR2:YJ l=0→R=.tup [.agg (Wn l),.int .i64 0]:=fun h=>by rw [← hR];unfold zke;rw [if_neg (by simpa using h)]
 have hdom:YJ l=0→YT l:=fun h=>by
  unfold YJ at h
  split at h
  ·rename_i h1;exact absurd h h1
  ·split at h
   ·assumption
   ·cases h
 clear hR
 obtain ⟨e,he⟩:∃ e,YJ l=e:=⟨_,rfl⟩
 rw [he] at hdm hR1 hR2 hdom
 have hb:=fun hd=>zaY l (by omega) hin hd
 rw [zhj] at hb
 change YT l→yl _ _ _ _ (zdD l) at hb
 have hth:=ziL l (by omega) hin
 have hcy:=zeb l hl
 have hov:=zh2 l (by omega) hin
 have hit:=zhG l (by omega) hin
 have hpairs:=UX (.list 8 (l.map OpV.fv)) (.smap (yA l l.length)) (.list 1 ((inclN l l.length).map yH)) (KC l) l.length (by omega) (kok l (by omega))
 change yl _ _ [zdD l] _ (.perm 2 ((edC l).map edf)) at hpairs
 have htop:=zeJ l hl
 have hch:=zcG l
 obtain ⟨r,hr⟩:∃ r,zdD l=r:=⟨_,rfl⟩
 have hr1:r.one=true:=by rw [← hr];rfl
 have hrc:r.cells=[r]:=by rw [← hr];rfl
 have hrh:r.hand=none:=by rw [← hr];rfl
 rw [hr] at hb hth hcy hov hit hpairs hch
 clear hr
 refine yl.of_body (c:=(ZJ Try.prog zH zB 57)) ⟨Try.func18,rfl,Try.ntmps18,by kernel_rfl⟩ (by simp [FV.hand]) (by exact Nat.le_of_ble_eq_true rfl) hRh ?_
 change FW _ _ _ ⟨[(0,.list 8 (l.map OpV.fv))],[]⟩
 (repeat (first|refine FW.seq ?_|refine FW.region ?_|refine zc.nil ?_|refine zD rfl rfl rfl rfl rfl rfl rfl ?_|refine zb rfl rfl rfl ?_|refine za rfl rfl rfl ?_))
 refine yJ hdm (by repeat (first|exact zG.nil|refine zG.cons (by exact Zg.plain rfl rfl) ?_)) rfl rfl ?_
 (repeat (first|refine FW.seq ?_|refine FW.region ?_|refine zc.nil ?_|refine zb rfl rfl rfl ?_|refine za rfl rfl rfl ?_|refine xC rfl rfl rfl rfl ?_))
 refine FW.cond rfl (fun h=>?_) (fun h=>?_)
 ·rw [hR1 (by simpa using h)]
  (repeat (first|refine FW.seq ?_|refine FW.region ?_|refine zc.nil ?_|refine zb rfl rfl rfl ?_|refine za rfl rfl rfl ?_|refine zS rfl rfl rfl rfl ?_|refine zi rfl rfl rfl rfl rfl rfl rfl rfl rfl ?_|refine zU.nil ?_))
  exact FW.ret ⟨.inl rfl,.sh (.cons (ya rfl rfl rfl rfl rfl rfl (by decide)) (.cons (.tmp 3 rfl rfl) .nil)) rfl rfl⟩
 have he0:e=0:=by simpa using h
 subst he0
 have hR2:=hR2 rfl
 have hb:=hb (hdom rfl)
 clear h hR1 hdom
 (repeat (first|refine FW.seq ?_|refine FW.region ?_|refine FW.skip ?_|refine za rfl rfl rfl ?_))
 refine xi hb (by repeat (first|exact zG.nil|refine zG.cons (by exact Zg.plain rfl rfl) ?_)) rfl rfl ?_
 refine zdH rfl rfl rfl rfl rfl ?_
 refine zgG rfl rfl hr1 rfl rfl rfl (by decide) rfl ?_
 refine zc.le ?_ (FLe.ofH 5 rfl (by simp [hr1]))
 refine zc.le ?_ (FLe.shareP 5 rfl rfl)
 (repeat (first|refine FW.seq ?_|refine FW.region ?_|refine zc.nil ?_|refine zm rfl rfl rfl (by simp;done) rfl rfl rfl rfl rfl ?_))
 refine zfo rfl hrh rfl rfl ?_
 (repeat (first|refine zm rfl rfl rfl (by simp;done) rfl rfl rfl rfl rfl ?_))
 refine zfo rfl hrh rfl rfl ?_
 (repeat (first|refine zm rfl rfl rfl (by simp;done) rfl rfl rfl rfl rfl ?_))
 refine zfo rfl hrh rfl rfl ?_
 (repeat (first|refine zm rfl rfl rfl (by simp;done) rfl rfl rfl rfl rfl ?_))
 refine zfo rfl hrh rfl rfl ?_
 refine Yg (es:=[[.bnd 32 [r]],[.bnd 33 [r]],[.bnd 34 [r]],[.bnd 35 [r]]]) rfl rfl rfl (by refine xJ.one rfl rfl rfl rfl ?_;refine xJ.one rfl rfl rfl rfl ?_;refine xJ.one rfl rfl rfl rfl ?_;refine xJ.one rfl rfl rfl rfl ?_;exact xJ.nil) rfl rfl rfl rfl rfl ?_
 (repeat (first|refine FW.block ?_|refine zc.nil ?_|refine za rfl rfl rfl ?_|refine zu rfl rfl rfl rfl rfl ?_))
 refine FW.loop (fun k:Nat=>⟨[(0,.list 8 (l.map OpV.fv)),(2,.ptr 102 0 0 0),(5,.eptr 1 [[r]] 0 0),(28,.list 1 [[.bnd 32 [r]],[.bnd 33 [r]],[.bnd 34 [r]],[.bnd 35 [r]]]),(29,.int .i64 4),(30,.int .i64 k)],[(102,⟨0,.own,36,5,[[.int .i64 0,.int .i64 0,.int .i64 0,.nil,.nil]]⟩)]⟩) (fun k=>k≤4∧(1≤k→thinK l=none)∧(2≤k→cycC l=[])∧(3≤k→overC l=none)∧(4≤k→initC l=none)) (fun k=>4 - k) 0 ⟨Nat.zero_le _,by omega,by omega,by omega,by omega⟩ ?_ ?_
 ·exact (FLe.cv [⟨102,some 2,0+1,⟨0,.own,36,5,[[.int .i64 0,.int .i64 0,.int .i64 0,.nil,.nil]]⟩⟩] (by repeat (first|exact .nil|refine .old rfl (by decide) rfl ?_)) (by repeat (first|exact .nil|refine .cons (.plain rfl rfl rfl) ?_|refine .cons (.ptr rfl (.head _) rfl) ?_)))
 rintro k ⟨hk,p1,p2,p3,p4⟩
 (repeat (first|refine FW.seq ?_|refine FW.region ?_|refine zc.nil ?_|refine zX rfl rfl rfl rfl ?_))
 refine FW.cond rfl (fun h=>?_) (fun h=>?_)
 ·have hk4:k=0∨k=1∨k=2∨k=3:=by simp at h;omega
  clear h
  rcases hk4 with rfl|rfl|rfl|rfl
  ·(repeat (first|refine FW.seq ?_|refine FW.region ?_|refine FW.block ?_|refine FW.skip ?_|refine zc.nil ?_|refine zb rfl rfl rfl ?_|refine za rfl rfl rfl ?_|refine zm rfl rfl rfl (by simp;done) rfl rfl rfl rfl rfl ?_|refine zp rfl rfl rfl rfl rfl rfl (by simp;done) rfl rfl ?_))
   refine VW rfl hth rfl rfl ?_
   unfold zgP
   cases ht:thinK l with
   | some i =>
    rw [hR2]
    unfold Wn
    rw [ht]
    dsimp only
    unfold VC
    (repeat (first|refine FW.seq ?_|refine FW.region ?_|refine FW.condT rfl ?_|refine zc.nil ?_|refine zD rfl rfl rfl rfl rfl rfl rfl ?_|refine zb rfl rfl rfl ?_|refine za rfl rfl rfl ?_|refine xE rfl rfl rfl rfl rfl rfl rfl rfl rfl ?_|refine zi rfl rfl rfl rfl rfl rfl rfl rfl rfl ?_|refine yG rfl rfl rfl (by decide) rfl rfl (by simp;done) rfl rfl rfl rfl ?_|refine zt rfl rfl rfl rfl rfl ?_|refine zj rfl rfl rfl rfl rfl rfl (by decide) rfl rfl ?_))
    exact FW.ret ⟨.inl rfl,.sh (.cons (ya rfl rfl rfl rfl rfl rfl (by decide)) (.cons (.tmp 3 rfl rfl) .nil)) rfl rfl⟩
   | none =>
    (repeat (first|refine FW.seq ?_|refine FW.region ?_|refine FW.skip ?_|refine FW.condF rfl ?_|refine zc.nil ?_|refine zD rfl rfl rfl rfl rfl rfl rfl ?_|refine zb rfl rfl rfl ?_|refine za rfl rfl rfl ?_|refine zi rfl rfl rfl rfl rfl rfl rfl rfl rfl ?_|refine zt rfl rfl rfl rfl rfl ?_|refine zq rfl rfl (by omega) rfl rfl ?_))
    refine ⟨1,⟨by omega,fun _=>by first|exact ht|rfl,by omega,by omega,by omega⟩,by omega,(FLe.cv [⟨102,some 102,0,⟨0,.own,36,5,[[.int .i64 0,.int .i64 0,.int .i64 0,.nil,.nil]]⟩⟩] (by repeat (first|exact .nil|refine .old rfl (by decide) rfl ?_)) (by repeat (first|exact .nil|refine .cons (.plain rfl rfl rfl) ?_|refine .cons (.ptr rfl (.head _) rfl) ?_)))⟩
  ·have p1:=p1 (by omega)
   (repeat (first|refine FW.seq ?_|refine FW.region ?_|refine FW.block ?_|refine FW.skip ?_|refine zc.nil ?_|refine zb rfl rfl rfl ?_|refine za rfl rfl rfl ?_|refine zm rfl rfl rfl (by simp;done) rfl rfl rfl rfl rfl ?_|refine zp rfl rfl rfl rfl rfl rfl (by simp;done) rfl rfl ?_))
   refine VW rfl hcy rfl rfl ?_
   unfold zly
   by_cases hc:cycC l=[]
   ·rw [show decide (((cycC l).length:Int) > 0)=false by rw [hc];rfl]
    (repeat (first|refine FW.seq ?_|refine FW.region ?_|refine FW.skip ?_|refine FW.condF rfl ?_|refine zc.nil ?_|refine zD rfl rfl rfl rfl rfl rfl rfl ?_|refine zb rfl rfl rfl ?_|refine za rfl rfl rfl ?_|refine zi rfl rfl rfl rfl rfl rfl rfl rfl rfl ?_|refine zt rfl rfl rfl rfl rfl ?_|refine zq rfl rfl (by omega) rfl rfl ?_))
    refine ⟨2,⟨by omega,fun _=>p1,fun _=>hc,by omega,by omega⟩,by omega,(FLe.cv [⟨102,some 102,0,⟨0,.own,36,5,[[.int .i64 0,.int .i64 0,.int .i64 0,.nil,.nil]]⟩⟩] (by repeat (first|exact .nil|refine .old rfl (by decide) rfl ?_)) (by repeat (first|exact .nil|refine .cons (.plain rfl rfl rfl) ?_|refine .cons (.ptr rfl (.head _) rfl) ?_)))⟩
   ·rw [show decide (((cycC l).length:Int) > 0)=true by have:=List.length_pos_iff.2 hc;simpa using this,hR2]
    unfold Wn
    rw [p1]
    dsimp only
    rw [if_pos hc]
    (repeat (first|refine FW.seq ?_|refine FW.region ?_|refine FW.condT rfl ?_|refine zc.nil ?_|refine zD rfl rfl rfl rfl rfl rfl rfl ?_|refine zb rfl rfl rfl ?_|refine za rfl rfl rfl ?_|refine xE rfl rfl rfl rfl rfl rfl rfl rfl rfl ?_|refine zi rfl rfl rfl rfl rfl rfl rfl rfl rfl ?_|refine yG rfl rfl rfl (by decide) rfl rfl (by simp;done) rfl rfl rfl rfl ?_|refine zt rfl rfl rfl rfl rfl ?_|refine zj rfl rfl rfl rfl rfl rfl (by decide) rfl rfl ?_))
    exact FW.ret ⟨.inl rfl,.sh (.cons (ya rfl rfl rfl rfl rfl rfl (by decide)) (.cons (.tmp 3 rfl rfl) .nil)) rfl rfl⟩
  ·have p1:=p1 (by omega)
   have p2:=p2 (by omega)
   (repeat (first|refine FW.seq ?_|refine FW.region ?_|refine FW.block ?_|refine FW.skip ?_|refine zc.nil ?_|refine zb rfl rfl rfl ?_|refine za rfl rfl rfl ?_|refine zm rfl rfl rfl (by simp;done) rfl rfl rfl rfl rfl ?_|refine zp rfl rfl rfl rfl rfl rfl (by simp;done) rfl rfl ?_))
   refine VW rfl hov rfl rfl ?_
   unfold zgj
   cases ht:overC l with
   | some w=>
    obtain ⟨w1,w2,i⟩:=w
    rw [hR2]
    unfold Wn
    rw [p1,ht]
    dsimp only
    rw [if_neg (by simpa using p2)]
    unfold VC
    generalize pthC l w1 w2++pthC l w2 i=X
    rcases zhV 3 (X.map EdC.fv) with hX|hX <;> rw [hX]
    ·(repeat (first|refine FW.seq ?_|refine FW.region ?_|refine FW.condT rfl ?_|refine zc.nil ?_|refine zD rfl rfl rfl rfl rfl rfl rfl ?_|refine zb rfl rfl rfl ?_|refine za rfl rfl rfl ?_|refine xE rfl rfl rfl rfl rfl rfl rfl rfl rfl ?_|refine zi rfl rfl rfl rfl rfl rfl rfl rfl rfl ?_|refine yG rfl rfl rfl (by decide) rfl rfl (by simp;done) rfl rfl rfl rfl ?_|refine zt rfl rfl rfl rfl rfl ?_|refine zj rfl rfl rfl rfl rfl rfl (by decide) rfl rfl ?_))
     exact FW.ret ⟨.inl rfl,.sh (.cons (ya rfl rfl rfl rfl rfl rfl (by decide)) (.cons (.tmp 3 rfl rfl) .nil)) rfl rfl⟩
    ·(repeat (first|refine FW.seq ?_|refine FW.region ?_|refine FW.condT rfl ?_|refine zc.nil ?_|refine zD rfl rfl rfl rfl rfl rfl rfl ?_|refine zb rfl rfl rfl ?_|refine za rfl rfl rfl ?_|refine xE rfl rfl rfl rfl rfl rfl rfl rfl rfl ?_|refine zi rfl rfl rfl rfl rfl rfl rfl rfl rfl ?_|refine yG rfl rfl rfl (by decide) rfl rfl (by simp;done) rfl rfl rfl rfl ?_|refine zt rfl rfl rfl rfl rfl ?_|refine zj rfl rfl rfl rfl rfl rfl (by decide) rfl rfl ?_))
     exact FW.ret ⟨.inl rfl,.sh (.cons (ya rfl rfl rfl rfl rfl rfl (by decide)) (.cons (.tmp 3 rfl rfl) .nil)) rfl rfl⟩
   | none =>
    (repeat (first|refine FW.seq ?_|refine FW.region ?_|refine FW.skip ?_|refine FW.condF rfl ?_|refine zc.nil ?_|refine zD rfl rfl rfl rfl rfl rfl rfl ?_|refine zb rfl rfl rfl ?_|refine za rfl rfl rfl ?_|refine zi rfl rfl rfl rfl rfl rfl rfl rfl rfl ?_|refine zt rfl rfl rfl rfl rfl ?_|refine zq rfl rfl (by omega) rfl rfl ?_))
    refine ⟨3,⟨by omega,fun _=>p1,fun _=>p2,fun _=>by first|exact ht|rfl,by omega⟩,by omega,(FLe.cv [⟨102,some 102,0,⟨0,.own,36,5,[[.int .i64 0,.int .i64 0,.int .i64 0,.nil,.nil]]⟩⟩] (by repeat (first|exact .nil|refine .old rfl (by decide) rfl ?_)) (by repeat (first|exact .nil|refine .cons (.plain rfl rfl rfl) ?_|refine .cons (.ptr rfl (.head _) rfl) ?_)))⟩
  ·have p1:=p1 (by omega)
   have p2:=p2 (by omega)
   have p3:=p3 (by omega)
   (repeat (first|refine FW.seq ?_|refine FW.region ?_|refine FW.block ?_|refine FW.skip ?_|refine zc.nil ?_|refine zb rfl rfl rfl ?_|refine za rfl rfl rfl ?_|refine zm rfl rfl rfl (by simp;done) rfl rfl rfl rfl rfl ?_|refine zp rfl rfl rfl rfl rfl rfl (by simp;done) rfl rfl ?_))
   refine VW rfl hit rfl rfl ?_
   unfold zf3
   cases ht:initC l with
   | some w=>
    obtain ⟨w,i⟩:=w
    rw [hR2]
    unfold Wn
    rw [p1,p3,ht]
    dsimp only
    rw [if_neg (by simpa using p2)]
    unfold VC
    generalize pthC l w i=X
    rcases zhV 3 (X.map EdC.fv) with hX|hX <;> rw [hX]
    ·(repeat (first|refine FW.seq ?_|refine FW.region ?_|refine FW.condT rfl ?_|refine zc.nil ?_|refine zD rfl rfl rfl rfl rfl rfl rfl ?_|refine zb rfl rfl rfl ?_|refine za rfl rfl rfl ?_|refine xE rfl rfl rfl rfl rfl rfl rfl rfl rfl ?_|refine zi rfl rfl rfl rfl rfl rfl rfl rfl rfl ?_|refine yG rfl rfl rfl (by decide) rfl rfl (by simp;done) rfl rfl rfl rfl ?_|refine zt rfl rfl rfl rfl rfl ?_|refine zj rfl rfl rfl rfl rfl rfl (by decide) rfl rfl ?_))
     exact FW.ret ⟨.inl rfl,.sh (.cons (ya rfl rfl rfl rfl rfl rfl (by decide)) (.cons (.tmp 3 rfl rfl) .nil)) rfl rfl⟩
    ·(repeat (first|refine FW.seq ?_|refine FW.region ?_|refine FW.condT rfl ?_|refine zc.nil ?_|refine zD rfl rfl rfl rfl rfl rfl rfl ?_|refine zb rfl rfl rfl ?_|refine za rfl rfl rfl ?_|refine xE rfl rfl rfl rfl rfl rfl rfl rfl rfl ?_|refine zi rfl rfl rfl rfl rfl rfl rfl rfl rfl ?_|refine yG rfl rfl rfl (by decide) rfl rfl (by simp;done) rfl rfl rfl rfl ?_|refine zt rfl rfl rfl rfl rfl ?_|refine zj rfl rfl rfl rfl rfl rfl (by decide) rfl rfl ?_))
     exact FW.ret ⟨.inl rfl,.sh (.cons (ya rfl rfl rfl rfl rfl rfl (by decide)) (.cons (.tmp 3 rfl rfl) .nil)) rfl rfl⟩
   | none =>
    (repeat (first|refine FW.seq ?_|refine FW.region ?_|refine FW.skip ?_|refine FW.condF rfl ?_|refine zc.nil ?_|refine zD rfl rfl rfl rfl rfl rfl rfl ?_|refine zb rfl rfl rfl ?_|refine za rfl rfl rfl ?_|refine zi rfl rfl rfl rfl rfl rfl rfl rfl rfl ?_|refine zt rfl rfl rfl rfl rfl ?_|refine zq rfl rfl (by omega) rfl rfl ?_))
    refine ⟨4,⟨by omega,fun _=>p1,fun _=>p2,fun _=>p3,fun _=>by first|exact ht|rfl⟩,by omega,(FLe.cv [⟨102,some 102,0,⟨0,.own,36,5,[[.int .i64 0,.int .i64 0,.int .i64 0,.nil,.nil]]⟩⟩] (by repeat (first|exact .nil|refine .old rfl (by decide) rfl ?_)) (by repeat (first|exact .nil|refine .cons (.plain rfl rfl rfl) ?_|refine .cons (.ptr rfl (.head _) rfl) ?_)))⟩
 ·have hk4:k=4:=by simp at h;omega
  subst hk4
  have p1:=p1 (by omega)
  have p2:=p2 (by omega)
  have p3:=p3 (by omega)
  have p4:=p4 (by omega)
  rw [hR2]
  unfold Wn
  rw [p1,p3,p4]
  dsimp only
  rw [if_neg (by simpa using p2)]
  obtain ⟨_,hO⟩:=YA (YU l) p2
  have hTL:=htop p2
  unfold ordK
  generalize yR l.length (edC l)=TT at hO hTL
  have hTl:=hO.len
  have hD:=VJ 1 TT 39 [.eptr 1 [[r]] 0 0] (fun x=>!xM l x.toNat) (by omega) (fun x hx=>by
   have hr:=hO.rng x hx
   have:=hch x.toNat (by omega)
   rw [show ((x.toNat:Nat):Int)=x by omega] at this
   exact this)
  rw [hTl] at hD
  have hKl:=WC (fun x=>!xM l x.toNat) TT TT.length
  rw [List.take_length,hTl] at hKl
  generalize xp (fun x=>!xM l x.toNat) TT=KK at hD hKl
  clear hth hcy hov hit hch hb hdm
  (repeat (first|refine FW.seq ?_|refine FW.region ?_|refine FW.exit ?_|refine za rfl rfl rfl ?_|refine zm rfl rfl rfl (by simp;done) rfl rfl rfl rfl rfl ?_|refine zu rfl rfl (by first|exact List.length_map _|rfl|(simp;done)) rfl rfl ?_))
  refine xi hpairs (zG.cons (.plain rfl hrh) .nil) rfl rfl ?_
  refine xB hTL [(4000,105)] rfl zA.nil rfl rfl rfl rfl rfl rfl ?_
  rintro _ ob' ⟨rfl,h4⟩
  refine xa.one [(105,⟨1,.own,3,1,TT.map zy⟩)] (.wrap .tup [.own 105 1 0 l.length,.bool true]) rfl (by show [(105,zh.ren _ (look {} ob' 4000))]=_;rw [h4];rfl) ?_
  clear h4 ob' hTL
  (repeat (first|refine za rfl rfl rfl ?_))
  refine zaj rfl rfl rfl rfl rfl ?_
  refine zaj rfl rfl rfl rfl rfl ?_
  (repeat (first|refine FW.seq ?_|refine FW.region ?_|refine zc.nil ?_|refine zb rfl rfl rfl ?_|refine za rfl rfl rfl ?_|refine zgA rfl rfl rfl rfl ?_))
  refine xB hD [(5000,105)] rfl (zA.cons rfl rfl rfl zA.nil) rfl rfl rfl rfl rfl rfl ?_
  rintro _ ob' ⟨rfl,h4⟩
  obtain ⟨Ze,hZe⟩:∃ Ze,(KK++List.replicate (l.length - KK.length) 0).map zy=Ze:=⟨_,rfl⟩
  have hZt:(Ze.drop 0).take KK.length=KK.map zy:=by rw [← hZe,List.drop_zero,List.map_append,List.take_left' (List.length_map _)]
  rw [hZe] at h4
  refine xa.one [(105,⟨1,.own,3,1,Ze⟩)] (.own 105 1 0 KK.length) rfl (by show [(105,zh.ren _ (look {} ob' 5000))]=_;rw [h4];rfl) ?_
  clear h4 ob' hD
  refine zc.le ?_ (FLe.shut (i:=105) rfl)
  refine zc.le ?_ (FLe.list (d:=53) (i:=105) (f:=.list 1 (KK.map zy)) rfl rfl (by rw [hZt]))
  (repeat (first|refine FW.seq ?_|refine FW.region ?_|refine zc.nil ?_|refine zb rfl rfl rfl ?_|refine za rfl rfl rfl ?_|refine zS rfl rfl rfl rfl ?_|refine zi rfl rfl rfl rfl rfl rfl rfl rfl rfl ?_|refine zU.nil ?_|refine zU.one rfl rfl rfl rfl rfl ?_|refine zU.agg rfl rfl rfl rfl (List.cons_ne_nil _ _) rfl ?_))
  exact FW.ret ⟨.inl rfl,.sh (.cons (ya rfl rfl rfl rfl rfl rfl (by decide)) (.cons (.tmp 3 rfl rfl) .nil)) rfl rfl⟩
end Go.Proofs.Ytmnmakhpjgjdaaa
