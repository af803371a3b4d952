/-
  Some texts as one: FmRep, GPlain, FmDist, FmCycle, CycPlain, GPlain2.
-/
import Derived.Test.YtmnmakhpjgjdaaaZR
import Derived.Test.YtmnmakhpjgjdaaaZD
import Derived.Test.YtmnmakhpjgjdaaaZA
/-
 slices.Repeat of one number,and what it calls.
-/
namespace Go.Proofs.Ytmnmakhpjgjdaaa
set_option linter.unusedVariables false
open Go.RowKit

set_option maxHeartbeats 4000000 in
theorem zgd (n:Nat) (hn:n≤14):yl Try.prog 102 [.int .u64 1,.int .u64 n] .fr (.tup [.int .u64 0,.int .u64 n]):=by
 refine yl.of_body (c:=(ZJ Try.prog zH zB 51)) ⟨Try.func102,rfl,Try.ntmps102,by kernel_rfl⟩ (by simp [FV.hand]) (by exact Nat.le_of_ble_eq_true rfl) rfl ?_
 change FW _ _ _ ⟨[(0,.int .u64 1),(1,.int .u64 n)],[]⟩
 have hc:n=0∨n=1∨n=2∨n=3∨n=4∨n=5∨n=6∨n=7∨n=8∨n=9∨n=10∨n=11∨n=12∨n=13∨n=14:=by omega
 clear hn
 (repeat (first|refine FW.seq ?_|refine FW.region ?_))
 refine zb rfl rfl rfl ?_;refine zb rfl rfl rfl ?_
 (repeat (first|refine FW.seq ?_|refine FW.region ?_|refine zc.nil ?_))
 refine za rfl rfl rfl ?_;refine zah rfl rfl rfl rfl ?_;refine zb rfl rfl rfl ?_
 (repeat (first|refine FW.seq ?_|refine FW.region ?_|refine zc.nil ?_))
 refine za rfl rfl rfl ?_;refine zdL rfl rfl (by omega) rfl rfl ?_;refine zb rfl rfl rfl ?_
 (repeat (first|refine FW.seq ?_|refine FW.region ?_|refine zc.nil ?_))
 refine za rfl rfl rfl ?_;refine zah rfl rfl rfl rfl ?_;refine zb rfl rfl rfl ?_
 (repeat (first|refine FW.seq ?_|refine FW.region ?_|refine zc.nil ?_))
 refine za rfl rfl rfl ?_;refine zdL rfl rfl (by omega) rfl rfl ?_;refine zb rfl rfl rfl ?_
 (repeat (first|refine FW.seq ?_|refine FW.region ?_|refine zc.nil ?_))
 refine za rfl rfl rfl ?_;refine za rfl rfl rfl ?_;refine zal rfl rfl rfl rfl ?_;refine zb rfl rfl rfl ?_
 (repeat (first|refine FW.seq ?_|refine FW.region ?_|refine zc.nil ?_))
 refine za rfl rfl rfl ?_;refine za rfl rfl rfl ?_;refine zal rfl rfl rfl rfl ?_;refine za rfl rfl rfl ?_;refine zdL rfl rfl (by omega) rfl rfl ?_;refine zci rfl rfl rfl rfl ?_;refine zb rfl rfl rfl ?_
 (repeat (first|refine FW.seq ?_|refine FW.region ?_|refine zc.nil ?_))
 refine za rfl rfl rfl ?_;refine zah rfl rfl rfl rfl ?_;refine zb rfl rfl rfl ?_
 (repeat (first|refine FW.seq ?_|refine FW.region ?_|refine zc.nil ?_))
 refine za rfl rfl rfl ?_;refine zdL rfl rfl (by omega) rfl rfl ?_;refine zb rfl rfl rfl ?_
 (repeat (first|refine FW.seq ?_|refine FW.region ?_|refine zc.nil ?_))
 refine za rfl rfl rfl ?_;refine za rfl rfl rfl ?_;refine za rfl rfl rfl ?_;refine zal rfl rfl rfl rfl ?_;refine zci rfl rfl rfl rfl ?_;refine zb rfl rfl rfl ?_
 (repeat (first|refine FW.seq ?_|refine FW.region ?_|refine zc.nil ?_))
 refine za rfl rfl rfl ?_;refine za rfl rfl rfl ?_;refine zal rfl rfl rfl rfl ?_;refine za rfl rfl rfl ?_;refine zci rfl rfl rfl rfl ?_;refine za rfl rfl rfl ?_;refine zdL rfl rfl (by omega) rfl rfl ?_;refine zci rfl rfl rfl rfl ?_;refine zb rfl rfl rfl ?_
 (repeat (first|refine FW.seq ?_|refine FW.region ?_|refine zc.nil ?_))
 refine za rfl rfl rfl ?_;refine za rfl rfl rfl ?_;refine zal rfl rfl rfl rfl ?_;refine zb rfl rfl rfl ?_
 (repeat (first|refine zc.nil ?_))
 refine FW.ret ⟨.inl rfl,.flat (.cons (.tmp 4 rfl rfl) (.cons (.tmp 5 rfl rfl) .nil)) ?_ rfl⟩
 rcases hc with rfl|rfl|rfl|rfl|rfl|rfl|rfl|rfl|rfl|rfl|rfl|rfl|rfl|rfl|rfl <;> rfl
set_option maxHeartbeats 4000000 in
theorem zjo (n:Nat) (hn:n≤14):yl Try.prog 88 [.int .u64 1,.int .u64 n] .fr (.tup [.int .u64 0,.int .u64 n]):=by
 refine yl.of_body (c:=(ZJ Try.prog zH zB 30)) ⟨Try.func88,rfl,Try.ntmps88,by kernel_rfl⟩ (by simp [FV.hand]) (by exact Nat.le_of_ble_eq_true rfl) rfl ?_
 change FW _ _ _ ⟨[(0,.int .u64 1),(1,.int .u64 n)],[]⟩
 (repeat (first|refine FW.seq ?_|refine FW.region ?_|refine FW.skip ?_|refine FW.condF rfl ?_|refine zc.nil ?_|refine zb rfl rfl rfl ?_|refine za rfl rfl rfl ?_))
 refine yJ (zgd n hn) (by repeat (first|exact zG.nil|refine zG.cons (by first|exact Zg.plain rfl rfl) ?_)) rfl rfl ?_
 (repeat (first|refine FW.seq ?_|refine FW.region ?_|refine zc.nil ?_|refine zb rfl rfl rfl ?_|refine za rfl rfl rfl ?_|refine zt rfl rfl rfl rfl rfl ?_))
 exact FW.ret ⟨.inl rfl,.flat (.cons (.tmp 4 rfl rfl) (.cons (.tmp 5 rfl rfl) .nil)) rfl rfl⟩
theorem zgx (n k:Nat) (a b:List FV) (h1:k≤n):splice (List.replicate k a++List.replicate (n - k) b) k ((List.replicate k a).take (n - k))=List.replicate (min n (2 * k)) a++List.replicate (n - min n (2 * k)) b:=by
 unfold splice
 rw [List.take_append_of_le_length (by simp),List.take_of_length_le (by simp),List.drop_append,List.take_replicate,List.length_replicate,List.length_replicate]
 rw [List.drop_of_length_le (by simp <;> omega),List.nil_append,List.drop_replicate,List.replicate_append_replicate]
 congr 1
 ·congr 1;omega
 ·congr 1;omega
set_option maxHeartbeats 4000000 in
theorem zeF (n:Nat) (hn:n≤14):yl Try.prog 83 [.list 1 [[.int .i64 (-1)]],.int .i64 n] (.ow 3 1) (.list 1 (List.replicate n [.int .i64 (-1)])):=by
 refine yl.of_body (c:=(ZJ Try.prog zH zB 48)) ⟨Try.func83,rfl,Try.ntmps83,by kernel_rfl⟩ (by simp [FV.hand]) (by exact Nat.le_of_ble_eq_true rfl) rfl ?_
 change FW _ _ _ ⟨[(0,.list 1 [[.int .i64 (-1)]]),(1,.int .i64 n)],[]⟩
 (repeat (first|refine FW.seq ?_|refine FW.region ?_|refine FW.skip ?_|refine FW.condF rfl ?_|refine zc.nil ?_|refine zb rfl rfl rfl ?_|refine za rfl rfl rfl ?_|refine zX rfl rfl rfl rfl ?_|refine zu rfl rfl (by first|exact List.length_map _|exact (List.length_map _).symm|exact List.length_replicate|rfl|(simp;done)|omega|(simp;omega)) rfl rfl ?_|refine zfq rfl rfl rfl (by first|omega|(simp;done)|(simp;omega)) rfl rfl ?_))
 refine yJ (zjo n hn) (by repeat (first|exact zG.nil|refine zG.cons (by first|exact Zg.plain rfl rfl) ?_)) rfl rfl ?_
 (repeat (first|refine FW.seq ?_|refine FW.region ?_|refine zc.nil ?_|refine zb rfl rfl rfl ?_|refine za rfl rfl rfl ?_|refine zt rfl rfl rfl rfl rfl ?_|refine Yh rfl rfl rfl rfl ?_|refine zQ rfl rfl rfl rfl ?_|refine za rfl rfl ⟨_,_,rfl,rfl,rfl⟩ ?_|refine Yh rfl rfl rfl ⟨_,_,rfl,rfl,rfl⟩ ?_))
 refine FW.cond rfl (fun h=>?_) (fun h=>?_)
 ·simp at h;omega
 (repeat (first|refine FW.seq ?_|refine FW.region ?_|refine FW.block ?_|refine FW.skip ?_|refine zc.nil ?_|refine zb rfl rfl rfl ?_|refine za rfl rfl rfl ?_|refine zjC rfl rfl rfl (by omega) rfl rfl ?_|refine zcl rfl (by first|rfl|exact (Int.toNat_of_nonneg (by omega)).symm) rfl (by first|rfl|exact (Int.toNat_of_nonneg (by omega)).symm) rfl rfl rfl rfl (by first|omega|(simp;omega)|(simp;done)) (by first|omega|(simp;omega)|(simp;done)) rfl rfl rfl ?_|refine zkA rfl rfl rfl rfl rfl (by first|exact Yq.own rfl rfl (by decide) (by first|exact List.length_map _|exact (List.length_map _).symm|exact List.length_replicate|rfl|(simp;done)|omega|(simp;omega))|exact Yq.list rfl|exact Yq.nil rfl|exact Yq.part rfl rfl (by decide)) rfl rfl ?_))
 have hs:splice (List.replicate n [FV.int .i64 0]) 0 (List.take n [[FV.int .i64 (-1)]])=List.replicate (min n 1) [FV.int .i64 (-1)]++List.replicate (n - min n 1) [FV.int .i64 0]:=by
  have hc:n=0∨n=1∨n=2∨n=3∨n=4∨n=5∨n=6∨n=7∨n=8∨n=9∨n=10∨n=11∨n=12∨n=13∨n=14:=by omega
  rcases hc with rfl|rfl|rfl|rfl|rfl|rfl|rfl|rfl|rfl|rfl|rfl|rfl|rfl|rfl|rfl <;> rfl
 have hl:(List.take n [[FV.int .i64 (-1)]]).length=min n 1:=by simp
 rw [hs,hl]
 refine FW.loop (fun k:Nat=>⟨[(7,.own 100 0 0 n),(8,.int .i64 k)],[(100,⟨0,.own,3,1,List.replicate k [.int .i64 (-1)]++List.replicate (n - k) [.int .i64 0]⟩)]⟩) (fun k=>k≤n∧(1≤k∨n=0)) (fun k=>n - k) (min n 1) ⟨by omega,by omega⟩ (FLe.cv [⟨100,some 30,0+1,⟨0,.own,3,1,List.replicate (min n 1) [.int .i64 (-1)]++List.replicate (n - min n 1) [.int .i64 0]⟩⟩] (by repeat (first|exact .nil|refine .old rfl (by decide) (by first|rfl|(simp;done)|(congr 1;omega)|(simp;omega)|(simp [List.take_of_length_le];done)|(refine congrArg (FV.int .i64) ?_;omega)) ?_)) (by repeat (first|exact .nil|refine .cons (.plain rfl rfl (by first|rfl|(simp;done)|(congr 1;omega)|(simp;omega)|(simp [List.take_of_length_le];done)|(refine congrArg (FV.int .i64) ?_;omega))) ?_|refine .cons (.own rfl (.head _) rfl (by first|rfl|(simp;done)|(congr 1;omega)|(simp;omega)|(simp [List.take_of_length_le];done)|(refine congrArg (FV.int .i64) ?_;omega))) ?_))) ?_
 rintro k ⟨hk,hk1⟩
 (repeat (first|refine FW.seq ?_|refine FW.region ?_|refine zc.nil ?_|refine za rfl rfl rfl ?_|refine zX rfl rfl rfl rfl ?_|refine yF rfl rfl rfl (by decide) rfl rfl ?_))
 refine FW.cond rfl (fun h=>?_) (fun h=>?_)
 ·have hlt:k<n:=by simpa using h
  clear h
  have hsp:=zgx n k [FV.int .i64 (-1)] [FV.int .i64 0] hk
  (repeat (first|refine FW.block ?_|refine FW.skip ?_|refine FW.draw ?_|refine zR rfl rfl rfl ?_|refine zku rfl rfl rfl rfl rfl (by first|exact Yq.own rfl rfl (by decide) (by first|exact List.length_map _|exact (List.length_map _).symm|exact List.length_replicate|rfl|(simp;done)|omega|(simp;omega))|exact Yq.list rfl|exact Yq.nil rfl|exact Yq.part rfl rfl (by decide)) rfl rfl ?_|refine zdz rfl rfl rfl rfl (by decide) rfl (by first|exact LoR.none|exact LoR.some rfl|exact LoR.lit rfl (by first|rfl|exact (Int.toNat_of_nonneg (by omega)).symm)) (by first|exact HiR.none|exact HiR.some rfl|exact HiR.lit rfl (by first|rfl|exact (Int.toNat_of_nonneg (by omega)).symm)) (by first|omega|(simp;omega)|(simp;done)) (by first|omega|(simp;omega)|(simp;done)) rfl rfl ?_))
  refine zle rfl rfl (by simp;omega) rfl rfl ?_
  refine yT rfl rfl rfl ?_
  refine zF.nil ⟨by kernel_rfl,?_⟩
  have e1:(List.take (n - k) (List.take (k - 0) (List.drop (0+0) (List.replicate k [FV.int .i64 (-1)]++List.replicate (n - k) [FV.int .i64 0]))))=(List.replicate k [FV.int .i64 (-1)]).take (n - k):=by
   rw [Nat.add_zero,List.drop_zero,Nat.sub_zero,List.take_append_of_le_length (by simp),List.take_of_length_le (by simp:(List.replicate k [FV.int .i64 (-1)]).length≤k)]
  have e2:(((List.replicate k [FV.int .i64 (-1)]).take (n - k)).length:Int)=((min n (2 * k) - k:Nat):Int):=by
   rw [List.length_take,List.length_replicate];omega
  rw [e1,e2,show 0+k=k from Nat.zero_add k,hsp]
  have e3:(k:Int)+((min n (2 * k) - k:Nat):Int)=((min n (2 * k):Nat):Int):=by omega
  rw [e3]
  obtain ⟨q,hq⟩:∃ q,min n (2 * k)=q:=⟨_,rfl⟩
  rw [hq]
  obtain ⟨z,hz⟩:∃ z,List.replicate q [FV.int .i64 (-1)]++List.replicate (n - q) [FV.int .i64 0]=z:=⟨_,rfl⟩
  refine ⟨q,⟨by omega,by omega⟩,by omega,?_⟩
  rw [hz]
  exact (FLe.cv [⟨100,some 100,0,⟨0,.own,3,1,z⟩⟩] (by repeat (first|exact .nil|refine .old rfl (by decide) (by first|rfl|(simp;done)|(congr 1;omega)|(simp;omega)|(simp [List.take_of_length_le];done)|(refine congrArg (FV.int .i64) ?_;omega)) ?_)) (by repeat (first|exact .nil|refine .cons (.plain rfl rfl (by first|rfl|(simp;done)|(congr 1;omega)|(simp;omega)|(simp [List.take_of_length_le];done)|(refine congrArg (FV.int .i64) ?_;omega))) ?_|refine .cons (.own rfl (.head _) rfl (by first|rfl|(simp;done)|(congr 1;omega)|(simp;omega)|(simp [List.take_of_length_le];done)|(refine congrArg (FV.int .i64) ?_;omega))) ?_)))
 ·obtain rfl:k=n:=by simp at h;omega
  (repeat (first|refine FW.seq ?_|refine FW.region ?_|refine FW.exit ?_|refine zc.nil ?_|refine zb rfl rfl rfl ?_|refine za rfl rfl rfl ?_))
  exact FW.ret ⟨.inl rfl,zio rfl rfl rfl (by simp) (by decide) (by simp) (by intro e he;obtain rfl:=List.eq_of_mem_replicate he;rfl)⟩
end Go.Proofs.Ytmnmakhpjgjdaaa
/-
 Breadth first search backwards,as a plain function.
-/
namespace Go.Proofs.Ytmnmakhpjgjdaaa
set_option linter.unusedVariables false

def relax (t u:Int) (s:List Int×List Int) (v:Int):List Int×List Int:=
 if t<v∧nth s.1 v.toNat<0 then (s.1.set v.toNat (nth s.1 u.toNat+1),s.2++[v]) else s
def Uh (rows:List (List Int)) (t:Int) (s:List Int×List Int):List Int×List Int:=
 match s.2 with
 | [] => s
 | u :: _ => let q := (nth rows u.toNat).foldl (relax t u) s; (q.1, q.2.tail)
def bfs (rows:List (List Int)) (t:Int):Nat→List Int×List Int→List Int×List Int
 | 0, s => s
 | k+1, s => bfs rows t k (Uh rows t s)
def yj (n t:Nat):List Int×List Int:=((List.replicate n (-1)).set t 0,[(t:Int)])
def dist (rows:List (List Int)) (n t:Nat):List Int:=(bfs rows t (n+1) (yj n t)).1
def xQ (l:List Int):Nat:=l.countP fun x=>decide (0≤x)
structure BI (n i:Nat) (s:List Int×List Int):Prop where
 len:s.1.length=n
 rng:∀ x∈s.1,-1≤x∧x<xQ s.1
 wk:∀ v∈s.2,0≤v∧v<n
 cnt:s.2.length+i=xQ s.1
theorem BI.le {n i:Nat} {s:List Int×List Int} (h:BI n i s):s.2.length+i≤n:=by
 rw [h.cnt,← h.len]
 exact List.countP_le_length
theorem BI.nth {n i:Nat} {s:List Int×List Int} (h:BI n i s) {v:Nat} (hv:v<n):-1≤Proofs.Ytmnmakhpjgjdaaa.nth s.1 v∧Proofs.Ytmnmakhpjgjdaaa.nth s.1 v<xQ s.1:=h.rng _ (zC (by rw [h.len];exact hv))
theorem zac {l:List Int} {v:Nat} {x:Int} (hv:v<l.length) (h0:nth l v<0) (hx:0≤x):xQ (l.set v x)=xQ l+1:=by
 unfold xQ
 rw [List.countP_set hv]
 rw [nth_eq hv] at h0
 rw [if_neg (by simp;omega),if_pos (by simp;omega)]
 omega
theorem BI.relax {n i:Nat} {s:List Int×List Int} (h:BI n i s) {t u v:Int} (hu:0≤u∧u<n) (hv:0≤v∧v<n):BI n i (Proofs.Ytmnmakhpjgjdaaa.relax t u s v):=by
 unfold Proofs.Ytmnmakhpjgjdaaa.relax
 by_cases hc:t<v∧Proofs.Ytmnmakhpjgjdaaa.nth s.1 v.toNat<0
 ·rw [if_pos hc]
  have hun:=h.nth (v:=u.toNat) (by omega)
  have hr:=zac (l:=s.1) (v:=v.toNat) (x:=Proofs.Ytmnmakhpjgjdaaa.nth s.1 u.toNat+1) (by rw [h.len];omega) hc.2 (by omega)
  refine ⟨by simp [h.len],fun x hx=>?_,fun w hw=>?_,?_⟩
  ·dsimp only at hx ⊢
   rw [hr]
   rcases List.mem_or_eq_of_mem_set hx with hx|rfl
   ·have:=h.rng x hx;omega
   ·omega
  ·rcases List.mem_append.1 hw with hw|hw
   ·exact h.wk w hw
   ·rw [List.mem_singleton.1 hw];exact hv
  ·have:=h.cnt
   simp only [List.length_append,List.length_cons,List.length_nil]
   rw [hr];omega
 ·rw [if_neg hc];exact h
theorem BI.fold {n i:Nat} {t u:Int} (hu:0≤u∧u<n):∀ {l:List Int} {s:List Int×List Int},BI n i s→(∀ v∈l,0≤v∧v<n)→BI n i (l.foldl (Proofs.Ytmnmakhpjgjdaaa.relax t u) s)
 | [], _, h, _ => h
 | v :: l, s, h, hl => by
  rw [List.foldl_cons]
  exact BI.fold hu (h.relax hu (hl v (by simp))) fun w hw=>hl w (by simp [hw])
theorem zgw {t u v x:Int} {o w:List Int}:∃ o' w',relax t u (o,x::w) v=(o',x::w'):=by
 unfold relax
 split
 ·exact ⟨_,_,rfl⟩
 ·exact ⟨_,_,rfl⟩
theorem Wv {t u x:Int}:∀ {l:List Int} {o w:List Int},∃ o' w',l.foldl (relax t u) (o,x::w)=(o',x::w')
 | [], o, w => ⟨o, w, rfl⟩
 | v :: l, o, w => by
  obtain ⟨o',w',e⟩:=zgw (t:=t) (u:=u) (v:=v) (x:=x) (o:=o) (w:=w)
  rw [List.foldl_cons,e]
  exact Wv
theorem BI.round {n i:Nat} {rows:List (List Int)} {t:Int} (hrows:∀ r∈rows,∀ v∈r,0≤v∧v<n) (hlen:rows.length=n) {s:List Int×List Int} (h:BI n i s) (h0:s.2≠[]):BI n (i+1) (Uh rows t s):=by
 obtain ⟨o,w⟩:=s
 cases w with
 | nil => exact absurd rfl h0
 | cons u w =>
  have hu:=h.wk u (by simp)
  have hF:=BI.fold (t:=t) hu h (hrows (Proofs.Ytmnmakhpjgjdaaa.nth rows u.toNat) (zC (by omega)))
  show BI n (i+1) (((Proofs.Ytmnmakhpjgjdaaa.nth rows u.toNat).foldl (Proofs.Ytmnmakhpjgjdaaa.relax t u) (o,u::w)).1,((Proofs.Ytmnmakhpjgjdaaa.nth rows u.toNat).foldl (Proofs.Ytmnmakhpjgjdaaa.relax t u) (o,u::w)).2.tail)
  obtain ⟨o',w',e⟩:=Wv (t:=t) (u:=u) (x:=u) (l:=Proofs.Ytmnmakhpjgjdaaa.nth rows u.toNat) (o:=o) (w:=w)
  rw [e] at hF ⊢
  exact ⟨hF.len,hF.rng,fun v hv=>hF.wk v (by simp [show v∈w' from hv]),by have:=hF.cnt;simp only [List.length_cons,List.tail_cons] at this ⊢;omega⟩
theorem BI.start {n t:Nat} (ht:t<n):BI n 0 (yj n t):=by
 have hr:xQ ((List.replicate n (-1)).set t 0)=1:=by
  rw [zac (by simpa using ht) (by rw [Proofs.Ytmnmakhpjgjdaaa.nth_eq (by simpa using ht)];simp) (by omega)]
  unfold xQ
  rw [List.countP_replicate]
  simp
 refine ⟨by simp [yj],fun x hx=>?_,fun v hv=>?_,?_⟩
 ·show -1≤x∧x<((xQ ((List.replicate n (-1)).set t 0):Nat):Int)
  rw [hr]
  rcases List.mem_or_eq_of_mem_set hx with hx|rfl
  ·rw [List.eq_of_mem_replicate hx];omega
  ·omega
 ·rw [List.mem_singleton.1 hv];omega
 ·show 1+0=xQ ((List.replicate n (-1)).set t 0)
  rw [hr]
theorem zeU (rows:List (List Int)) (t:Int):∀ (k:Nat) (s:List Int×List Int),s.2=[]→bfs rows t k s=s
 | 0, _, _ => rfl
 | k+1, (o, w), h => by
  dsimp only at h
  subst h
  exact zeU rows t k (o,[]) rfl
theorem zd0 (rows:List (List Int)) (t:Int):∀ (j k:Nat) (s:List Int×List Int),bfs rows t (j+k) s=bfs rows t k (bfs rows t j s)
 | 0, k, s => by rw [Nat.zero_add]; rfl
 | j+1, k, s => by rw [Nat.add_right_comm]; exact zd0 rows t j k _
theorem zbM (rows:List (List Int)) (t:Int) (j:Nat) (s:List Int×List Int):bfs rows t (j+1) s=Uh rows t (bfs rows t j s):=by rw [zd0];rfl
theorem zkg {rows:List (List Int)} {n t i:Nat} (hi:i≤n+1) (h:(bfs rows t i (yj n t)).2=[]):dist rows n t=(bfs rows t i (yj n t)).1:=by
 unfold dist
 rw [show n+1=i+(n+1 - i) by omega,zd0,zeU _ _ _ _ h]
structure PI (rows:List (List Int)) (t n:Nat) (s:List Int×List Int):Prop where
 par:∀ v,v<n→1≤Proofs.Ytmnmakhpjgjdaaa.nth s.1 v→∃ u,u<n∧(v:Int)∈Proofs.Ytmnmakhpjgjdaaa.nth rows u∧Proofs.Ytmnmakhpjgjdaaa.nth s.1 u=Proofs.Ytmnmakhpjgjdaaa.nth s.1 v - 1
 big:∀ v,v<n→0≤Proofs.Ytmnmakhpjgjdaaa.nth s.1 v→v≠t→t<v∧1≤Proofs.Ytmnmakhpjgjdaaa.nth s.1 v
 tz:Proofs.Ytmnmakhpjgjdaaa.nth s.1 t=0
 wk:∀ w∈s.2,0≤Proofs.Ytmnmakhpjgjdaaa.nth s.1 w.toNat
theorem PI.relax {rows:List (List Int)} {t n i:Nat} {s:List Int×List Int} (h:PI rows t n s) (hB:BI n i s) {u v:Nat} (hu:u<n) (hv:v<n) (hu0:0≤Proofs.Ytmnmakhpjgjdaaa.nth s.1 u) (hm:(v:Int)∈Proofs.Ytmnmakhpjgjdaaa.nth rows u):PI rows t n (Proofs.Ytmnmakhpjgjdaaa.relax t u s v):=by
 unfold Proofs.Ytmnmakhpjgjdaaa.relax
 by_cases hc:(t:Int)<v∧Proofs.Ytmnmakhpjgjdaaa.nth s.1 (v:Int).toNat<0
 ·rw [if_pos hc]
  simp only [Int.toNat_natCast] at hc ⊢
  have hvl:v<s.1.length:=by rw [hB.len];exact hv
  have hne:∀ w,0≤Proofs.Ytmnmakhpjgjdaaa.nth s.1 w→Proofs.Ytmnmakhpjgjdaaa.nth (s.1.set v (Proofs.Ytmnmakhpjgjdaaa.nth s.1 u+1)) w=Proofs.Ytmnmakhpjgjdaaa.nth s.1 w:=fun w hw=>zK (fun e=>by subst e;omega)
  have hsame:Proofs.Ytmnmakhpjgjdaaa.nth (s.1.set v (Proofs.Ytmnmakhpjgjdaaa.nth s.1 u+1)) v=Proofs.Ytmnmakhpjgjdaaa.nth s.1 u+1:=zE hvl
  refine ⟨fun w hw h1=>?_,fun w hw h0 hwt=>?_,by rw [hne t (by rw [h.tz];omega)];exact h.tz,fun w hw=>?_⟩
  ·dsimp only at h1 ⊢
   by_cases hwv:w=v
   ·subst hwv
    exact ⟨u,hu,hm,by rw [hsame,hne u hu0];omega⟩
   ·have e:Proofs.Ytmnmakhpjgjdaaa.nth (s.1.set v (Proofs.Ytmnmakhpjgjdaaa.nth s.1 u+1)) w=Proofs.Ytmnmakhpjgjdaaa.nth s.1 w:=zK (fun e=>hwv e.symm)
    rw [e] at h1 ⊢
    obtain ⟨q,q1,q2,q3⟩:=h.par w hw h1
    exact ⟨q,q1,q2,by rw [hne q (by omega)];exact q3⟩
  ·dsimp only at h0 ⊢
   by_cases hwv:w=v
   ·subst hwv
    rw [hsame]
    omega
   ·have e:Proofs.Ytmnmakhpjgjdaaa.nth (s.1.set v (Proofs.Ytmnmakhpjgjdaaa.nth s.1 u+1)) w=Proofs.Ytmnmakhpjgjdaaa.nth s.1 w:=zK (fun e=>hwv e.symm)
    rw [e] at h0 ⊢
    exact h.big w hw h0 hwt
  ·dsimp only at hw ⊢
   rcases List.mem_append.1 hw with hw|hw
   ·rw [hne _ (h.wk w hw)];exact h.wk w hw
   ·rw [List.mem_singleton.1 hw,Int.toNat_natCast,hsame];omega
 ·rw [if_neg hc];exact h
theorem zaf {t u v:Int} {s:List Int×List Int} {w:Nat} (h:0≤nth s.1 w):nth (relax t u s v).1 w=nth s.1 w:=by
 unfold relax
 split
 ·rename_i hc
  refine zK (fun e=>?_)
  rw [e] at hc
  omega
 ·rfl
theorem PI.fold {rows:List (List Int)} {t n i u:Nat} (hu:u<n) (hrows:∀ r∈rows,∀ v∈r,(0:Int)≤v∧v<n):∀ {l:List Int} {s:List Int×List Int},PI rows t n s→BI n i s→0≤Proofs.Ytmnmakhpjgjdaaa.nth s.1 u→(∀ v∈l,v∈Proofs.Ytmnmakhpjgjdaaa.nth rows u∧0≤v∧v<n)→PI rows t n (l.foldl (Proofs.Ytmnmakhpjgjdaaa.relax t u) s)∧BI n i (l.foldl (Proofs.Ytmnmakhpjgjdaaa.relax t u) s)
 | [], _, h, hB, _, _ => ⟨h, hB⟩
 | v :: l, s, h, hB, h0, hl => by
  rw [List.foldl_cons]
  obtain ⟨m1,m2,m3⟩:=hl v (by simp)
  obtain ⟨v,rfl⟩:∃ v' : Nat,v=v':=⟨v.toNat,by omega⟩
  refine PI.fold hu hrows (h.relax hB hu (by omega) h0 m1) (hB.relax ⟨by omega,by omega⟩ ⟨m2,m3⟩) ?_ fun w hw=>hl w (by simp [hw])
  rw [zaf h0];exact h0
theorem PI.round {rows:List (List Int)} {t n i:Nat} (hrows:∀ r∈rows,∀ v∈r,(0:Int)≤v∧v<n) (hlen:rows.length=n) {s:List Int×List Int} (h:PI rows t n s) (hB:BI n i s):PI rows t n (Uh rows t s):=by
 obtain ⟨o,w⟩:=s
 cases w with
 | nil => exact h
 | cons u w =>
  have hu:=hB.wk u (by simp)
  obtain ⟨u,rfl⟩:∃ u' : Nat,u=u':=⟨u.toNat,by omega⟩
  have hm:=zC (l:=rows) (i:=u) (by omega)
  obtain ⟨hP,hF⟩:=PI.fold (t:=t) (i:=i) (u:=u) (by omega) hrows (l:=Proofs.Ytmnmakhpjgjdaaa.nth rows u) h hB (by have:=h.wk (u:Int) (by simp);simpa using this) fun v hv=>⟨hv,hrows _ hm v hv⟩
  show PI rows t n (((Proofs.Ytmnmakhpjgjdaaa.nth rows u).foldl (Proofs.Ytmnmakhpjgjdaaa.relax t u) (o,(u:Int)::w)).1,((Proofs.Ytmnmakhpjgjdaaa.nth rows u).foldl (Proofs.Ytmnmakhpjgjdaaa.relax t u) (o,(u:Int)::w)).2.tail)
  exact ⟨hP.par,hP.big,hP.tz,fun v hv=>hP.wk v (List.mem_of_mem_tail hv)⟩
theorem PI.start {rows:List (List Int)} {n t:Nat} (ht:t<n):PI rows t n (yj n t):=by
 have h1:∀ v,v<n→v≠t→nth (yj n t).1 v = -1:=fun v hv hne=>by
  show nth ((List.replicate n (-1)).set t 0) v = -1
  rw [zK (fun e=>hne e.symm),nth_eq (by simpa using hv)];simp
 have h2:nth (yj n t).1 t=0:=zE (by simpa using ht)
 refine ⟨fun v hv h=>?_,fun v hv h hne=>?_,h2,fun w hw=>?_⟩
 ·by_cases hvt:v=t
  ·subst hvt;rw [h2] at h;omega
  ·rw [h1 v hv hvt] at h;omega
 ·rw [h1 v hv hne] at h;omega
 ·rw [List.mem_singleton.1 hw,Int.toNat_natCast,h2];omega
theorem zd1 {rows:List (List Int)} {n t:Nat} (ht:t<n) (hrows:∀ r∈rows,∀ v∈r,(0:Int)≤v∧v<n) (hlen:rows.length=n):∀ k,∃ i,i≤k∧BI n i (bfs rows t k (yj n t))∧PI rows t n (bfs rows t k (yj n t))∧((bfs rows t k (yj n t)).2=[]∨i=k)
 | 0 => ⟨0, Nat.le_refl _, BI.start ht, PI.start ht, .inr rfl⟩
 | k+1=>by
  obtain ⟨i,h1,h2,h3,h4⟩:=zd1 ht hrows hlen k
  rw [zbM]
  by_cases h0:(bfs rows t k (yj n t)).2=[]
  ·have e:Uh rows t (bfs rows t k (yj n t))=bfs rows t k (yj n t):=by
    generalize bfs rows t k (yj n t)=s at h0
    obtain ⟨o,w⟩:=s
    dsimp only at h0
    subst h0;rfl
   rw [e]
   exact ⟨i,by omega,h2,h3,.inl h0⟩
  ·obtain rfl:i=k:=by rcases h4 with h4|h4;exact absurd h4 h0;exact h4
   exact ⟨i+1,Nat.le_refl _,h2.round hrows hlen h0,h3.round hrows hlen h2,.inr rfl⟩
theorem Yt {rows:List (List Int)} {n t:Nat} (ht:t<n) (hrows:∀ r∈rows,∀ v∈r,(0:Int)≤v∧v<n) (hlen:rows.length=n):(bfs rows t (n+1) (yj n t)).2=[]∧PI rows t n (bfs rows t (n+1) (yj n t))∧∃ i,BI n i (bfs rows t (n+1) (yj n t)):=by
 obtain ⟨i,h1,h2,h3,h4⟩:=zd1 ht hrows hlen (n+1)
 refine ⟨?_,h3,i,h2⟩
 rcases h4 with h4|rfl
 ·exact h4
 ·have:=h2.le;omega
end Go.Proofs.Ytmnmakhpjgjdaaa
/-
 graph.distances,at plain values.
-/
namespace Go.Proofs.Ytmnmakhpjgjdaaa
set_option linter.unusedVariables false
open Go.RowKit

def YO (r:List Int):List FV:=[.list 1 (r.map zy)]
set_option maxHeartbeats 4000000 in
theorem zaI (n t:Nat) (rows:List (List Int)) (hn:n≤14) (ht:t<n) (hlen:rows.length=n) (hrows:∀ r∈rows,∀ v∈r,0≤v∧v<n) (hrl:∀ r∈rows,r.length≤1000000):yl Try.prog 71 [.int .i64 n,.list 1 (rows.map YO),.int .i64 t] (.ow 3 1) (.list 1 ((dist rows n t).map zy)):=by
 refine yl.of_body (c:=(ZJ Try.prog zH zB 61)) ⟨Try.func71,rfl,Try.ntmps71,by kernel_rfl⟩ (by simp [FV.hand]) (by exact Nat.le_of_ble_eq_true rfl) rfl ?_
 change FW _ _ _ ⟨[(0,.int .i64 n),(1,.list 1 (rows.map YO)),(2,.int .i64 t)],[]⟩
 (repeat (first|refine FW.seq ?_|refine FW.region ?_|refine zc.nil ?_|refine zb rfl rfl rfl ?_|refine xh rfl rfl rfl rfl rfl rfl rfl rfl ?_|refine za rfl rfl rfl ?_))
 refine VX (zeF n hn) (by repeat (first|exact zG.nil|refine zG.cons (by first|exact Zg.plain rfl rfl|exact Zg.own rfl rfl (by decide) (by first|exact (fun _=>rfl)|(intro h;cases h)) (by first|rfl|(simp;done)|(congr 1;omega)|(simp;omega)|(simp [List.take_of_length_le];done)|(refine congrArg (FV.int .i64) ?_;omega))) ?_)) List.length_replicate rfl rfl rfl ?_
 rw [show List.replicate n [FV.int .i64 (-1)]=(List.replicate n (-1)).map zy by rw [List.map_replicate];rfl]
 obtain ⟨z,hz⟩:∃ z,List.replicate n (-1:Int)=z:=⟨_,rfl⟩
 have hzl:z.length=n:=by rw [← hz];simp
 have hs:(z.map zy).set t [.int .i64 0]=(yj n t).1.map zy:=by
  show _=((List.replicate n (-1)).set t 0).map zy
  rw [hz,List.map_set];rfl
 rw [hz]
 (repeat (first|refine FW.seq ?_|refine FW.region ?_|refine FW.block ?_|refine zc.nil ?_|refine zb rfl rfl rfl ?_|refine xh rfl rfl rfl rfl rfl rfl rfl rfl ?_|refine za rfl rfl rfl ?_|refine zO rfl rfl rfl rfl rfl rfl (by decide) rfl (by first|omega|(simp;omega)) rfl rfl ?_|refine xD rfl rfl rfl rfl rfl rfl (by first|omega|(simp;omega)) (by first|exact zg (by omega)|rfl) rfl rfl rfl ?_))
 rw [show (zy (nth z t)).set 0 (.int .i64 0)=[.int .i64 0] from rfl,hs]
 refine FW.loop (fun x:Nat×List Int=>⟨[(1,.list 1 (rows.map YO)),(2,.int .i64 t),(7,.own 100 0 0 n),(8,.own 101 0 x.2.length (bfs rows t x.1 (yj n t)).2.length)],[(100,⟨0,.own,3,1,(bfs rows t x.1 (yj n t)).1.map zy⟩),(101,⟨0,.own,3,1,(x.2++(bfs rows t x.1 (yj n t)).2).map zy⟩)]⟩)
  (fun x=>BI n x.1 (bfs rows t x.1 (yj n t))∧x.2.length≤x.1) (fun x=>n - x.1) (0,[]) ⟨BI.start ht,Nat.le_refl _⟩ (FLe.cv [⟨100,some 13,0+1,⟨0,.own,3,1,(yj n t).1.map zy⟩⟩,⟨101,some 18,0+1,⟨0,.own,3,1,[[.int .i64 t]]⟩⟩] (by repeat (first|exact .nil|refine .old rfl (by decide) rfl ?_)) (by repeat (first|exact .nil|refine .cons (.plain rfl rfl rfl) ?_|refine .cons (.own rfl (.head _) rfl rfl) ?_|refine .cons (.own rfl (.tail _ (.head _)) rfl rfl) ?_))) ?_
 rintro ⟨i,pre⟩ ⟨hB,hpre⟩
 dsimp only at hB hpre ⊢
 have hlast:∀ h:(bfs rows t i (yj n t)).2=[],(bfs rows t i (yj n t)).1=dist rows n t:=fun h=>(zkg (by have:=hB.le;omega) h).symm
 have hnext:=zbM rows t i (yj n t)
 generalize bfs rows t i (yj n t)=S at hB hlast hnext ⊢
 obtain ⟨out,w⟩:=S
 have hol:=hB.len
 have hle:=hB.le
 dsimp only at hol hle hlast ⊢
 (repeat (first|refine FW.seq ?_|refine FW.region ?_|refine zc.nil ?_|refine za rfl rfl rfl ?_|refine yF rfl rfl rfl (by decide) rfl rfl ?_|refine Yh rfl rfl rfl rfl ?_))
 refine FW.cond rfl (fun h=>?_) (fun h=>?_)
 ·obtain ⟨u,w,rfl⟩:∃ u w',w=u::w':=by
   cases w with
   | nil => simp at h
   | cons u w => exact ⟨u, w, rfl⟩
  clear h hlast
  obtain ⟨u,rfl⟩:∃ u' : Nat,u=u':=⟨u.toNat,by have:=(hB.wk u (by simp)).1;omega⟩
  have hu:u<rows.length:=by have:=(hB.wk u (by simp)).2;omega
  have hnu:nth (pre++(u:Int)::w) (pre.length+0)=u:=by rw [nth_eq (by simp)];simp
  have hrow:=hrows _ (zC hu)
  have hrl1:=hrl _ (zC hu)
  have hwl:(((u:Int)::w).length:Nat)=w.length+1:=rfl
  have hwle:w.length+1+i≤n:=hle
  obtain ⟨W,hW⟩:∃ W,pre++(u:Int)::w=W:=⟨_,rfl⟩
  have hWl:W.length=pre.length+(w.length+1):=by rw [← hW];simp
  rw [hW] at hnu ⊢
  (repeat (first|refine FW.seq ?_|refine FW.region ?_|refine FW.block ?_|refine FW.skip ?_))
  refine za rfl rfl rfl ?_;refine za rfl rfl rfl ?_
  refine Vk (n:=0) rfl rfl rfl rfl rfl rfl (by decide) rfl (by simp) rfl rfl ?_
  refine zw rfl rfl rfl rfl rfl (by simp;omega) (by exact zg (by omega)) rfl rfl rfl rfl ?_
  rw [hnu]
  (repeat (first|refine FW.block ?_|refine zc.nil ?_|refine za rfl rfl rfl ?_|refine zp rfl rfl rfl rfl rfl rfl (by simp;omega) rfl rfl ?_|refine zu rfl rfl (by first|exact List.length_map _|rfl|(simp;omega)) rfl rfl ?_|refine zm rfl rfl rfl (by simp;omega) (by first|exact zg (by omega)|rfl) rfl rfl rfl rfl ?_))
  obtain ⟨r,hr⟩:∃ r,nth rows u=r:=⟨_,rfl⟩
  rw [hr] at hrow hrl1 ⊢
  have hui:(0:Int)≤u∧(u:Int)<n:=⟨by omega,by omega⟩
  refine FW.loop (fun x:Nat×List Int=>⟨[(1,.list 1 (rows.map YO)),(2,.int .i64 t),(7,.own 100 0 0 n),(8,.own 101 0 x.2.length ((r.take x.1).foldl (relax t u) (out,(u:Int)::w)).2.length),(29,.list 1 (r.map zy)),(30,.int .i64 r.length),(31,.int .i64 x.1)],[(100,⟨0,.own,3,1,((r.take x.1).foldl (relax t u) (out,(u:Int)::w)).1.map zy⟩),(101,⟨0,.own,3,1,(x.2++((r.take x.1).foldl (relax t u) (out,(u:Int)::w)).2).map zy⟩)]⟩)
   (fun x=>x.1≤r.length∧x.2.length≤i) (fun x=>r.length - x.1) (0,pre) ⟨Nat.zero_le _,hpre⟩ ?_ ?_
  ·show FLe _ ⟨[(1,.list 1 (rows.map YO)),(2,.int .i64 t),(7,.own 100 0 0 n),(8,.own 101 0 pre.length ((u:Int)::w).length),(29,.list 1 (r.map zy)),(30,.int .i64 r.length),(31,.int .i64 0)],[(100,⟨0,.own,3,1,out.map zy⟩),(101,⟨0,.own,3,1,(pre++(u:Int)::w).map zy⟩)]⟩
   rw [hW]
   exact (FLe.cv [⟨100,some 100,0,⟨0,.own,3,1,out.map zy⟩⟩,⟨101,some 101,0,⟨0,.own,3,1,W.map zy⟩⟩] (by repeat (first|exact .nil|refine .old rfl (by decide) rfl ?_)) (by repeat (first|exact .nil|refine .cons (.plain rfl rfl rfl) ?_|refine .cons (.own rfl (.head _) rfl rfl) ?_|refine .cons (.own rfl (.tail _ (.head _)) rfl rfl) ?_)))
  clear hnu hW hWl W hpre pre
  rintro ⟨j,pre⟩ ⟨hj,hpre⟩
  dsimp only at hj hpre ⊢
  have hBj:BI n i ((r.take j).foldl (relax t u) (out,(u:Int)::w)):=BI.fold hui hB fun v hv=>hrow v (List.mem_of_mem_take hv)
  obtain ⟨oj,wj,hq⟩:=Wv (t:=t) (u:=u) (x:=u) (l:=r.take j) (o:=out) (w:=w)
  have hstep:∀ h:j<r.length,(r.take (j+1)).foldl (relax t u) (out,(u:Int)::w)=relax t u (oj,(u:Int)::wj) (nth r j):=fun h=>by
   rw [List.take_succ_eq_append_getElem h,List.foldl_append,hq,nth_eq h];rfl
  have hend:j=r.length→Uh rows t (out,(u:Int)::w)=(oj,wj):=fun h=>by
   show (((nth rows u).foldl (relax t u) (out,(u:Int)::w)).1,((nth rows u).foldl (relax t u) (out,(u:Int)::w)).2.tail)=_
   rw [hr,← List.take_length (l:=r),← h,hq];rfl
  rw [hq] at hBj ⊢
  dsimp only
  have hjl:=hBj.len
  have hjle:wj.length+1+i≤n:=hBj.le
  dsimp only at hjl
  have hnu:=hBj.nth (v:=u) (by omega)
  have hreach:xQ oj≤n:=by rw [← hjl];exact List.countP_le_length
  dsimp only at hnu
  have hwj:(((u:Int)::wj).length:Nat)=wj.length+1:=rfl
  (repeat (first|refine FW.seq ?_|refine FW.region ?_|refine zc.nil ?_|refine zX rfl rfl rfl rfl ?_))
  refine FW.cond rfl (fun h=>?_) (fun h=>?_)
  ·have hlt:j<r.length:=by simpa using h
   clear h hend
   have hst:=hstep hlt
   clear hstep
   obtain ⟨v,hv⟩:∃ v:Nat,nth r j=v:=⟨(nth r j).toNat,by have:=(hrow _ (zC hlt)).1;omega⟩
   have hvn:v<n:=by have:=(hrow _ (zC hlt)).2;omega
   rw [hv] at hst
   (repeat (first|refine FW.seq ?_|refine FW.region ?_|refine FW.block ?_|refine FW.skip ?_|refine zc.nil ?_|refine zb rfl rfl rfl ?_|refine za rfl rfl rfl ?_|refine zp rfl rfl rfl rfl rfl rfl (by simp;omega) rfl rfl ?_|refine Yh rfl rfl rfl rfl ?_|refine zm rfl rfl rfl (by simp;omega) (by first|exact zg (by omega)|rfl) rfl rfl rfl rfl ?_))
   rw [hv]
   skip
   refine yg (fun h1=>?_) (fun h1=>?_)
   ·(repeat (first|refine zc.nil ?_|refine zI rfl rfl rfl rfl ?_|refine za rfl rfl ⟨_,_,rfl,rfl,rfl⟩ ?_|refine zO rfl rfl rfl rfl rfl rfl (by decide) rfl (by first|omega|(simp;omega)) rfl ⟨_,_,rfl,rfl,rfl⟩ ?_|refine zw rfl rfl rfl rfl rfl (by first|omega|(simp;omega)) (by first|exact zg (by omega)|rfl) rfl rfl rfl ⟨_,_,rfl,rfl,rfl⟩ ?_|refine zX rfl rfl rfl ⟨_,_,rfl,rfl,rfl⟩ ?_))
    refine FW.cond rfl (fun h2=>?_) (fun h2=>?_)
    ·rw [relax,if_pos ⟨by simpa using h1,by simpa using h2⟩] at hst
     obtain ⟨W,hW⟩:∃ W,pre++(u:Int)::wj=W:=⟨_,rfl⟩
     have hWl:W.length=pre.length+(wj.length+1):=by rw [← hW];simp
     have hnW:nth W (pre.length+0)=u:=by rw [← hW,nth_eq (by simp)];simp
     have hnW' : nth W pre.length=u:=hnW
     simp only [Int.toNat_natCast] at hst
     rw [hW]
     refine FW.split 101 rfl ?_ ?_
     ·skip
      (repeat (first|refine FW.seq ?_|refine FW.region ?_))
      refine za rfl rfl rfl ?_;refine za rfl rfl rfl ?_;refine za rfl rfl rfl ?_;refine za rfl rfl rfl ?_
      refine Vk (n:=0) rfl rfl rfl rfl rfl rfl (by decide) rfl (by simp) rfl rfl ?_
      refine zw rfl rfl rfl rfl rfl (by simp;omega) (by exact zg (by omega)) rfl rfl rfl rfl ?_
      rw [hnW]
      refine zO rfl rfl rfl rfl rfl rfl (by decide) rfl (by first|omega|(simp;omega)) rfl rfl ?_;refine zw rfl rfl rfl rfl rfl (by first|omega|(simp;omega)) (by first|exact zg (by omega)|rfl) rfl rfl rfl rfl ?_;refine zq rfl rfl (by omega) rfl rfl ?_;refine zO rfl rfl rfl rfl rfl rfl (by decide) rfl (by first|omega|(simp;omega)) rfl rfl ?_;refine xD rfl rfl rfl rfl rfl rfl (by first|omega|(simp;omega)) (by first|exact zg (by omega)|rfl) rfl rfl rfl ?_
      rw [show (zy (nth oj v)).set 0 (.int .i64 (nth oj u+1))=zy (nth oj u+1) from rfl,← List.map_set]
      (repeat (first|refine FW.region ?_|refine zc.nil ?_))
      refine za rfl rfl rfl ?_;refine za rfl rfl rfl ?_;refine xh rfl rfl rfl rfl rfl rfl rfl rfl ?_;refine zkw rfl rfl (by simp;omega) rfl rfl rfl (by decide) (by exact Yq.own rfl rfl (by decide) (by first|exact List.length_map _|exact (List.length_map _).symm|exact List.length_replicate|rfl|(simp;done)|omega|(simp;omega))) rfl rfl rfl rfl ?_;refine zb rfl rfl rfl ?_
      (repeat (first|refine FW.region ?_|refine zc.nil ?_))
      refine zq rfl rfl (by omega) rfl rfl ?_;refine za rfl rfl rfl ?_
      (repeat (first|refine zc.nil ?_))
      refine ⟨(j+1,pre),⟨by show j+1≤r.length;omega,hpre⟩,by show r.length - (j+1)<r.length - j;omega,?_⟩
      dsimp only
      rw [hst]
      dsimp only
      have e1:(W.map zy++[zy v]:List (List FV))=(pre++((u:Int)::wj++[(v:Int)])).map zy:=by rw [← hW];simp
      have e2:((u:Int)::wj).length+1=((u:Int)::wj++[(v:Int)]).length:=by simp
      obtain ⟨Z,hZ⟩:∃ Z,(pre++((u:Int)::wj++[(v:Int)])).map zy=Z:=⟨_,rfl⟩
      rw [show ([FV.int .i64 (v:Int)]:List FV)=zy v from rfl,e1,e2,hZ]
      exact (FLe.cv [⟨100,some 100,0,⟨0,.own,3,1,(oj.set v (nth oj u+1)).map zy⟩⟩,⟨101,some 58,0+1,⟨0,.own,3,1,Z⟩⟩] (by repeat (first|exact .nil|refine .old rfl (by decide) rfl ?_)) (by repeat (first|exact .nil|refine .cons (.plain rfl rfl rfl) ?_|refine .cons (.own rfl (.head _) rfl rfl) ?_|refine .cons (.own rfl (.tail _ (.head _)) rfl rfl) ?_)))
     ·skip
      (repeat (first|refine FW.seq ?_|refine FW.region ?_))
      refine za rfl rfl rfl ?_;refine za rfl rfl rfl ?_;refine za rfl rfl rfl ?_;refine za rfl rfl rfl ?_
      refine Vk (n:=0) rfl rfl rfl rfl rfl rfl (by decide) rfl (by simp) rfl rfl ?_
      refine zw rfl rfl rfl rfl rfl (by simp;omega) (by exact zg (by omega)) rfl rfl rfl rfl ?_
      rw [hnW]
      refine zO rfl rfl rfl rfl rfl rfl (by decide) rfl (by first|omega|(simp;omega)) rfl rfl ?_;refine zw rfl rfl rfl rfl rfl (by first|omega|(simp;omega)) (by first|exact zg (by omega)|rfl) rfl rfl rfl rfl ?_;refine zq rfl rfl (by omega) rfl rfl ?_;refine zO rfl rfl rfl rfl rfl rfl (by decide) rfl (by first|omega|(simp;omega)) rfl rfl ?_;refine xD rfl rfl rfl rfl rfl rfl (by first|omega|(simp;omega)) (by first|exact zg (by omega)|rfl) rfl rfl rfl ?_
      rw [show (zy (nth oj v)).set 0 (.int .i64 (nth oj u+1))=zy (nth oj u+1) from rfl,← List.map_set]
      (repeat (first|refine FW.region ?_|refine zc.nil ?_))
      refine za rfl rfl rfl ?_;refine za rfl rfl rfl ?_;refine xh rfl rfl rfl rfl rfl rfl rfl rfl ?_;refine zkv rfl rfl (by first|omega|(simp;omega)) rfl rfl rfl (by decide) (by exact Yq.own rfl rfl (by decide) (by first|exact List.length_map _|exact (List.length_map _).symm|exact List.length_replicate|rfl|(simp;done)|omega|(simp;omega))) rfl (by first|omega|(simp;omega)) (by first|omega|(simp;omega)) rfl rfl rfl ?_;refine zb rfl rfl rfl ?_
      (repeat (first|refine FW.region ?_|refine zc.nil ?_))
      refine zq rfl rfl (by omega) rfl rfl ?_;refine za rfl rfl rfl ?_
      (repeat (first|refine zc.nil ?_))
      refine ⟨(j+1,[]),⟨by show j+1≤r.length;omega,Nat.zero_le _⟩,by show r.length - (j+1)<r.length - j;omega,?_⟩
      dsimp only
      rw [hst]
      dsimp only
      have e1:((W.map zy).drop pre.length++[zy v]:List (List FV))=([]++((u:Int)::wj++[(v:Int)])).map zy:=by rw [← hW];simp
      have e2:((u:Int)::wj).length+1=((u:Int)::wj++[(v:Int)]).length:=by simp
      obtain ⟨Z,hZ⟩:∃ Z,([]++((u:Int)::wj++[(v:Int)])).map zy=Z:=⟨_,rfl⟩
      rw [show ([FV.int .i64 (v:Int)]:List FV)=zy v from rfl,e1,e2,hZ]
      exact (FLe.cv [⟨100,some 100,0,⟨0,.own,3,1,(oj.set v (nth oj u+1)).map zy⟩⟩,⟨101,some 58,0+1,⟨0,.own,3,1,Z⟩⟩] (by repeat (first|exact .nil|refine .old rfl (by decide) rfl ?_)) (by repeat (first|exact .nil|refine .cons (.plain rfl rfl rfl) ?_|refine .cons (.own rfl (.head _) rfl rfl) ?_|refine .cons (.own rfl (.tail _ (.head _)) rfl rfl) ?_)))
    ·rw [relax,if_neg (fun q=>by have:=q.2;rw [Int.toNat_natCast] at this;dsimp only at this;simp at h2;omega)] at hst
     (repeat (first|refine FW.region ?_|refine FW.skip ?_|refine zc.nil ?_|refine za rfl rfl rfl ?_|refine zq rfl rfl (by omega) rfl rfl ?_))
     refine ⟨(j+1,pre),⟨by show j+1≤r.length;omega,hpre⟩,by show r.length - (j+1)<r.length - j;omega,?_⟩
     dsimp only
     rw [hst]
     dsimp only
     obtain ⟨Z,hZ⟩:∃ Z,pre++(u:Int)::wj=Z:=⟨_,rfl⟩
     rw [hZ]
     exact (FLe.cv [⟨100,some 100,0,⟨0,.own,3,1,oj.map zy⟩⟩,⟨101,some 101,0,⟨0,.own,3,1,Z.map zy⟩⟩] (by repeat (first|exact .nil|refine .old rfl (by decide) rfl ?_)) (by repeat (first|exact .nil|refine .cons (.plain rfl rfl rfl) ?_|refine .cons (.own rfl (.head _) rfl rfl) ?_|refine .cons (.own rfl (.tail _ (.head _)) rfl rfl) ?_)))
   ·rw [relax,if_neg (fun q=>by simp at h1;omega)] at hst
    (repeat (first|refine FW.region ?_|refine FW.skip ?_|refine FW.condF rfl ?_|refine zc.nil ?_|refine za rfl rfl rfl ?_|refine zQ rfl rfl rfl rfl ?_|refine zq rfl rfl (by omega) rfl rfl ?_|refine yo rfl rfl ⟨_,_,rfl,rfl,rfl⟩ ?_))
    refine ⟨(j+1,pre),⟨by show j+1≤r.length;omega,hpre⟩,by show r.length - (j+1)<r.length - j;omega,?_⟩
    dsimp only
    rw [hst]
    dsimp only
    obtain ⟨Z,hZ⟩:∃ Z,pre++(u:Int)::wj=Z:=⟨_,rfl⟩
    rw [hZ]
    exact (FLe.cv [⟨100,some 100,0,⟨0,.own,3,1,oj.map zy⟩⟩,⟨101,some 101,0,⟨0,.own,3,1,Z.map zy⟩⟩] (by repeat (first|exact .nil|refine .old rfl (by decide) rfl ?_)) (by repeat (first|exact .nil|refine .cons (.plain rfl rfl rfl) ?_|refine .cons (.own rfl (.head _) rfl rfl) ?_|refine .cons (.own rfl (.tail _ (.head _)) rfl rfl) ?_)))
  ·obtain rfl:j=r.length:=by simp at h;omega
   clear h hstep
   have he:=hend rfl
   (repeat (first|refine FW.region ?_|refine FW.exit ?_|refine zc.nil ?_|refine zb rfl rfl rfl ?_|refine za rfl rfl rfl ?_|refine zam rfl rfl rfl rfl (by decide) rfl (by exact LoR.some rfl) (by exact HiR.none) (by first|omega|(simp;done)) (by first|omega|(simp;done)) rfl rfl ?_))
   have hB':=hB.round (t:=t) hrows hlen (by simp)
   rw [he] at hB' hnext
   refine ⟨(i+1,pre++[(u:Int)]),⟨by rw [hnext];exact hB',by simp;omega⟩,by show n - (i+1)<n - i;omega,?_⟩
   dsimp only
   rw [hnext]
   dsimp only
   rw [List.length_append,List.append_assoc]
   exact (FLe.cv [⟨100,some 100,0,⟨0,.own,3,1,oj.map zy⟩⟩,⟨101,some 101,0,⟨0,.own,3,1,(pre++([(u:Int)]++wj)).map zy⟩⟩] (by repeat (first|exact .nil|refine .old rfl (by decide) rfl ?_)) (by repeat (first|exact .nil|refine .cons (.plain rfl rfl rfl) ?_|refine .cons (.own rfl (.head _) rfl rfl) ?_|refine .cons (.own rfl (.tail _ (.head _)) rfl rfl) ?_)))
 ·obtain rfl:w=[]:=by simpa using h
  (repeat (first|refine FW.seq ?_|refine FW.region ?_|refine FW.exit ?_|refine zc.nil ?_|refine zb rfl rfl rfl ?_|refine za rfl rfl rfl ?_))
  exact FW.ret ⟨.inl rfl,zio rfl rfl rfl (by simp [hol]) (by decide) (by rw [hlast rfl]) (zdV.flatsM _)⟩
end Go.Proofs.Ytmnmakhpjgjdaaa
/-
 graph.Cycle,at plain values.
-/
namespace Go.Proofs.Ytmnmakhpjgjdaaa
set_option linter.unusedVariables false
open Go.RowKit

def YK (p:Int→Bool) (r:List Int):Nat→Nat→Int
 | 0, _ => -1
 | k+1, i => if p (nth r i) then i else YK p r k (i+1)
def Vw (p:Int→Bool) (r:List Int):Int:=YK p r r.length 0
def XX (d:List Int) (st left w:Int):Bool:=decide (st<w∧nth d w.toNat=left)
theorem zej (p:Int→Bool) (r:List Int) {i:Nat} (h:i<r.length):YK p r (r.length - i) i=if p (nth r i) then (i:Int) else YK p r (r.length - (i+1)) (i+1):=by
 rw [show r.length - i=(r.length - (i+1))+1 by omega]
 rfl
set_option maxHeartbeats 4000000 in
theorem zd7 (d:List Int) (st left:Int) (w:Nat) (hw:w<d.length):yl Try.prog 72 ([.int .i64 w]++[.eptr 1 [[.int .i64 st]] 0 0,.eptr 1 [[.list 1 (d.map zy)]] 0 0,.eptr 1 [[.int .i64 left]] 0 0]) .fr (.bool (XX d st left w)):=by
 refine yl.of_body (c:=(ZJ Try.prog zH zB 17)) ⟨Try.func72,rfl,Try.ntmps72,by kernel_rfl⟩ (by simp [FV.hand]) (by exact Nat.le_of_ble_eq_true rfl) rfl ?_
 change FW _ _ _ ⟨[(0,.int .i64 w),(1,.eptr 1 [[.int .i64 st]] 0 0),(2,.eptr 1 [[.list 1 (d.map zy)]] 0 0),(3,.eptr 1 [[.int .i64 left]] 0 0)],[]⟩
 (repeat (first|refine FW.seq ?_|refine FW.region ?_|refine zc.nil ?_|refine zb rfl rfl rfl ?_|refine FW.draw ?_|refine zR rfl rfl rfl ?_|refine xU rfl rfl rfl (by simp;done) rfl rfl rfl rfl rfl ?_|refine zlf rfl rfl rfl rfl ?_))
 refine zab (fun h1=>?_) (fun h1=>?_)
 ·(repeat (first|refine zF.nil ?_|refine yT rfl rfl rfl ?_|refine ZQ rfl rfl rfl rfl ?_|refine xU rfl rfl rfl (by first|(simp;omega)|(simp;done)) (by first|exact zg (by omega)|rfl) rfl rfl rfl ⟨_,_,rfl,rfl,rfl⟩ ?_|refine zR rfl rfl ⟨_,_,rfl,rfl,rfl⟩ ?_|refine ZD rfl rfl rfl rfl rfl rfl (by first|(simp;omega)|(simp;done)) rfl ⟨_,_,rfl,rfl,rfl⟩ ?_|refine zia rfl rfl rfl ⟨_,_,rfl,rfl,rfl⟩ ?_))
  refine ⟨by kernel_rfl,?_⟩
  skip
  refine FW.ret ⟨.inl rfl,yb rfl rfl ?_ rfl⟩
  have h1' : st<(w:Int):=by simpa using h1
  simp [XX,h1'];rfl
 ·(repeat (first|refine zF.nil ?_|refine yT rfl rfl rfl ?_|refine ZP rfl rfl rfl rfl ?_|refine Xb rfl rfl ⟨_,_,rfl,rfl,rfl⟩ ?_))
  refine ⟨by kernel_rfl,?_⟩
  skip
  refine FW.ret ⟨.inl rfl,yb rfl rfl ?_ rfl⟩
  have h1' : ¬ st<(w:Int):=by simpa using h1
  simp [XX,h1'];rfl
set_option maxHeartbeats 4000000 in
theorem XM (r:List Int) (cf:Nat) (caps:List FV) (p:Int→Bool) (hr:r.length≤1000000) (hp:∀ x∈r,yl Try.prog cf ([.int .i64 x]++caps) .fr (.bool (p x))):yl Try.prog 64 [.list 1 (r.map zy),.fn cf caps] .fr (.int .i64 (Vw p r)):=by
 refine yl.of_body (c:=(ZJ Try.prog zH zB 19)) ⟨Try.func64,rfl,Try.ntmps64,by kernel_rfl⟩ (by simp [FV.hand]) (by exact Nat.le_of_ble_eq_true rfl) rfl ?_
 change FW _ _ _ ⟨[(0,.list 1 (r.map zy)),(1,.fn cf caps)],[]⟩
 (repeat (first|refine FW.seq ?_|refine FW.region ?_|refine FW.block ?_|refine zc.nil ?_|refine zb rfl rfl rfl ?_|refine za rfl rfl rfl ?_|refine zu rfl rfl (by exact List.length_map _) rfl rfl ?_))
 refine FW.loop (fun i:Nat=>⟨[(0,.list 1 (r.map zy)),(1,.fn cf caps),(7,.int .i64 r.length),(8,.int .i64 i)],[]⟩) (fun i=>i≤r.length∧YK p r (r.length - i) i=Vw p r) (fun i=>r.length - i) 0 ⟨Nat.zero_le _,rfl⟩ (FLe.cv [] (by repeat (first|exact .nil)) (by repeat (first|exact .nil|refine .cons (.plain rfl rfl rfl) ?_))) ?_
 rintro i ⟨hi,hf⟩
 (repeat (first|refine FW.seq ?_|refine FW.region ?_|refine zc.nil ?_|refine zX rfl rfl rfl rfl ?_))
 refine FW.cond rfl (fun h=>?_) (fun h=>?_)
 ·have hlt:i<r.length:=by simpa using h
  clear h
  have hpi:=hp _ (zC hlt)
  rw [zej p r hlt] at hf
  (repeat (first|refine FW.seq ?_|refine FW.region ?_|refine FW.block ?_|refine FW.skip ?_|refine zc.nil ?_|refine zb rfl rfl rfl ?_|refine za rfl rfl rfl ?_|refine zp rfl rfl rfl rfl rfl rfl (by simp;omega) rfl rfl ?_|refine zm rfl rfl rfl (by simp;omega) (by first|exact zg (by omega)|rfl) rfl rfl rfl rfl ?_))
  refine zfp rfl hpi (by repeat (first|exact zG.nil|refine zG.cons (by exact Zg.plain rfl rfl) ?_)) rfl rfl ?_
  (repeat (first|refine zc.nil ?_))
  refine FW.cond rfl (fun h=>?_) (fun h=>?_)
  ·(repeat (first|refine FW.seq ?_|refine FW.region ?_|refine zc.nil ?_|refine zb rfl rfl rfl ?_|refine za rfl rfl rfl ?_))
   rw [if_pos h] at hf
   exact FW.ret ⟨.inl rfl,yb rfl rfl (congrArg (FV.int .i64) hf) rfl⟩
  ·(repeat (first|refine FW.region ?_|refine FW.skip ?_|refine zc.nil ?_|refine za rfl rfl rfl ?_|refine zq rfl rfl (by omega) rfl rfl ?_))
   rw [if_neg (by rw [h];decide)] at hf
   refine ⟨i+1,⟨by omega,hf⟩,by omega,?_⟩
   exact (FLe.cv [] (by repeat (first|exact .nil)) (by repeat (first|exact .nil|refine .cons (.plain rfl rfl rfl) ?_)))
 ·obtain rfl:i=r.length:=by simp at h;omega
  rw [Nat.sub_self] at hf
  (repeat (first|refine FW.seq ?_|refine FW.region ?_|refine FW.exit ?_|refine zc.nil ?_|refine zb rfl rfl rfl ?_))
  exact FW.ret ⟨.inl rfl,yb rfl rfl (by rw [← hf];rfl) rfl⟩
end Go.Proofs.Ytmnmakhpjgjdaaa
/-
 graph.Cycle as a plain function;that its way never ends too soon.
-/
namespace Go.Proofs.Ytmnmakhpjgjdaaa
set_option linter.unusedVariables false

theorem xf {E:List (Nat×Nat)} {v:Nat} {x:Int}:x∈zn E v↔∃ e∈E,e.1=v∧(e.2:Int)=x:=by
 unfold zn zjK Yi
 rw [zd4,List.mem_mergeSort,List.take_length,List.mem_map]
 constructor
 ·rintro ⟨e,he,rfl⟩
  obtain ⟨h1,h2⟩:=List.mem_filter.1 he
  exact ⟨e,h1,by simpa using h2,rfl⟩
 ·rintro ⟨e,h1,h2,rfl⟩
  exact ⟨e,List.mem_filter.2 ⟨h1,by simpa using h2⟩,rfl⟩
theorem zdS (E:List (Nat×Nat)) (v:Nat):(zn E v).Pairwise (· < ·):=zd3 (ziI _)
def zL (n:Nat) (E:List (Nat×Nat)):List (List Int):=(List.range n).map (zn E)
theorem yh (n:Nat) (E:List (Nat×Nat)):(zL n E).length=n:=by simp [zL]
theorem Zq {n v:Nat} (E:List (Nat×Nat)) (h:v<n):nth (zL n E) v=zn E v:=by
 rw [nth_eq (by rw [yh];exact h)]
 simp [zL]
def InN (n:Nat) (E:List (Nat×Nat)):Prop:=∀ e∈E,e.1<n∧e.2<n
theorem yu {n:Nat} {E:List (Nat×Nat)} (h:InN n E) {v:Nat} {x:Int} (hx:x∈zn E v):0≤x∧x<n:=by
 obtain ⟨e,he,_,rfl⟩:=xf.1 hx
 have:=(h e he).2
 omega
theorem Zd {n:Nat} {E:List (Nat×Nat)} (h:InN n E):∀ r∈zL n E,∀ v∈r,(0:Int)≤v∧v<n:=fun r hr v hv=>by
 obtain ⟨u,_,rfl⟩:=List.mem_map.1 hr
 exact yu h hv
theorem Xh (E:List (Nat×Nat)) (v:Nat):(zn E v).length≤E.length:=Nat.le_trans (ziH _) (zao E v _)
theorem ziz (n:Nat) (E:List (Nat×Nat)):∀ r∈zL n E,r.length≤E.length:=fun r hr=>by
 obtain ⟨u,_,rfl⟩:=List.mem_map.1 hr
 exact Xh E u
def yP (E:List (Nat×Nat)):List (Nat×Nat):=E.map fun e=>(e.2,e.1)
theorem xG {n:Nat} {E:List (Nat×Nat)} (h:InN n E):InN n (yP E):=fun e he=>by
 obtain ⟨q,hq,rfl⟩:=List.mem_map.1 he
 exact ⟨(h q hq).2,(h q hq).1⟩
theorem zbG {E:List (Nat×Nat)} {u v:Nat}:(v:Int)∈zn (yP E) u↔(u:Int)∈zn E v:=by
 rw [xf,xf]
 constructor
 ·rintro ⟨e,he,h1,h2⟩
  obtain ⟨q,hq,rfl⟩:=List.mem_map.1 he
  dsimp only at h1 h2
  exact ⟨q,hq,by omega,by omega⟩
 ·rintro ⟨q,hq,h1,h2⟩
  exact ⟨_,List.mem_map.2 ⟨q,hq,rfl⟩,by dsimp only;omega,by dsimp only;omega⟩
def zN (n:Nat) (E:List (Nat×Nat)) (st:Nat):List Int:=dist (zL n (yP E)) n st
theorem Um {n:Nat} {E:List (Nat×Nat)} (h:InN n E) {st:Nat} (hs:st<n):(zN n E st).length=n:=by
 obtain ⟨_,_,i,h3⟩:=Yt hs (Zd (xG h)) (yh n _)
 exact h3.len
theorem zcH {n:Nat} {E:List (Nat×Nat)} (h:InN n E) {st:Nat} (hs:st<n) {v:Nat} (hv:v<n):-1≤nth (zN n E st) v∧nth (zN n E st) v<n:=by
 obtain ⟨_,_,i,h3⟩:=Yt hs (Zd (xG h)) (yh n _)
 have h4:-1≤nth (zN n E st) v∧nth (zN n E st) v<xQ (zN n E st):=h3.nth hv
 have h5:xQ (zN n E st)≤(zN n E st).length:=List.countP_le_length
 rw [Um h hs] at h5
 omega
theorem Un {n:Nat} {E:List (Nat×Nat)} (h:InN n E) {st:Nat} (hs:st<n) {v:Nat} (hv:v<n) (h1:1≤nth (zN n E st) v):∃ u,u<n∧(u:Int)∈zn E v∧nth (zN n E st) u=nth (zN n E st) v - 1:=by
 obtain ⟨_,h2,_⟩:=Yt hs (Zd (xG h)) (yh n _)
 obtain ⟨u,hu,hm,e⟩:=h2.par v hv h1
 rw [Zq _ hu] at hm
 exact ⟨u,hu,zbG.1 hm,e⟩
theorem Wp {n:Nat} {E:List (Nat×Nat)} (h:InN n E) {st:Nat} (hs:st<n) {v:Nat} (hv:v<n) (h1:1≤nth (zN n E st) v):st<v:=by
 obtain ⟨_,h2,_⟩:=Yt hs (Zd (xG h)) (yh n _)
 by_cases e:v=st
 ·subst e
  have h0:nth (zN n E v) v=0:=h2.tz
  omega
 ·exact (h2.big v hv (by have h1' : 1≤nth (bfs (zL n (yP E)) st (n+1) (yj n st)).1 v:=h1;omega) e).1
theorem Uu {p:Int→Bool} {r:List Int}:∀ {k i:Nat},i+k=r.length→(∃ j,i≤j∧j<r.length∧p (nth r j)=true)→∃ j,i≤j∧j<r.length∧YK p r k i=j∧p (nth r j)=true
 | 0, i, hk, ⟨j, h1, h2, _⟩ => by omega
 | k + 1,i,hk,⟨j,h1,h2,h3⟩=>by
  unfold YK
  by_cases hp:p (nth r i)=true
  ·exact ⟨i,Nat.le_refl _,by omega,by rw [if_pos hp],hp⟩
  ·rw [if_neg hp]
   obtain ⟨q,q1,q2,q3,q4⟩:=Uu (p:=p) (r:=r) (k:=k) (i:=i+1) (by omega) ⟨j,by
    rcases Nat.lt_or_ge i j with h|h
    ·exact h
    ·obtain rfl:i=j:=by omega
     exact absurd h3 hp,h2,h3⟩
   exact ⟨q,by omega,q2,q3,q4⟩
theorem XS {p:Int→Bool} {r:List Int} {x:Int} (hx:x∈r) (hp:p x=true):∃ j,j<r.length∧Vw p r=j∧p (nth r j)=true:=by
 obtain ⟨j,hj,rfl⟩:=List.getElem_of_mem hx
 obtain ⟨q,_,q2,q3,q4⟩:=Uu (p:=p) (r:=r) (k:=r.length) (i:=0) (by omega) ⟨j,Nat.zero_le _,hj,by rw [nth_eq hj];exact hp⟩
 exact ⟨q,q2,q3,q4⟩

def yi (d:List Int) (st len w:Int):Int:=if (st≤w∧0≤nth d w.toNat)∧(len=0∨nth d w.toNat+1<len) then nth d w.toNat+1 else len
def yZ (d:List Int) (st:Int) (row:List Int):Int:=row.foldl (yi d st) 0
def xw (E:List (Nat×Nat)) (d:List Int) (st left:Int) (v:Nat):Nat:=(nth (zn E v) (Vw (XX d st left) (zn E v)).toNat).toNat
def ZM (E:List (Nat×Nat)) (d:List Int) (st:Int):Nat→Nat→List Int
 | 0, _ => []
 | k+1, v => (xw E d st (k+1:Nat) v:Int) :: ZM E d st k (xw E d st (k+1:Nat) v)
def Way (E:List (Nat×Nat)) (d:List Int) (st:Int) (left:Nat) (v:Nat):Prop:=left=0∨∃ w∈zn E v,XX d st left w=true
theorem Way.step {n:Nat} {E:List (Nat×Nat)} (h:InN n E) {st:Nat} (hs:st<n) {k v:Nat} (hw:Way E (zN n E st) st (k+1) v) :
  ∃ j,j<(zn E v).length∧Vw (XX (zN n E st) st (k+1:Nat)) (zn E v)=j∧nth (zn E v) j=(xw E (zN n E st) st (k+1:Nat) v:Int)∧xw E (zN n E st) st (k+1:Nat) v<n∧Way E (zN n E st) st k (xw E (zN n E st) st (k+1:Nat) v):=by
 rcases hw with h0|⟨w,hw,hp⟩
 ·omega
 obtain ⟨j,hj,e,hq⟩:=XS hw hp
 have hin:=yu h (zC hj)
 have hst:xw E (zN n E st) st (k+1:Nat) v=(nth (zn E v) j).toNat:=by unfold xw;rw [e];rfl
 rw [hst]
 refine ⟨j,hj,e,by omega,by omega,?_⟩
 rcases Nat.eq_zero_or_pos k with rfl|hk
 ·exact .inl rfl
 ·unfold XX at hq
  rw [decide_eq_true_eq] at hq
  obtain ⟨u,hu,hm,hd⟩:=Un h hs (v:=(nth (zn E v) j).toNat) (by omega) (by omega)
  refine .inr ⟨u,hm,?_⟩
  have hb:=Wp h hs hu (by omega)
  unfold XX
  rw [decide_eq_true_eq,Int.toNat_natCast]
  omega
theorem zbC (d:List Int) (st:Int):∀ (row:List Int) (len:Int),row.foldl (yi d st) len=len∨∃ w∈row,st≤w∧0≤nth d w.toNat∧row.foldl (yi d st) len=nth d w.toNat+1
 | [], len => .inl rfl
 | w::row,len=>by
  rw [List.foldl_cons]
  rcases zbC d st row (yi d st len w) with h|⟨x,hx,h1,h2,h3⟩
  ·rw [h]
   unfold yi
   split
   ·rename_i hc
    exact .inr ⟨w,by simp,hc.1.1,hc.1.2,rfl⟩
   ·exact .inl rfl
  ·exact .inr ⟨x,by simp [hx],h1,h2,h3⟩
theorem Ve (d:List Int) (st:Int) (row:List Int):yZ d st row=0∨∃ w∈row,st≤w∧0≤nth d w.toNat∧yZ d st row=nth d w.toNat+1:=zbC d st row 0
theorem Yy {n:Nat} {E:List (Nat×Nat)} (h:InN n E) {st:Nat} (hs:st<n) (h0:yZ (zN n E st) st (zn E st)≠0) :
  ∃ k:Nat,yZ (zN n E st) st (zn E st)=(k+1:Nat)∧k<n∧Way E (zN n E st) st k st:=by
 rcases Ve (zN n E st) st (zn E st) with e|⟨w,hw,h1,h2,h3⟩
 ·exact absurd e h0
 ·have hin:=yu h hw
  have hr:=zcH h hs (v:=w.toNat) (by omega)
  refine ⟨(nth (zN n E st) w.toNat).toNat,by omega,by omega,?_⟩
  rcases Int.lt_or_le 0 (nth (zN n E st) w.toNat) with hp|hp
  ·have hb:=Wp h hs (v:=w.toNat) (by omega) (by omega)
   refine .inr ⟨w,hw,?_⟩
   unfold XX
   rw [decide_eq_true_eq]
   omega
  ·exact .inl (by omega)
def XP (n:Nat) (E:List (Nat×Nat)) (best:List Int) (st:Nat):List Int:=
 let L:=yZ (zN n E st) st (zn E st)
 if L=0∨(best≠[]∧(best.length:Int)≤L) then best else (st:Int)::ZM E (zN n E st) st (L.toNat - 1) st
def zcW (n:Nat) (E:List (Nat×Nat)):List Int:=(List.range n).foldl (XP n E) []
theorem WS (E:List (Nat×Nat)) (d:List Int) (st:Int):∀ (k v:Nat),(ZM E d st k v).length=k
 | 0, _ => rfl
 | k+1, v => by unfold ZM; rw [List.length_cons, WS]
theorem zd6 {n:Nat} {E:List (Nat×Nat)} (h:InN n E) {st:Nat} (hs:st<n) {best:List Int} (hb:best.length≤n):(XP n E best st).length≤n:=by
 unfold XP
 dsimp only
 split
 ·exact hb
 ·rename_i hc
  obtain ⟨k,e,hk,_⟩:=Yy h hs (fun e=>hc (.inl e))
  rw [List.length_cons,WS,e]
  omega
end Go.Proofs.Ytmnmakhpjgjdaaa
/-
 Breadth first search finds the shortest distances.
-/
namespace Go.Proofs.Ytmnmakhpjgjdaaa
set_option linter.unusedVariables false

structure QI (rows:List (List Int)) (t n:Nat) (s:List Int×List Int):Prop where
 sorted:s.2.Pairwise fun a b=>nth s.1 a.toNat≤nth s.1 b.toNat
 top:∀ u w,s.2=u::w→∀ v,v<n→nth s.1 v≤nth s.1 u.toNat+1
 done:∀ q:Nat,q<n→0≤nth s.1 q→(q:Int)∉s.2→∀ v∈nth rows q,(t:Int)<v→0≤nth s.1 v.toNat∧nth s.1 v.toNat≤nth s.1 q+1
structure RI (rows:List (List Int)) (t n u:Nat) (dn:List Int) (s:List Int×List Int):Prop where
 hd:∃ w,s.2=(u:Int)::w
 sorted:s.2.Pairwise fun a b=>nth s.1 a.toNat≤nth s.1 b.toNat
 top:∀ v,v<n→nth s.1 v≤nth s.1 u+1
 old:∀ q:Nat,q<n→0≤nth s.1 q→(q:Int)∉s.2→∀ v∈nth rows q,(t:Int)<v→0≤nth s.1 v.toNat∧nth s.1 v.toNat≤nth s.1 q+1
 part:∀ v∈dn,(t:Int)<v→0≤nth s.1 v.toNat∧nth s.1 v.toNat≤nth s.1 u+1
theorem RI.relax {rows:List (List Int)} {t n i u v:Nat} {dn:List Int} {s:List Int×List Int} (h:RI rows t n u dn s) (hB:BI n i s) (hW:∀ w∈s.2,0≤nth s.1 w.toNat) (hu:u<n) (hv:v<n) (hrows:∀ r∈rows,∀ x∈r,(0:Int)≤x∧x<n) (hdn:∀ x∈dn,(0:Int)≤x∧x<n) :
  RI rows t n u (dn++[(v:Int)]) (Proofs.Ytmnmakhpjgjdaaa.relax t u s v):=by
 obtain ⟨w,hw⟩:=h.hd
 have hu0:0≤nth s.1 u:=by have:=hW u (by rw [hw];simp);simpa using this
 unfold Proofs.Ytmnmakhpjgjdaaa.relax
 by_cases hc:(t:Int)<v∧nth s.1 (v:Int).toNat<0
 ·rw [if_pos hc]
  simp only [Int.toNat_natCast] at hc ⊢
  have hvl:v<s.1.length:=by rw [hB.len];exact hv
  have hsame:nth (s.1.set v (nth s.1 u+1)) v=nth s.1 u+1:=zE hvl
  have hne:∀ q:Nat,q≠v→nth (s.1.set v (nth s.1 u+1)) q=nth s.1 q:=fun q hq=>zK (fun e=>hq e.symm)
  have hpos:∀ q:Nat,0≤nth s.1 q→nth (s.1.set v (nth s.1 u+1)) q=nth s.1 q:=fun q hq=>hne q (fun e=>by subst e;omega)
  have huu:nth (s.1.set v (nth s.1 u+1)) u=nth s.1 u:=hpos u hu0
  refine ⟨⟨w++[(v:Int)],by rw [hw];rfl⟩,?_,fun q hq=>?_,fun q hq h0 hm x hx htx=>?_,fun x hx htx=>?_⟩
  ·dsimp only
   refine List.pairwise_append.2 ⟨?_,by simp,fun a ha b hb=>?_⟩
   ·refine h.sorted.imp_of_mem fun {a b} ha hb hab=>?_
    rw [hpos _ (hW a ha),hpos _ (hW b hb)];exact hab
   ·rw [List.mem_singleton.1 hb,Int.toNat_natCast,hsame,hpos _ (hW a ha)]
    have:=hB.wk a ha
    exact h.top _ (by omega)
  ·dsimp only
   rw [huu]
   by_cases e:q=v
   ·subst e;rw [hsame];omega
   ·rw [hne q e];exact h.top q hq
  ·dsimp only at h0 hm ⊢
   have hqv:q≠v:=fun e=>hm (by subst e;simp)
   rw [hne q hqv] at h0 ⊢
   obtain ⟨k1,k2⟩:=h.old q hq h0 (fun hm2=>hm (List.mem_append_left _ hm2)) x hx htx
   rw [hpos _ k1];exact ⟨k1,k2⟩
  ·dsimp only
   rw [huu]
   rcases List.mem_append.1 hx with hx|hx
   ·obtain ⟨k1,k2⟩:=h.part x hx htx
    rw [hpos _ k1];exact ⟨k1,k2⟩
   ·rw [List.mem_singleton.1 hx,Int.toNat_natCast,hsame];omega
 ·rw [if_neg hc]
  refine ⟨h.hd,h.sorted,h.top,h.old,fun x hx htx=>?_⟩
  rcases List.mem_append.1 hx with hx|hx
  ·exact h.part x hx htx
  ·rw [List.mem_singleton.1 hx] at htx ⊢
   rw [Int.toNat_natCast] at hc ⊢
   have h1:¬ nth s.1 v<0:=fun q=>hc ⟨htx,q⟩
   exact ⟨by omega,h.top v hv⟩
theorem RI.fold {rows:List (List Int)} {t n i u:Nat} (hu:u<n) (hrows:∀ r∈rows,∀ x∈r,(0:Int)≤x∧x<n):∀ {l dn:List Int} {s:List Int×List Int},RI rows t n u dn s→BI n i s→PI rows t n s→0≤nth s.1 u→(∀ v∈l,v∈nth rows u∧0≤v∧v<n)→(∀ x∈dn,(0:Int)≤x∧x<n)→RI rows t n u (dn++l) (l.foldl (Proofs.Ytmnmakhpjgjdaaa.relax t u) s)
 | [], dn, s, h, _, _, _, _, _ => by rw [List.append_nil]; exact h
 | v::l,dn,s,h,hB,hP,h0,hl,hdn=>by
  obtain ⟨m1,m2,m3⟩:=hl v (by simp)
  obtain ⟨v,rfl⟩:∃ v' : Nat,v=v':=⟨v.toNat,by omega⟩
  have h1:=h.relax hB hP.wk hu (v:=v) (by omega) hrows hdn
  have h2:=RI.fold (i:=i) hu hrows (l:=l) h1 (hB.relax ⟨by omega,by omega⟩ ⟨m2,m3⟩) (hP.relax hB hu (by omega) h0 m1) (by rw [zaf h0];exact h0) (fun x hx=>hl x (by simp [hx])) (fun x hx=>by
   rcases List.mem_append.1 hx with hx|hx
   ·exact hdn x hx
   ·rw [List.mem_singleton.1 hx];omega)
  rw [List.append_assoc] at h2
  exact h2
theorem QI.round {rows:List (List Int)} {t n i:Nat} (hrows:∀ r∈rows,∀ v∈r,(0:Int)≤v∧v<n) (hlen:rows.length=n) {s:List Int×List Int} (h:QI rows t n s) (hB:BI n i s) (hP:PI rows t n s):QI rows t n (Uh rows t s):=by
 obtain ⟨o,w⟩:=s
 cases w with
 | nil => exact h
 | cons u w=>
  have hu:=hB.wk u (by simp)
  obtain ⟨u,rfl⟩:∃ u' : Nat,u=u':=⟨u.toNat,by omega⟩
  have hm:=zC (l:=rows) (i:=u) (by omega)
  have hu0:0≤nth o u:=by have:=hP.wk (u:Int) (by simp);simpa using this
  have hR0:RI rows t n u [] (o,(u:Int)::w):=⟨⟨w,rfl⟩,h.sorted,fun v hv=>by have:=h.top u w rfl v hv;simpa using this,h.done,fun v hv=>by cases hv⟩
  have hR:=RI.fold (i:=i) (by omega) hrows (l:=nth rows u) hR0 hB hP hu0 (fun v hv=>⟨hv,hrows _ hm v hv⟩) (fun x hx=>by cases hx)
  rw [List.nil_append] at hR
  show QI rows t n (((nth rows u).foldl (Proofs.Ytmnmakhpjgjdaaa.relax t u) (o,(u:Int)::w)).1,((nth rows u).foldl (Proofs.Ytmnmakhpjgjdaaa.relax t u) (o,(u:Int)::w)).2.tail)
  obtain ⟨o',w',e⟩:=Wv (t:=t) (u:=u) (x:=u) (l:=nth rows u) (o:=o) (w:=w)
  rw [e] at hR ⊢
  have hsr:=hR.sorted
  dsimp only at hsr
  obtain ⟨s1,s2⟩:=List.pairwise_cons.1 hsr
  refine ⟨s2,fun x r hx v hv=>?_,fun q hq h0 hnm v hv htv=>?_⟩
  ·have hx' : w'=x::r:=hx
   have h1:=hR.top v hv
   have h2:=s1 x (by rw [hx'];simp)
   rw [Int.toNat_natCast] at h2
   dsimp only at h1 ⊢
   omega
  ·have hnm' : (q:Int)∉w':=hnm
   by_cases hqu:q=u
   ·subst hqu
    exact hR.part v hv htv
   ·exact hR.old q hq h0 (fun hmem=>by
     rcases List.mem_cons.1 hmem with e2|e2
     ·exact hqu (by omega)
     ·exact hnm' e2) v hv htv
theorem QI.start {rows:List (List Int)} {n t:Nat} (ht:t<n):QI rows t n (yj n t):=by
 have h1:∀ v,v<n→v≠t→nth (yj n t).1 v = -1:=fun v hv hne=>by
  show nth ((List.replicate n (-1)).set t 0) v = -1
  rw [zK (fun e=>hne e.symm),nth_eq (by simpa using hv)];simp
 have h2:nth (yj n t).1 t=0:=zE (by simpa using ht)
 refine ⟨by simp [yj],fun u w hu v hv=>?_,fun q hq h0 hm=>?_⟩
 ·have:u=(t:Int):=by have hu' : [(t:Int)]=u::w:=hu;injection hu' with e _;exact e.symm
  rw [this,Int.toNat_natCast,h2]
  by_cases e:v=t
  ·subst e;rw [h2];omega
  ·rw [h1 v hv e];omega
 ·by_cases e:q=t
  ·subst e;exact absurd (by simp [yj]) hm
  ·rw [h1 q hq e] at h0;omega
theorem zkY {rows:List (List Int)} {n t:Nat} (ht:t<n) (hrows:∀ r∈rows,∀ v∈r,(0:Int)≤v∧v<n) (hlen:rows.length=n):∀ k,QI rows t n (bfs rows t k (yj n t))
 | 0 => QI.start ht
 | k+1 => by
  rw [zbM]
  obtain ⟨i,_,hB,hP,_⟩:=zd1 ht hrows hlen k
  exact (zkY ht hrows hlen k).round hrows hlen hB hP
theorem WW {n:Nat} {E:List (Nat×Nat)} (h:InN n E) {st:Nat} (hs:st<n) {u v:Nat} (hu:u<n) (hv:v<n) (hm:(u:Int)∈zn E v) (hsv:st<v) (h0:0≤nth (zN n E st) u):0≤nth (zN n E st) v∧nth (zN n E st) v≤nth (zN n E st) u+1:=by
 have hr:=Zd (xG h)
 have hl:=yh n (yP E)
 obtain ⟨he,_⟩:=Yt hs hr hl
 have hq:=zkY hs hr hl (n+1)
 have:=hq.done u hu h0 (by rw [he];simp) (v:Int) (by rw [Zq _ hu];exact zbG.2 hm) (by omega)
 rw [Int.toNat_natCast] at this
 exact this
theorem zeV {n:Nat} {E:List (Nat×Nat)} (h:InN n E) {st:Nat} (hs:st<n):nth (zN n E st) st=0:=by
 obtain ⟨_,h2,_⟩:=Yt hs (Zd (xG h)) (yh n _)
 exact h2.tz
theorem za1 {n:Nat} {E:List (Nat×Nat)} (h:InN n E) {st:Nat} (hs:st<n) {v:Nat} (hv:v<n) (h0:nth (zN n E st) v=0):v=st:=by
 obtain ⟨_,h2,_⟩:=Yt hs (Zd (xG h)) (yh n _)
 by_cases e:v=st
 ·exact e
 ·have h0' : nth (bfs (zL n (yP E)) st (n+1) (yj n st)).1 v=0:=h0
  have:=h2.big v hv (by omega) e
  omega
end Go.Proofs.Ytmnmakhpjgjdaaa
