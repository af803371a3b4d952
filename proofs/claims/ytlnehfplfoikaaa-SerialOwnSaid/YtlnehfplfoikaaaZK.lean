/-
  Some texts as one: FmRep, GPlain, FmDist, FmCycle, CycPlain, GPlain2.
-/
import Derived.Test.YtlnehfplfoikaaaZG
import Derived.Test.YtlnehfplfoikaaaZD
import Derived.Test.YtlnehfplfoikaaaZA
namespace Go.Proofs.Ytlnehfplfoikaaa
set_option linter.unusedVariables false
set_option maxHeartbeats 16000000
section
open Go.RowKit
theorem zeG (n:Nat) (hn:n≤14):zY Try.prog 73 [.int .u64 1,.int .u64 n] .fr (.tup [.int .u64 0,.int .u64 n]):=by
 refine zY.of_body (c:=(xa Try.prog zD zq 51)) ⟨Try.func73,rfl,Try.ntmps73,by kernel_rfl⟩ zC zp rfl ?_;change FW _ _ _ ⟨[(0,.int .u64 1),(1,.int .u64 n)],[]⟩;have hc:n=0∨n=1∨n=2∨n=3∨n=4∨n=5∨n=6∨n=7∨n=8∨n=9∨n=10∨n=11∨n=12∨n=13∨n=14:=by omega
 clear hn;refine yd ?_;refine zO rfl rfl rfl ?_;refine zO rfl rfl rfl ?_;refine yd ?_;refine zG rfl rfl rfl ?_;refine VH rfl rfl rfl rfl ?_;refine zO rfl rfl rfl ?_;refine yd ?_;refine zG rfl rfl rfl ?_;refine UY rfl rfl zb rfl rfl ?_;refine zO rfl rfl rfl ?_;refine yd ?_;refine zG rfl rfl rfl ?_;refine VH rfl rfl rfl rfl ?_;refine zO rfl rfl rfl ?_;refine yd ?_;refine zG rfl rfl rfl ?_;refine UY rfl rfl zb rfl rfl ?_;refine zO rfl rfl rfl ?_;refine yd ?_;refine zG rfl rfl rfl ?_;refine zG rfl rfl rfl ?_;refine VP rfl rfl rfl rfl ?_;refine zO rfl rfl rfl ?_;refine yd ?_;refine zG rfl rfl rfl ?_;refine zG rfl rfl rfl ?_;refine VP rfl rfl rfl rfl ?_;refine zG rfl rfl rfl ?_;refine UY rfl rfl zb rfl rfl ?_;refine zaL rfl rfl rfl rfl ?_;refine zO rfl rfl rfl ?_;refine yd ?_;refine zG rfl rfl rfl ?_;refine VH rfl rfl rfl rfl ?_;refine zO rfl rfl rfl ?_;refine yd ?_;refine zG rfl rfl rfl ?_;refine UY rfl rfl zb rfl rfl ?_;refine zO rfl rfl rfl ?_;refine yd ?_;refine zG rfl rfl rfl ?_;refine zG rfl rfl rfl ?_;refine zG rfl rfl rfl ?_;refine VP rfl rfl rfl rfl ?_;refine zaL rfl rfl rfl rfl ?_;refine zO rfl rfl rfl ?_;refine yd ?_;refine zG rfl rfl rfl ?_;refine zG rfl rfl rfl ?_;refine VP rfl rfl rfl rfl ?_;refine zG rfl rfl rfl ?_;refine zaL rfl rfl rfl rfl ?_;refine zG rfl rfl rfl ?_;refine UY rfl rfl zb rfl rfl ?_;refine zaL rfl rfl rfl rfl ?_;refine zO rfl rfl rfl ?_;refine yd ?_;refine zG rfl rfl rfl ?_;refine zG rfl rfl rfl ?_;refine VP rfl rfl rfl rfl ?_;refine zO rfl rfl rfl ?_;refine yd ?_;refine FW.ret ⟨.inl rfl,.flat (.cons (.tmp 4 rfl rfl) (.cons (.tmp 5 rfl rfl) .nil)) ?_ rfl⟩;rcases hc with rfl|rfl|rfl|rfl|rfl|rfl|rfl|rfl|rfl|rfl|rfl|rfl|rfl|rfl|rfl <;> rfl
theorem zhi (n:Nat) (hn:n≤14):zY Try.prog 60 [.int .u64 1,.int .u64 n] .fr (.tup [.int .u64 0,.int .u64 n]):=by
 refine zY.of_body (c:=(xa Try.prog zD zq 30)) ⟨Try.func60,rfl,Try.ntmps60,by kernel_rfl⟩ zC zp rfl ?_;change FW _ _ _ ⟨[(0,.int .u64 1),(1,.int .u64 n)],[]⟩;refine za ?_;refine zV (zeG n hn) yN rfl rfl ?_;refine za ?_;exact FW.ret ⟨.inl rfl,.flat (.cons (.tmp 4 rfl rfl) (.cons (.tmp 5 rfl rfl) .nil)) rfl rfl⟩
theorem zeU (n k:Nat) (a b:List FV) (h1:k≤n):splice (List.replicate k a++List.replicate (n - k) b) k ((List.replicate k a).take (n - k))=List.replicate (min n (2 * k)) a++List.replicate (n - min n (2 * k)) b:=by
 unfold splice;rw [List.take_append_of_le_length zc,List.take_of_length_le zc,List.drop_append,List.take_replicate,List.length_replicate,List.length_replicate];rw [List.drop_of_length_le (by simp <;> omega),List.nil_append,List.drop_replicate,List.replicate_append_replicate];congr 1
 ·congr 1;omega
 ·congr 1;omega
theorem zc4 (n:Nat) (hn:n≤14):zY Try.prog 52 [.list 1 [[.int .i64 (-1)]],.int .i64 n] (.ow 3 1) (.list 1 (List.replicate n [.int .i64 (-1)])):=by
 refine zY.of_body (c:=(xa Try.prog zD zq 48)) ⟨Try.func52,rfl,Try.ntmps52,by kernel_rfl⟩ zC zp rfl ?_;change FW _ _ _ ⟨[(0,.list 1 [[.int .i64 (-1)]]),(1,.int .i64 n)],[]⟩;refine za ?_;refine zV (zhi n hn) yN rfl rfl ?_;refine za ?_;refine FW.cond rfl (fun h=>?_) (fun h=>?_)
 ·simp at h;omega
 refine za ?_;have hs:splice (List.replicate n [FV.int .i64 0]) 0 (List.take n [[FV.int .i64 (-1)]])=List.replicate (min n 1) [FV.int .i64 (-1)]++List.replicate (n - min n 1) [FV.int .i64 0]:=by
  have hc:n=0∨n=1∨n=2∨n=3∨n=4∨n=5∨n=6∨n=7∨n=8∨n=9∨n=10∨n=11∨n=12∨n=13∨n=14:=by omega
  rcases hc with rfl|rfl|rfl|rfl|rfl|rfl|rfl|rfl|rfl|rfl|rfl|rfl|rfl|rfl|rfl <;> rfl
 have hl:(List.take n [[FV.int .i64 (-1)]]).length=min n 1:=by simp
 rw [hs,hl];refine FW.loop (fun k:Nat=>⟨[(7,.own 100 0 0 n),(8,.int .i64 k)],[(100,⟨0,.own,3,1,List.replicate k [.int .i64 (-1)]++List.replicate (n - k) [.int .i64 0]⟩)]⟩) (fun k=>k≤n∧(1≤k∨n=0)) (fun k=>n - k) (min n 1) ⟨by omega,by omega⟩ (FLe.cv [⟨100,some 30,0+1,⟨0,.own,3,1,List.replicate (min n 1) [.int .i64 (-1)]++List.replicate (n - min n 1) [.int .i64 0]⟩⟩] zf zd) ?_;rintro k ⟨hk,hk1⟩;refine za ?_;refine FW.cond rfl (fun h=>?_) (fun h=>?_)
 ·have hlt:k<n:=by simpa using h
  clear h;have hsp:=zeU n k [FV.int .i64 (-1)] [FV.int .i64 0] hk;refine yf ?_;refine ziW rfl rfl zI rfl rfl ?_;refine Vy rfl rfl rfl ?_;refine zK.nil ⟨by kernel_rfl,?_⟩;have e1:(List.take (n - k) (List.take (k - 0) (List.drop (0+0) (List.replicate k [FV.int .i64 (-1)]++List.replicate (n - k) [FV.int .i64 0]))))=(List.replicate k [FV.int .i64 (-1)]).take (n - k):=by
   rw [Nat.add_zero,List.drop_zero,Nat.sub_zero,List.take_append_of_le_length zc,List.take_of_length_le (by simp:(List.replicate k [FV.int .i64 (-1)]).length≤k)]
  have e2:(((List.replicate k [FV.int .i64 (-1)]).take (n - k)).length:Int)=((min n (2 * k) - k:Nat):Int):=by
   rw [List.length_take,List.length_replicate];omega
  rw [e1,e2,show 0+k=k from Nat.zero_add k,hsp];have e3:(k:Int)+((min n (2 * k) - k:Nat):Int)=((min n (2 * k):Nat):Int):=by omega
  rw [e3];obtain ⟨q,hq⟩:∃ q,min n (2 * k)=q:=⟨_,rfl⟩
  rw [hq];obtain ⟨z,hz⟩:∃ z,List.replicate q [FV.int .i64 (-1)]++List.replicate (n - q) [FV.int .i64 0]=z:=⟨_,rfl⟩
  refine ⟨q,⟨by omega,by omega⟩,by omega,?_⟩;rw [hz];exact (FLe.cv [⟨100,some 100,0,⟨0,.own,3,1,z⟩⟩] zf zd)
 ·obtain rfl:k=n:=by simp at h;omega
  refine za ?_;exact FW.ret ⟨.inl rfl,VG rfl rfl rfl zc zg zc (by intro e he;obtain rfl:=List.eq_of_mem_replicate he;rfl)⟩
end
def relax (t u:Int) (s:List Int×List Int) (v:Int):List Int×List Int:=
 if t<v∧nth s.1 v.toNat<0 then (s.1.set v.toNat (nth s.1 u.toNat+1),s.2++[v]) else s
def WK (rows:List (List Int)) (t:Int) (s:List Int×List Int):List Int×List Int:=
 match s.2 with
 | [] => s
 | u :: _ => let q := (nth rows u.toNat).foldl (relax t u) s; (q.1, q.2.tail)
def bfs (rows:List (List Int)) (t:Int):Nat→List Int×List Int→List Int×List Int
 | 0, s => s
 | k+1, s => bfs rows t k (WK rows t s)
def yl (n t:Nat):List Int×List Int:=((List.replicate n (-1)).set t 0,[(t:Int)])
def dist (rows:List (List Int)) (n t:Nat):List Int:=(bfs rows t (n+1) (yl n t)).1
def xm (l:List Int):Nat:=l.countP fun x=>decide (0≤x)
structure BI (n i:Nat) (s:List Int×List Int):Prop where
 len:s.1.length=n
 rng:∀ x∈s.1,-1≤x∧x<xm s.1
 wk:∀ v∈s.2,0≤v∧v<n
 cnt:s.2.length+i=xm s.1
theorem BI.le {n i:Nat} {s:List Int×List Int} (h:BI n i s):s.2.length+i≤n:=by
 rw [h.cnt,← h.len];exact List.countP_le_length
theorem BI.nth {n i:Nat} {s:List Int×List Int} (h:BI n i s) {v:Nat} (hv:v<n):-1≤Proofs.Ytlnehfplfoikaaa.nth s.1 v∧Proofs.Ytlnehfplfoikaaa.nth s.1 v<xm s.1:=h.rng _ (zL (by rw [h.len];exact hv))
theorem VE {l:List Int} {v:Nat} {x:Int} (hv:v<l.length) (h0:nth l v<0) (hx:0≤x):xm (l.set v x)=xm l+1:=by
 unfold xm;rw [List.countP_set hv];rw [nth_eq hv] at h0;rw [if_neg zI,if_pos zI];omega
theorem BI.relax {n i:Nat} {s:List Int×List Int} (h:BI n i s) {t u v:Int} (hu:0≤u∧u<n) (hv:0≤v∧v<n):BI n i (Proofs.Ytlnehfplfoikaaa.relax t u s v):=by
 unfold Proofs.Ytlnehfplfoikaaa.relax;by_cases hc:t<v∧Proofs.Ytlnehfplfoikaaa.nth s.1 v.toNat<0
 ·rw [if_pos hc];have hun:=h.nth (v:=u.toNat) zb;have hr:=VE (l:=s.1) (v:=v.toNat) (x:=Proofs.Ytlnehfplfoikaaa.nth s.1 u.toNat+1) (by rw [h.len];omega) hc.2 zb;refine ⟨by simp [h.len],fun x hx=>?_,fun w hw=>?_,?_⟩
  ·dsimp only at hx ⊢;rw [hr];rcases List.mem_or_eq_of_mem_set hx with hx|rfl
   ·have:=h.rng x hx;omega
   ·omega
  ·rcases List.mem_append.1 hw with hw|hw
   ·exact h.wk w hw
   ·rw [List.mem_singleton.1 hw];exact hv
  ·have:=h.cnt;simp only [List.length_append,List.length_cons,List.length_nil];rw [hr];omega
 ·rw [if_neg hc];exact h
theorem BI.fold {n i:Nat} {t u:Int} (hu:0≤u∧u<n):∀ {l:List Int} {s:List Int×List Int},BI n i s→(∀ v∈l,0≤v∧v<n)→BI n i (l.foldl (Proofs.Ytlnehfplfoikaaa.relax t u) s)
 | [], _, h, _ => h
 | v :: l, s, h, hl => by
  rw [List.foldl_cons];exact BI.fold hu (h.relax hu (hl v zc)) fun w hw=>hl w (by simp [hw])
theorem zeT {t u v x:Int} {o w:List Int}:∃ o' w',relax t u (o,x::w) v=(o',x::w'):=by
 unfold relax;split
 ·exact ⟨_,_,rfl⟩
 ·exact ⟨_,_,rfl⟩
theorem Xf {t u x:Int}:∀ {l:List Int} {o w:List Int},∃ o' w',l.foldl (relax t u) (o,x::w)=(o',x::w')
 | [], o, w => ⟨o, w, rfl⟩
 | v :: l, o, w => by
  obtain ⟨o',w',e⟩:=zeT (t:=t) (u:=u) (v:=v) (x:=x) (o:=o) (w:=w);rw [List.foldl_cons,e];exact Xf
theorem BI.round {n i:Nat} {rows:List (List Int)} {t:Int} (hrows:∀ r∈rows,∀ v∈r,0≤v∧v<n) (hlen:rows.length=n) {s:List Int×List Int} (h:BI n i s) (h0:s.2≠[]):BI n (i+1) (WK rows t s):=by
 obtain ⟨o,w⟩:=s;cases w with
 | nil => exact absurd rfl h0
 | cons u w =>
  have hu:=h.wk u zc;have hF:=BI.fold (t:=t) hu h (hrows (Proofs.Ytlnehfplfoikaaa.nth rows u.toNat) (zL zb));show BI n (i+1) (((Proofs.Ytlnehfplfoikaaa.nth rows u.toNat).foldl (Proofs.Ytlnehfplfoikaaa.relax t u) (o,u::w)).1,((Proofs.Ytlnehfplfoikaaa.nth rows u.toNat).foldl (Proofs.Ytlnehfplfoikaaa.relax t u) (o,u::w)).2.tail);obtain ⟨o',w',e⟩:=Xf (t:=t) (u:=u) (x:=u) (l:=Proofs.Ytlnehfplfoikaaa.nth rows u.toNat) (o:=o) (w:=w);rw [e] at hF ⊢;exact ⟨hF.len,hF.rng,fun v hv=>hF.wk v (by simp [show v∈w' from hv]),by have:=hF.cnt;simp only [List.length_cons,List.tail_cons] at this ⊢;omega⟩
theorem BI.start {n t:Nat} (ht:t<n):BI n 0 (yl n t):=by
 have hr:xm ((List.replicate n (-1)).set t 0)=1:=by
  rw [VE (by simpa using ht) (by rw [Proofs.Ytlnehfplfoikaaa.nth_eq (by simpa using ht)];simp) zb];unfold xm;rw [List.countP_replicate];simp
 refine ⟨by simp [yl],fun x hx=>?_,fun v hv=>?_,?_⟩
 ·show -1≤x∧x<((xm ((List.replicate n (-1)).set t 0):Nat):Int);rw [hr];rcases List.mem_or_eq_of_mem_set hx with hx|rfl
  ·rw [List.eq_of_mem_replicate hx];omega
  ·omega
 ·rw [List.mem_singleton.1 hv];omega
 ·show 1+0=xm ((List.replicate n (-1)).set t 0);rw [hr]
theorem zdq (rows:List (List Int)) (t:Int):∀ (k:Nat) (s:List Int×List Int),s.2=[]→bfs rows t k s=s
 | 0, _, _ => rfl
 | k+1, (o, w), h => by
  dsimp only at h;subst h;exact zdq rows t k (o,[]) rfl
theorem zcB (rows:List (List Int)) (t:Int):∀ (j k:Nat) (s:List Int×List Int),bfs rows t (j+k) s=bfs rows t k (bfs rows t j s)
 | 0, k, s => by rw [Nat.zero_add]; rfl
 | j+1, k, s => by rw [Nat.add_right_comm]; exact zcB rows t j k _
theorem zao (rows:List (List Int)) (t:Int) (j:Nat) (s:List Int×List Int):bfs rows t (j+1) s=WK rows t (bfs rows t j s):=by rw [zcB];rfl
theorem zif {rows:List (List Int)} {n t i:Nat} (hi:i≤n+1) (h:(bfs rows t i (yl n t)).2=[]):dist rows n t=(bfs rows t i (yl n t)).1:=by
 unfold dist;rw [show n+1=i+(n+1 - i) by omega,zcB,zdq _ _ _ _ h]
structure PI (rows:List (List Int)) (t n:Nat) (s:List Int×List Int):Prop where
 par:∀ v,v<n→1≤Proofs.Ytlnehfplfoikaaa.nth s.1 v→∃ u,u<n∧(v:Int)∈Proofs.Ytlnehfplfoikaaa.nth rows u∧Proofs.Ytlnehfplfoikaaa.nth s.1 u=Proofs.Ytlnehfplfoikaaa.nth s.1 v - 1
 big:∀ v,v<n→0≤Proofs.Ytlnehfplfoikaaa.nth s.1 v→v≠t→t<v∧1≤Proofs.Ytlnehfplfoikaaa.nth s.1 v
 tz:Proofs.Ytlnehfplfoikaaa.nth s.1 t=0
 wk:∀ w∈s.2,0≤Proofs.Ytlnehfplfoikaaa.nth s.1 w.toNat
theorem PI.relax {rows:List (List Int)} {t n i:Nat} {s:List Int×List Int} (h:PI rows t n s) (hB:BI n i s) {u v:Nat} (hu:u<n) (hv:v<n) (hu0:0≤Proofs.Ytlnehfplfoikaaa.nth s.1 u) (hm:(v:Int)∈Proofs.Ytlnehfplfoikaaa.nth rows u):PI rows t n (Proofs.Ytlnehfplfoikaaa.relax t u s v):=by
 unfold Proofs.Ytlnehfplfoikaaa.relax;by_cases hc:(t:Int)<v∧Proofs.Ytlnehfplfoikaaa.nth s.1 (v:Int).toNat<0
 ·rw [if_pos hc];simp only [Int.toNat_natCast] at hc ⊢;have hvl:v<s.1.length:=by rw [hB.len];exact hv
  have hne:∀ w,0≤Proofs.Ytlnehfplfoikaaa.nth s.1 w→Proofs.Ytlnehfplfoikaaa.nth (s.1.set v (Proofs.Ytlnehfplfoikaaa.nth s.1 u+1)) w=Proofs.Ytlnehfplfoikaaa.nth s.1 w:=fun w hw=>zH (fun e=>by subst e;omega);have hsame:Proofs.Ytlnehfplfoikaaa.nth (s.1.set v (Proofs.Ytlnehfplfoikaaa.nth s.1 u+1)) v=Proofs.Ytlnehfplfoikaaa.nth s.1 u+1:=zR hvl;refine ⟨fun w hw h1=>?_,fun w hw h0 hwt=>?_,by rw [hne t (by rw [h.tz];omega)];exact h.tz,fun w hw=>?_⟩
  ·dsimp only at h1 ⊢;by_cases hwv:w=v
   ·subst hwv;exact ⟨u,hu,hm,by rw [hsame,hne u hu0];omega⟩
   ·have e:Proofs.Ytlnehfplfoikaaa.nth (s.1.set v (Proofs.Ytlnehfplfoikaaa.nth s.1 u+1)) w=Proofs.Ytlnehfplfoikaaa.nth s.1 w:=zH (fun e=>hwv e.symm);rw [e] at h1 ⊢;obtain ⟨q,q1,q2,q3⟩:=h.par w hw h1;exact ⟨q,q1,q2,by rw [hne q zb];exact q3⟩
  ·dsimp only at h0 ⊢;by_cases hwv:w=v
   ·subst hwv;rw [hsame];omega
   ·have e:Proofs.Ytlnehfplfoikaaa.nth (s.1.set v (Proofs.Ytlnehfplfoikaaa.nth s.1 u+1)) w=Proofs.Ytlnehfplfoikaaa.nth s.1 w:=zH (fun e=>hwv e.symm);rw [e] at h0 ⊢;exact h.big w hw h0 hwt
  ·dsimp only at hw ⊢;rcases List.mem_append.1 hw with hw|hw
   ·rw [hne _ (h.wk w hw)];exact h.wk w hw
   ·rw [List.mem_singleton.1 hw,Int.toNat_natCast,hsame];omega
 ·rw [if_neg hc];exact h
theorem VF {t u v:Int} {s:List Int×List Int} {w:Nat} (h:0≤nth s.1 w):nth (relax t u s v).1 w=nth s.1 w:=by
 unfold relax;split
 ·rename_i hc;refine zH (fun e=>?_);rw [e] at hc;omega
 ·rfl
theorem PI.fold {rows:List (List Int)} {t n i u:Nat} (hu:u<n) (hrows:∀ r∈rows,∀ v∈r,(0:Int)≤v∧v<n):∀ {l:List Int} {s:List Int×List Int},PI rows t n s→BI n i s→0≤Proofs.Ytlnehfplfoikaaa.nth s.1 u→(∀ v∈l,v∈Proofs.Ytlnehfplfoikaaa.nth rows u∧0≤v∧v<n)→PI rows t n (l.foldl (Proofs.Ytlnehfplfoikaaa.relax t u) s)∧BI n i (l.foldl (Proofs.Ytlnehfplfoikaaa.relax t u) s)
 | [], _, h, hB, _, _ => ⟨h, hB⟩
 | v :: l, s, h, hB, h0, hl => by
  rw [List.foldl_cons];obtain ⟨m1,m2,m3⟩:=hl v zc;obtain ⟨v,rfl⟩:∃ v' : Nat,v=v':=⟨v.toNat,by omega⟩
  refine PI.fold hu hrows (h.relax hB hu zb h0 m1) (hB.relax ⟨by omega,by omega⟩ ⟨m2,m3⟩) ?_ fun w hw=>hl w (by simp [hw]);rw [VF h0];exact h0
theorem PI.round {rows:List (List Int)} {t n i:Nat} (hrows:∀ r∈rows,∀ v∈r,(0:Int)≤v∧v<n) (hlen:rows.length=n) {s:List Int×List Int} (h:PI rows t n s) (hB:BI n i s):PI rows t n (WK rows t s):=by
 obtain ⟨o,w⟩:=s;cases w with
 | nil => exact h
 | cons u w =>
  have hu:=hB.wk u zc;obtain ⟨u,rfl⟩:∃ u' : Nat,u=u':=⟨u.toNat,by omega⟩
  have hm:=zL (l:=rows) (i:=u) zb;obtain ⟨hP,hF⟩:=PI.fold (t:=t) (i:=i) (u:=u) zb hrows (l:=Proofs.Ytlnehfplfoikaaa.nth rows u) h hB (by have:=h.wk (u:Int) zc;simpa using this) fun v hv=>⟨hv,hrows _ hm v hv⟩
  show PI rows t n (((Proofs.Ytlnehfplfoikaaa.nth rows u).foldl (Proofs.Ytlnehfplfoikaaa.relax t u) (o,(u:Int)::w)).1,((Proofs.Ytlnehfplfoikaaa.nth rows u).foldl (Proofs.Ytlnehfplfoikaaa.relax t u) (o,(u:Int)::w)).2.tail);exact ⟨hP.par,hP.big,hP.tz,fun v hv=>hP.wk v (List.mem_of_mem_tail hv)⟩
theorem PI.start {rows:List (List Int)} {n t:Nat} (ht:t<n):PI rows t n (yl n t):=by
 have h1:∀ v,v<n→v≠t→nth (yl n t).1 v = -1:=fun v hv hne=>by
  show nth ((List.replicate n (-1)).set t 0) v = -1;rw [zH (fun e=>hne e.symm),nth_eq (by simpa using hv)];simp
 have h2:nth (yl n t).1 t=0:=zR (by simpa using ht);refine ⟨fun v hv h=>?_,fun v hv h hne=>?_,h2,fun w hw=>?_⟩
 ·by_cases hvt:v=t
  ·subst hvt;rw [h2] at h;omega
  ·rw [h1 v hv hvt] at h;omega
 ·rw [h1 v hv hne] at h;omega
 ·rw [List.mem_singleton.1 hw,Int.toNat_natCast,h2];omega
theorem zcC {rows:List (List Int)} {n t:Nat} (ht:t<n) (hrows:∀ r∈rows,∀ v∈r,(0:Int)≤v∧v<n) (hlen:rows.length=n):∀ k,∃ i,i≤k∧BI n i (bfs rows t k (yl n t))∧PI rows t n (bfs rows t k (yl n t))∧((bfs rows t k (yl n t)).2=[]∨i=k)
 | 0 => ⟨0, Nat.le_refl _, BI.start ht, PI.start ht, .inr rfl⟩
 | k+1=>by
  obtain ⟨i,h1,h2,h3,h4⟩:=zcC ht hrows hlen k;rw [zao];by_cases h0:(bfs rows t k (yl n t)).2=[]
  ·have e:WK rows t (bfs rows t k (yl n t))=bfs rows t k (yl n t):=by
    generalize bfs rows t k (yl n t)=s at h0;obtain ⟨o,w⟩:=s;dsimp only at h0;subst h0;rfl
   rw [e];exact ⟨i,by omega,h2,h3,.inl h0⟩
  ·obtain rfl:i=k:=by rcases h4 with h4|h4;exact absurd h4 h0;exact h4
   exact ⟨i+1,Nat.le_refl _,h2.round hrows hlen h0,h3.round hrows hlen h2,.inr rfl⟩
theorem Zz {rows:List (List Int)} {n t:Nat} (ht:t<n) (hrows:∀ r∈rows,∀ v∈r,(0:Int)≤v∧v<n) (hlen:rows.length=n):(bfs rows t (n+1) (yl n t)).2=[]∧PI rows t n (bfs rows t (n+1) (yl n t))∧∃ i,BI n i (bfs rows t (n+1) (yl n t)):=by
 obtain ⟨i,h1,h2,h3,h4⟩:=zcC ht hrows hlen (n+1);refine ⟨?_,h3,i,h2⟩;rcases h4 with h4|rfl
 ·exact h4
 ·have:=h2.le;omega
section
open Go.RowKit
def ZP (r:List Int):List FV:=[.list 1 (r.map zj)]
theorem Uk (n t:Nat) (rows:List (List Int)) (hn:n≤14) (ht:t<n) (hlen:rows.length=n) (hrows:∀ r∈rows,∀ v∈r,0≤v∧v<n) (hrl:∀ r∈rows,r.length≤1000000):zY Try.prog 35 [.int .i64 n,.list 1 (rows.map ZP),.int .i64 t] (.ow 3 1) (.list 1 ((dist rows n t).map zj)):=by
 refine zY.of_body (c:=(xa Try.prog zD zq 61)) ⟨Try.func35,rfl,Try.ntmps35,by kernel_rfl⟩ zC zp rfl ?_;change FW _ _ _ ⟨[(0,.int .i64 n),(1,.list 1 (rows.map ZP)),(2,.int .i64 t)],[]⟩;refine za ?_;refine xn (zc4 n hn) yN List.length_replicate rfl rfl rfl ?_;rw [show List.replicate n [FV.int .i64 (-1)]=(List.replicate n (-1)).map zj by rw [List.map_replicate];rfl];obtain ⟨z,hz⟩:∃ z,List.replicate n (-1:Int)=z:=⟨_,rfl⟩
 have hzl:z.length=n:=by rw [← hz];simp
 have hs:(z.map zj).set t [.int .i64 0]=(yl n t).1.map zj:=by
  show _=((List.replicate n (-1)).set t 0).map zj;rw [hz,List.map_set];rfl
 rw [hz];refine za ?_;rw [show (zj (nth z t)).set 0 (.int .i64 0)=[.int .i64 0] from rfl,hs];refine FW.loop (fun x:Nat×List Int=>⟨[(1,.list 1 (rows.map ZP)),(2,.int .i64 t),(7,.own 100 0 0 n),(8,.own 101 0 x.2.length (bfs rows t x.1 (yl n t)).2.length)],[(100,⟨0,.own,3,1,(bfs rows t x.1 (yl n t)).1.map zj⟩),(101,⟨0,.own,3,1,(x.2++(bfs rows t x.1 (yl n t)).2).map zj⟩)]⟩)
  (fun x=>BI n x.1 (bfs rows t x.1 (yl n t))∧x.2.length≤x.1) (fun x=>n - x.1) (0,[]) ⟨BI.start ht,Nat.le_refl _⟩ (FLe.cv [⟨100,some 13,0+1,⟨0,.own,3,1,(yl n t).1.map zj⟩⟩,⟨101,some 18,0+1,⟨0,.own,3,1,[[.int .i64 t]]⟩⟩] zf zd) ?_
 rintro ⟨i,pre⟩ ⟨hB,hpre⟩;dsimp only at hB hpre ⊢;have hlast:∀ h:(bfs rows t i (yl n t)).2=[],(bfs rows t i (yl n t)).1=dist rows n t:=fun h=>(zif (by have:=hB.le;omega) h).symm;have hnext:=zao rows t i (yl n t);generalize bfs rows t i (yl n t)=S at hB hlast hnext ⊢;obtain ⟨out,w⟩:=S;have hol:=hB.len;have hle:=hB.le;dsimp only at hol hle hlast ⊢;refine za ?_;refine FW.cond rfl (fun h=>?_) (fun h=>?_)
 ·obtain ⟨u,w,rfl⟩:∃ u w',w=u::w':=by
   cases w with
   | nil => simp at h
   | cons u w => exact ⟨u, w, rfl⟩
  clear h hlast;obtain ⟨u,rfl⟩:∃ u' : Nat,u=u':=⟨u.toNat,by have:=(hB.wk u zc).1;omega⟩
  have hu:u<rows.length:=by have:=(hB.wk u zc).2;omega
  have hnu:nth (pre++(u:Int)::w) (pre.length+0)=u:=by rw [nth_eq zc];simp
  have hrow:=hrows _ (zL hu);have hrl1:=hrl _ (zL hu);have hwl:(((u:Int)::w).length:Nat)=w.length+1:=rfl;have hwle:w.length+1+i≤n:=hle;obtain ⟨W,hW⟩:∃ W,pre++(u:Int)::w=W:=⟨_,rfl⟩
  have hWl:W.length=pre.length+(w.length+1):=by rw [← hW];simp
  rw [hW] at hnu ⊢;refine yd ?_;refine zG rfl rfl rfl ?_;refine zG rfl rfl rfl ?_;refine XT (n:=0) rfl rfl rfl rfl rfl rfl zg rfl zc rfl rfl ?_;refine ZG rfl rfl rfl rfl rfl zI (by exact zU zb) rfl rfl rfl rfl ?_;rw [hnu];refine za ?_;obtain ⟨r,hr⟩:∃ r,nth rows u=r:=⟨_,rfl⟩
  rw [hr] at hrow hrl1 ⊢;have hui:(0:Int)≤u∧(u:Int)<n:=⟨by omega,by omega⟩
  refine FW.loop (fun x:Nat×List Int=>⟨[(1,.list 1 (rows.map ZP)),(2,.int .i64 t),(7,.own 100 0 0 n),(8,.own 101 0 x.2.length ((r.take x.1).foldl (relax t u) (out,(u:Int)::w)).2.length),(29,.list 1 (r.map zj)),(30,.int .i64 r.length),(31,.int .i64 x.1)],[(100,⟨0,.own,3,1,((r.take x.1).foldl (relax t u) (out,(u:Int)::w)).1.map zj⟩),(101,⟨0,.own,3,1,(x.2++((r.take x.1).foldl (relax t u) (out,(u:Int)::w)).2).map zj⟩)]⟩)
   (fun x=>x.1≤r.length∧x.2.length≤i) (fun x=>r.length - x.1) (0,pre) ⟨Nat.zero_le _,hpre⟩ ?_ ?_
  ·show FLe _ ⟨[(1,.list 1 (rows.map ZP)),(2,.int .i64 t),(7,.own 100 0 0 n),(8,.own 101 0 pre.length ((u:Int)::w).length),(29,.list 1 (r.map zj)),(30,.int .i64 r.length),(31,.int .i64 0)],[(100,⟨0,.own,3,1,out.map zj⟩),(101,⟨0,.own,3,1,(pre++(u:Int)::w).map zj⟩)]⟩;rw [hW];exact (FLe.cv [⟨100,some 100,0,⟨0,.own,3,1,out.map zj⟩⟩,⟨101,some 101,0,⟨0,.own,3,1,W.map zj⟩⟩] zf zd)
  clear hnu hW hWl W hpre pre;rintro ⟨j,pre⟩ ⟨hj,hpre⟩;dsimp only at hj hpre ⊢;have hBj:BI n i ((r.take j).foldl (relax t u) (out,(u:Int)::w)):=BI.fold hui hB fun v hv=>hrow v (List.mem_of_mem_take hv);obtain ⟨oj,wj,hq⟩:=Xf (t:=t) (u:=u) (x:=u) (l:=r.take j) (o:=out) (w:=w);have hstep:∀ h:j<r.length,(r.take (j+1)).foldl (relax t u) (out,(u:Int)::w)=relax t u (oj,(u:Int)::wj) (nth r j):=fun h=>by
   rw [List.take_succ_eq_append_getElem h,List.foldl_append,hq,nth_eq h];rfl
  have hend:j=r.length→WK rows t (out,(u:Int)::w)=(oj,wj):=fun h=>by
   show (((nth rows u).foldl (relax t u) (out,(u:Int)::w)).1,((nth rows u).foldl (relax t u) (out,(u:Int)::w)).2.tail)=_;rw [hr,← List.take_length (l:=r),← h,hq];rfl
  rw [hq] at hBj ⊢;dsimp only;have hjl:=hBj.len;have hjle:wj.length+1+i≤n:=hBj.le;dsimp only at hjl;have hnu:=hBj.nth (v:=u) zb;have hreach:xm oj≤n:=by rw [← hjl];exact List.countP_le_length
  dsimp only at hnu;have hwj:(((u:Int)::wj).length:Nat)=wj.length+1:=rfl;refine za ?_;refine FW.cond rfl (fun h=>?_) (fun h=>?_)
  ·have hlt:j<r.length:=by simpa using h
   clear h hend;have hst:=hstep hlt;clear hstep;obtain ⟨v,hv⟩:∃ v:Nat,nth r j=v:=⟨(nth r j).toNat,by have:=(hrow _ (zL hlt)).1;omega⟩
   have hvn:v<n:=by have:=(hrow _ (zL hlt)).2;omega
   rw [hv] at hst;refine za ?_;rw [hv];skip;refine zJ (fun h1=>?_) (fun h1=>?_)
   ·refine za ?_;refine FW.cond rfl (fun h2=>?_) (fun h2=>?_)
    ·rw [relax,if_pos ⟨by simpa using h1,by simpa using h2⟩] at hst;obtain ⟨W,hW⟩:∃ W,pre++(u:Int)::wj=W:=⟨_,rfl⟩
     have hWl:W.length=pre.length+(wj.length+1):=by rw [← hW];simp
     have hnW:nth W (pre.length+0)=u:=by rw [← hW,nth_eq zc];simp
     have hnW' : nth W pre.length=u:=hnW;simp only [Int.toNat_natCast] at hst;rw [hW];refine FW.split 101 rfl ?_ ?_
     ·skip;refine yd ?_;refine zG rfl rfl rfl ?_;refine zG rfl rfl rfl ?_;refine zG rfl rfl rfl ?_;refine zG rfl rfl rfl ?_;refine XT (n:=0) rfl rfl rfl rfl rfl rfl zg rfl zc rfl rfl ?_;refine ZG rfl rfl rfl rfl rfl zI (by exact zU zb) rfl rfl rfl rfl ?_;rw [hnW];refine yY rfl rfl rfl rfl rfl rfl zg rfl yv rfl rfl ?_;refine ZG rfl rfl rfl rfl rfl yv xZ rfl rfl rfl rfl ?_;refine Xp rfl rfl zb rfl rfl ?_;refine yY rfl rfl rfl rfl rfl rfl zg rfl yv rfl rfl ?_;refine Xt rfl rfl rfl rfl rfl rfl yv xZ rfl rfl rfl ?_;rw [show (zj (nth oj v)).set 0 (.int .i64 (nth oj u+1))=zj (nth oj u+1) from rfl,← List.map_set];refine yd ?_;refine zG rfl rfl rfl ?_;refine zG rfl rfl rfl ?_;refine XS rfl rfl rfl rfl rfl rfl rfl rfl ?_;refine zis rfl rfl zI rfl rfl rfl zg (by exact xV.own rfl rfl zg (by first|exact List.length_map _|exact (List.length_map _).symm|exact List.length_replicate|rfl|(simp;done)|omega|(simp;omega))) rfl rfl rfl rfl ?_;refine zO rfl rfl rfl ?_;refine yd ?_;refine Xp rfl rfl zb rfl rfl ?_;refine zG rfl rfl rfl ?_;refine yd ?_;refine ⟨(j+1,pre),⟨by show j+1≤r.length;omega,hpre⟩,by show r.length - (j+1)<r.length - j;omega,?_⟩;dsimp only;rw [hst];dsimp only;have e1:(W.map zj++[zj v]:List (List FV))=(pre++((u:Int)::wj++[(v:Int)])).map zj:=by rw [← hW];simp
      have e2:((u:Int)::wj).length+1=((u:Int)::wj++[(v:Int)]).length:=by simp
      obtain ⟨Z,hZ⟩:∃ Z,(pre++((u:Int)::wj++[(v:Int)])).map zj=Z:=⟨_,rfl⟩
      rw [show ([FV.int .i64 (v:Int)]:List FV)=zj v from rfl,e1,e2,hZ];exact (FLe.cv [⟨100,some 100,0,⟨0,.own,3,1,(oj.set v (nth oj u+1)).map zj⟩⟩,⟨101,some 58,0+1,⟨0,.own,3,1,Z⟩⟩] zf zd)
     ·skip;refine yd ?_;refine zG rfl rfl rfl ?_;refine zG rfl rfl rfl ?_;refine zG rfl rfl rfl ?_;refine zG rfl rfl rfl ?_;refine XT (n:=0) rfl rfl rfl rfl rfl rfl zg rfl zc rfl rfl ?_;refine ZG rfl rfl rfl rfl rfl zI (by exact zU zb) rfl rfl rfl rfl ?_;rw [hnW];refine yY rfl rfl rfl rfl rfl rfl zg rfl yv rfl rfl ?_;refine ZG rfl rfl rfl rfl rfl yv xZ rfl rfl rfl rfl ?_;refine Xp rfl rfl zb rfl rfl ?_;refine yY rfl rfl rfl rfl rfl rfl zg rfl yv rfl rfl ?_;refine Xt rfl rfl rfl rfl rfl rfl yv xZ rfl rfl rfl ?_;rw [show (zj (nth oj v)).set 0 (.int .i64 (nth oj u+1))=zj (nth oj u+1) from rfl,← List.map_set];refine yd ?_;refine zG rfl rfl rfl ?_;refine zG rfl rfl rfl ?_;refine XS rfl rfl rfl rfl rfl rfl rfl rfl ?_;refine ziq rfl rfl yv rfl rfl rfl zg (by exact xV.own rfl rfl zg (by first|exact List.length_map _|exact (List.length_map _).symm|exact List.length_replicate|rfl|(simp;done)|omega|(simp;omega))) rfl yv yv rfl rfl rfl ?_;refine zO rfl rfl rfl ?_;refine yd ?_;refine Xp rfl rfl zb rfl rfl ?_;refine zG rfl rfl rfl ?_;refine yd ?_;refine ⟨(j+1,[]),⟨by show j+1≤r.length;omega,Nat.zero_le _⟩,by show r.length - (j+1)<r.length - j;omega,?_⟩;dsimp only;rw [hst];dsimp only;have e1:((W.map zj).drop pre.length++[zj v]:List (List FV))=([]++((u:Int)::wj++[(v:Int)])).map zj:=by rw [← hW];simp
      have e2:((u:Int)::wj).length+1=((u:Int)::wj++[(v:Int)]).length:=by simp
      obtain ⟨Z,hZ⟩:∃ Z,([]++((u:Int)::wj++[(v:Int)])).map zj=Z:=⟨_,rfl⟩
      rw [show ([FV.int .i64 (v:Int)]:List FV)=zj v from rfl,e1,e2,hZ];exact (FLe.cv [⟨100,some 100,0,⟨0,.own,3,1,(oj.set v (nth oj u+1)).map zj⟩⟩,⟨101,some 58,0+1,⟨0,.own,3,1,Z⟩⟩] zf zd)
    ·rw [relax,if_neg (fun q=>by have:=q.2;rw [Int.toNat_natCast] at this;dsimp only at this;simp at h2;omega)] at hst;refine za ?_;refine ⟨(j+1,pre),⟨by show j+1≤r.length;omega,hpre⟩,by show r.length - (j+1)<r.length - j;omega,?_⟩;dsimp only;rw [hst];dsimp only;obtain ⟨Z,hZ⟩:∃ Z,pre++(u:Int)::wj=Z:=⟨_,rfl⟩
     rw [hZ];exact (FLe.cv [⟨100,some 100,0,⟨0,.own,3,1,oj.map zj⟩⟩,⟨101,some 101,0,⟨0,.own,3,1,Z.map zj⟩⟩] zf zd)
   ·rw [relax,if_neg (fun q=>by simp at h1;omega)] at hst;refine za ?_;refine ⟨(j+1,pre),⟨by show j+1≤r.length;omega,hpre⟩,by show r.length - (j+1)<r.length - j;omega,?_⟩;dsimp only;rw [hst];dsimp only;obtain ⟨Z,hZ⟩:∃ Z,pre++(u:Int)::wj=Z:=⟨_,rfl⟩
    rw [hZ];exact (FLe.cv [⟨100,some 100,0,⟨0,.own,3,1,oj.map zj⟩⟩,⟨101,some 101,0,⟨0,.own,3,1,Z.map zj⟩⟩] zf zd)
  ·obtain rfl:j=r.length:=by simp at h;omega
   clear h hstep;have he:=hend rfl;refine za ?_;have hB':=hB.round (t:=t) hrows hlen zc;rw [he] at hB' hnext;refine ⟨(i+1,pre++[(u:Int)]),⟨by rw [hnext];exact hB',by simp;omega⟩,by show n - (i+1)<n - i;omega,?_⟩;dsimp only;rw [hnext];dsimp only;rw [List.length_append,List.append_assoc];exact (FLe.cv [⟨100,some 100,0,⟨0,.own,3,1,oj.map zj⟩⟩,⟨101,some 101,0,⟨0,.own,3,1,(pre++([(u:Int)]++wj)).map zj⟩⟩] zf zd)
 ·obtain rfl:w=[]:=by simpa using h
  refine za ?_;exact FW.ret ⟨.inl rfl,VG rfl rfl rfl (by simp [hol]) zg (by rw [hlast rfl]) (zgR.flatsM _)⟩
def ZL (p:Int→Bool) (r:List Int):Nat→Nat→Int
 | 0, _ => -1
 | k+1, i => if p (nth r i) then i else ZL p r k (i+1)
def Wi (p:Int→Bool) (r:List Int):Int:=ZL p r r.length 0
def YO (d:List Int) (st left w:Int):Bool:=decide (st<w∧nth d w.toNat=left)
theorem zcN (p:Int→Bool) (r:List Int) {i:Nat} (h:i<r.length):ZL p r (r.length - i) i=if p (nth r i) then (i:Int) else ZL p r (r.length - (i+1)) (i+1):=by
 rw [show r.length - i=(r.length - (i+1))+1 by omega];rfl
theorem zcH (d:List Int) (st left:Int) (w:Nat) (hw:w<d.length):zY Try.prog 37 ([.int .i64 w]++[.eptr 1 [[.int .i64 st]] 0 0,.eptr 1 [[.list 1 (d.map zj)]] 0 0,.eptr 1 [[.int .i64 left]] 0 0]) .fr (.bool (YO d st left w)):=by
 refine zY.of_body (c:=(xa Try.prog zD zq 17)) ⟨Try.func37,rfl,Try.ntmps37,by kernel_rfl⟩ zC zp rfl ?_;change FW _ _ _ ⟨[(0,.int .i64 w),(1,.eptr 1 [[.int .i64 st]] 0 0),(2,.eptr 1 [[.list 1 (d.map zj)]] 0 0),(3,.eptr 1 [[.int .i64 left]] 0 0)],[]⟩;refine yf ?_;refine yK (fun h1=>?_) (fun h1=>?_)
 ·refine zw ?_;refine ⟨by kernel_rfl,?_⟩;skip;refine FW.ret ⟨.inl rfl,zm rfl rfl ?_ rfl⟩;have h1' : st<(w:Int):=by simpa using h1
  simp [YO,h1'];rfl
 ·refine zw ?_;refine ⟨by kernel_rfl,?_⟩;skip;refine FW.ret ⟨.inl rfl,zm rfl rfl ?_ rfl⟩;have h1' : ¬ st<(w:Int):=by simpa using h1
  simp [YO,h1'];rfl
theorem YE (r:List Int) (cf:Nat) (caps:List FV) (p:Int→Bool) (hr:r.length≤1000000) (hp:∀ x∈r,zY Try.prog cf ([.int .i64 x]++caps) .fr (.bool (p x))):zY Try.prog 36 [.list 1 (r.map zj),.fn cf caps] .fr (.int .i64 (Wi p r)):=by
 refine zY.of_body (c:=(xa Try.prog zD zq 19)) ⟨Try.func36,rfl,Try.ntmps36,by kernel_rfl⟩ zC zp rfl ?_;change FW _ _ _ ⟨[(0,.list 1 (r.map zj)),(1,.fn cf caps)],[]⟩;refine za ?_;refine FW.loop (fun i:Nat=>⟨[(0,.list 1 (r.map zj)),(1,.fn cf caps),(7,.int .i64 r.length),(8,.int .i64 i)],[]⟩) (fun i=>i≤r.length∧ZL p r (r.length - i) i=Wi p r) (fun i=>r.length - i) 0 ⟨Nat.zero_le _,rfl⟩ (FLe.cv [] zu zd) ?_;rintro i ⟨hi,hf⟩;refine za ?_;refine FW.cond rfl (fun h=>?_) (fun h=>?_)
 ·have hlt:i<r.length:=by simpa using h
  clear h;have hpi:=hp _ (zL hlt);rw [zcN p r hlt] at hf;refine za ?_;refine Xr rfl hpi (by repeat (first|exact zx.nil|refine zx.cons zt ?_)) rfl rfl ?_;refine za ?_;refine FW.cond rfl (fun h=>?_) (fun h=>?_)
  ·refine za ?_;rw [if_pos h] at hf;exact FW.ret ⟨.inl rfl,zm rfl rfl (congrArg (FV.int .i64) hf) rfl⟩
  ·refine za ?_;rw [if_neg (by rw [h];decide)] at hf;refine ⟨i+1,⟨by omega,hf⟩,by omega,?_⟩;exact (FLe.cv [] zu zd)
 ·obtain rfl:i=r.length:=by simp at h;omega
  rw [Nat.sub_self] at hf;refine za ?_;exact FW.ret ⟨.inl rfl,zm rfl rfl (by rw [← hf];rfl) rfl⟩
end
theorem yB {E:List (Nat×Nat)} {v:Nat} {x:Int}:x∈zy E v↔∃ e∈E,e.1=v∧(e.2:Int)=x:=by
 unfold zy zhG Zs;rw [zcE,List.mem_mergeSort,List.take_length,List.mem_map];constructor
 ·rintro ⟨e,he,rfl⟩;obtain ⟨h1,h2⟩:=List.mem_filter.1 he;exact ⟨e,h1,by simpa using h2,rfl⟩
 ·rintro ⟨e,h1,h2,rfl⟩;exact ⟨e,List.mem_filter.2 ⟨h1,by simpa using h2⟩,rfl⟩
theorem zck (E:List (Nat×Nat)) (v:Nat):(zy E v).Pairwise (· < ·):=zcD (zgJ _)
def zP (n:Nat) (E:List (Nat×Nat)):List (List Int):=(List.range n).map (zy E)
theorem yh (n:Nat) (E:List (Nat×Nat)):(zP n E).length=n:=by simp [zP]
theorem xG {n v:Nat} (E:List (Nat×Nat)) (h:v<n):nth (zP n E) v=zy E v:=by
 rw [nth_eq (by rw [yh];exact h)];simp [zP]
def InN (n:Nat) (E:List (Nat×Nat)):Prop:=∀ e∈E,e.1<n∧e.2<n
theorem yr {n:Nat} {E:List (Nat×Nat)} (h:InN n E) {v:Nat} {x:Int} (hx:x∈zy E v):0≤x∧x<n:=by
 obtain ⟨e,he,_,rfl⟩:=yB.1 hx;have:=(h e he).2;omega
theorem xu {n:Nat} {E:List (Nat×Nat)} (h:InN n E):∀ r∈zP n E,∀ v∈r,(0:Int)≤v∧v<n:=fun r hr v hv=>by
 obtain ⟨u,_,rfl⟩:=List.mem_map.1 hr;exact yr h hv
theorem Ye (E:List (Nat×Nat)) (v:Nat):(zy E v).length≤E.length:=Nat.le_trans (zgI _) (VQ E v _)
theorem zgE (n:Nat) (E:List (Nat×Nat)):∀ r∈zP n E,r.length≤E.length:=fun r hr=>by
 obtain ⟨u,_,rfl⟩:=List.mem_map.1 hr;exact Ye E u
def yE (E:List (Nat×Nat)):List (Nat×Nat):=E.map fun e=>(e.2,e.1)
theorem xf {n:Nat} {E:List (Nat×Nat)} (h:InN n E):InN n (yE E):=fun e he=>by
 obtain ⟨q,hq,rfl⟩:=List.mem_map.1 he;exact ⟨(h q hq).2,(h q hq).1⟩
theorem zah {E:List (Nat×Nat)} {u v:Nat}:(v:Int)∈zy (yE E) u↔(u:Int)∈zy E v:=by
 rw [yB,yB];constructor
 ·rintro ⟨e,he,h1,h2⟩;obtain ⟨q,hq,rfl⟩:=List.mem_map.1 he;dsimp only at h1 h2;exact ⟨q,hq,by omega,by omega⟩
 ·rintro ⟨q,hq,h1,h2⟩;exact ⟨_,List.mem_map.2 ⟨q,hq,rfl⟩,by dsimp only;omega,by dsimp only;omega⟩
def zQ (n:Nat) (E:List (Nat×Nat)) (st:Nat):List Int:=dist (zP n (yE E)) n st
theorem WL {n:Nat} {E:List (Nat×Nat)} (h:InN n E) {st:Nat} (hs:st<n):(zQ n E st).length=n:=by
 obtain ⟨_,_,i,h3⟩:=Zz hs (xu (xf h)) (yh n _);exact h3.len
theorem za8 {n:Nat} {E:List (Nat×Nat)} (h:InN n E) {st:Nat} (hs:st<n) {v:Nat} (hv:v<n):-1≤nth (zQ n E st) v∧nth (zQ n E st) v<n:=by
 obtain ⟨_,_,i,h3⟩:=Zz hs (xu (xf h)) (yh n _);have h4:-1≤nth (zQ n E st) v∧nth (zQ n E st) v<xm (zQ n E st):=h3.nth hv;have h5:xm (zQ n E st)≤(zQ n E st).length:=List.countP_le_length;rw [WL h hs] at h5;omega
theorem WM {n:Nat} {E:List (Nat×Nat)} (h:InN n E) {st:Nat} (hs:st<n) {v:Nat} (hv:v<n) (h1:1≤nth (zQ n E st) v):∃ u,u<n∧(u:Int)∈zy E v∧nth (zQ n E st) u=nth (zQ n E st) v - 1:=by
 obtain ⟨_,h2,_⟩:=Zz hs (xu (xf h)) (yh n _);obtain ⟨u,hu,hm,e⟩:=h2.par v hv h1;rw [xG _ hu] at hm;exact ⟨u,hu,zah.1 hm,e⟩
theorem YY {n:Nat} {E:List (Nat×Nat)} (h:InN n E) {st:Nat} (hs:st<n) {v:Nat} (hv:v<n) (h1:1≤nth (zQ n E st) v):st<v:=by
 obtain ⟨_,h2,_⟩:=Zz hs (xu (xf h)) (yh n _);by_cases e:v=st
 ·subst e;have h0:nth (zQ n E v) v=0:=h2.tz;omega
 ·exact (h2.big v hv (by have h1' : 1≤nth (bfs (zP n (yE E)) st (n+1) (yl n st)).1 v:=h1;omega) e).1
theorem WW {p:Int→Bool} {r:List Int}:∀ {k i:Nat},i+k=r.length→(∃ j,i≤j∧j<r.length∧p (nth r j)=true)→∃ j,i≤j∧j<r.length∧ZL p r k i=j∧p (nth r j)=true
 | 0, i, hk, ⟨j, h1, h2, _⟩ => by omega
 | k + 1,i,hk,⟨j,h1,h2,h3⟩=>by
  unfold ZL;by_cases hp:p (nth r i)=true
  ·exact ⟨i,Nat.le_refl _,by omega,by rw [if_pos hp],hp⟩
  ·rw [if_neg hp];obtain ⟨q,q1,q2,q3,q4⟩:=WW (p:=p) (r:=r) (k:=k) (i:=i+1) zb ⟨j,by
    rcases Nat.lt_or_ge i j with h|h
    ·exact h
    ·obtain rfl:i=j:=by omega
     exact absurd h3 hp,h2,h3⟩
   exact ⟨q,by omega,q2,q3,q4⟩
theorem YL {p:Int→Bool} {r:List Int} {x:Int} (hx:x∈r) (hp:p x=true):∃ j,j<r.length∧Wi p r=j∧p (nth r j)=true:=by
 obtain ⟨j,hj,rfl⟩:=List.getElem_of_mem hx;obtain ⟨q,_,q2,q3,q4⟩:=WW (p:=p) (r:=r) (k:=r.length) (i:=0) zb ⟨j,Nat.zero_le _,hj,by rw [nth_eq hj];exact hp⟩;exact ⟨q,q2,q3,q4⟩
def yj (d:List Int) (st len w:Int):Int:=if (st≤w∧0≤nth d w.toNat)∧(len=0∨nth d w.toNat+1<len) then nth d w.toNat+1 else len
def yJ (d:List Int) (st:Int) (row:List Int):Int:=row.foldl (yj d st) 0
def xc (E:List (Nat×Nat)) (d:List Int) (st left:Int) (v:Nat):Nat:=(nth (zy E v) (Wi (YO d st left) (zy E v)).toNat).toNat
def xY (E:List (Nat×Nat)) (d:List Int) (st:Int):Nat→Nat→List Int
 | 0, _ => []
 | k+1, v => (xc E d st (k+1:Nat) v:Int) :: xY E d st k (xc E d st (k+1:Nat) v)
def Way (E:List (Nat×Nat)) (d:List Int) (st:Int) (left:Nat) (v:Nat):Prop:=left=0∨∃ w∈zy E v,YO d st left w=true
theorem Way.step {n:Nat} {E:List (Nat×Nat)} (h:InN n E) {st:Nat} (hs:st<n) {k v:Nat} (hw:Way E (zQ n E st) st (k+1) v) :
  ∃ j,j<(zy E v).length∧Wi (YO (zQ n E st) st (k+1:Nat)) (zy E v)=j∧nth (zy E v) j=(xc E (zQ n E st) st (k+1:Nat) v:Int)∧xc E (zQ n E st) st (k+1:Nat) v<n∧Way E (zQ n E st) st k (xc E (zQ n E st) st (k+1:Nat) v):=by
 rcases hw with h0|⟨w,hw,hp⟩
 ·omega
 obtain ⟨j,hj,e,hq⟩:=YL hw hp;have hin:=yr h (zL hj);have hst:xc E (zQ n E st) st (k+1:Nat) v=(nth (zy E v) j).toNat:=by unfold xc;rw [e];rfl
 rw [hst];refine ⟨j,hj,e,by omega,by omega,?_⟩;rcases Nat.eq_zero_or_pos k with rfl|hk
 ·exact .inl rfl
 ·unfold YO at hq;rw [decide_eq_true_eq] at hq;obtain ⟨u,hu,hm,hd⟩:=WM h hs (v:=(nth (zy E v) j).toNat) zb zb;refine .inr ⟨u,hm,?_⟩;have hb:=YY h hs hu zb;unfold YO;rw [decide_eq_true_eq,Int.toNat_natCast];omega
theorem zad (d:List Int) (st:Int):∀ (row:List Int) (len:Int),row.foldl (yj d st) len=len∨∃ w∈row,st≤w∧0≤nth d w.toNat∧row.foldl (yj d st) len=nth d w.toNat+1
 | [], len => .inl rfl
 | w::row,len=>by
  rw [List.foldl_cons];rcases zad d st row (yj d st len w) with h|⟨x,hx,h1,h2,h3⟩
  ·rw [h];unfold yj;split
   ·rename_i hc;exact .inr ⟨w,by simp,hc.1.1,hc.1.2,rfl⟩
   ·exact .inl rfl
  ·exact .inr ⟨x,by simp [hx],h1,h2,h3⟩
theorem XM (d:List Int) (st:Int) (row:List Int):yJ d st row=0∨∃ w∈row,st≤w∧0≤nth d w.toNat∧yJ d st row=nth d w.toNat+1:=zad d st row 0
theorem ZC {n:Nat} {E:List (Nat×Nat)} (h:InN n E) {st:Nat} (hs:st<n) (h0:yJ (zQ n E st) st (zy E st)≠0) :
  ∃ k:Nat,yJ (zQ n E st) st (zy E st)=(k+1:Nat)∧k<n∧Way E (zQ n E st) st k st:=by
 rcases XM (zQ n E st) st (zy E st) with e|⟨w,hw,h1,h2,h3⟩
 ·exact absurd e h0
 ·have hin:=yr h hw;have hr:=za8 h hs (v:=w.toNat) zb;refine ⟨(nth (zQ n E st) w.toNat).toNat,by omega,by omega,?_⟩;rcases Int.lt_or_le 0 (nth (zQ n E st) w.toNat) with hp|hp
  ·have hb:=YY h hs (v:=w.toNat) zb zb;refine .inr ⟨w,hw,?_⟩;unfold YO;rw [decide_eq_true_eq];omega
  ·exact .inl zb
def YJ (n:Nat) (E:List (Nat×Nat)) (best:List Int) (st:Nat):List Int:=
 let L:=yJ (zQ n E st) st (zy E st)
 if L=0∨(best≠[]∧(best.length:Int)≤L) then best else (st:Int)::xY E (zQ n E st) st (L.toNat - 1) st
def zdC (n:Nat) (E:List (Nat×Nat)):List Int:=(List.range n).foldl (YJ n E) []
theorem XA (E:List (Nat×Nat)) (d:List Int) (st:Int):∀ (k v:Nat),(xY E d st k v).length=k
 | 0, _ => rfl
 | k+1, v => by unfold xY; rw [List.length_cons, XA]
theorem zcG {n:Nat} {E:List (Nat×Nat)} (h:InN n E) {st:Nat} (hs:st<n) {best:List Int} (hb:best.length≤n):(YJ n E best st).length≤n:=by
 unfold YJ;dsimp only;split
 ·exact hb
 ·rename_i hc;obtain ⟨k,e,hk,_⟩:=ZC h hs (fun e=>hc (.inl e));rw [List.length_cons,XA,e];omega
structure QI (rows:List (List Int)) (t n:Nat) (s:List Int×List Int):Prop where
 sorted:s.2.Pairwise fun a b=>nth s.1 a.toNat≤nth s.1 b.toNat
 top:∀ u w,s.2=u::w→∀ v,v<n→nth s.1 v≤nth s.1 u.toNat+1
 done:∀ q:Nat,q<n→0≤nth s.1 q→(q:Int)∉s.2→∀ v∈nth rows q,(t:Int)<v→0≤nth s.1 v.toNat∧nth s.1 v.toNat≤nth s.1 q+1
structure RI (rows:List (List Int)) (t n u:Nat) (dn:List Int) (s:List Int×List Int):Prop where
 hd:∃ w,s.2=(u:Int)::w
 sorted:s.2.Pairwise fun a b=>nth s.1 a.toNat≤nth s.1 b.toNat
 top:∀ v,v<n→nth s.1 v≤nth s.1 u+1
 old:∀ q:Nat,q<n→0≤nth s.1 q→(q:Int)∉s.2→∀ v∈nth rows q,(t:Int)<v→0≤nth s.1 v.toNat∧nth s.1 v.toNat≤nth s.1 q+1
 part:∀ v∈dn,(t:Int)<v→0≤nth s.1 v.toNat∧nth s.1 v.toNat≤nth s.1 u+1
theorem RI.relax {rows:List (List Int)} {t n i u v:Nat} {dn:List Int} {s:List Int×List Int} (h:RI rows t n u dn s) (hB:BI n i s) (hW:∀ w∈s.2,0≤nth s.1 w.toNat) (hu:u<n) (hv:v<n) (hrows:∀ r∈rows,∀ x∈r,(0:Int)≤x∧x<n) (hdn:∀ x∈dn,(0:Int)≤x∧x<n) :
  RI rows t n u (dn++[(v:Int)]) (Proofs.Ytlnehfplfoikaaa.relax t u s v):=by
 obtain ⟨w,hw⟩:=h.hd;have hu0:0≤nth s.1 u:=by have:=hW u (by rw [hw];simp);simpa using this
 unfold Proofs.Ytlnehfplfoikaaa.relax;by_cases hc:(t:Int)<v∧nth s.1 (v:Int).toNat<0
 ·rw [if_pos hc];simp only [Int.toNat_natCast] at hc ⊢;have hvl:v<s.1.length:=by rw [hB.len];exact hv
  have hsame:nth (s.1.set v (nth s.1 u+1)) v=nth s.1 u+1:=zR hvl;have hne:∀ q:Nat,q≠v→nth (s.1.set v (nth s.1 u+1)) q=nth s.1 q:=fun q hq=>zH (fun e=>hq e.symm);have hpos:∀ q:Nat,0≤nth s.1 q→nth (s.1.set v (nth s.1 u+1)) q=nth s.1 q:=fun q hq=>hne q (fun e=>by subst e;omega);have huu:nth (s.1.set v (nth s.1 u+1)) u=nth s.1 u:=hpos u hu0;refine ⟨⟨w++[(v:Int)],by rw [hw];rfl⟩,?_,fun q hq=>?_,fun q hq h0 hm x hx htx=>?_,fun x hx htx=>?_⟩
  ·dsimp only;refine List.pairwise_append.2 ⟨?_,by simp,fun a ha b hb=>?_⟩
   ·refine h.sorted.imp_of_mem fun {a b} ha hb hab=>?_;rw [hpos _ (hW a ha),hpos _ (hW b hb)];exact hab
   ·rw [List.mem_singleton.1 hb,Int.toNat_natCast,hsame,hpos _ (hW a ha)];have:=hB.wk a ha;exact h.top _ zb
  ·dsimp only;rw [huu];by_cases e:q=v
   ·subst e;rw [hsame];omega
   ·rw [hne q e];exact h.top q hq
  ·dsimp only at h0 hm ⊢;have hqv:q≠v:=fun e=>hm (by subst e;simp);rw [hne q hqv] at h0 ⊢;obtain ⟨k1,k2⟩:=h.old q hq h0 (fun hm2=>hm (List.mem_append_left _ hm2)) x hx htx;rw [hpos _ k1];exact ⟨k1,k2⟩
  ·dsimp only;rw [huu];rcases List.mem_append.1 hx with hx|hx
   ·obtain ⟨k1,k2⟩:=h.part x hx htx;rw [hpos _ k1];exact ⟨k1,k2⟩
   ·rw [List.mem_singleton.1 hx,Int.toNat_natCast,hsame];omega
 ·rw [if_neg hc];refine ⟨h.hd,h.sorted,h.top,h.old,fun x hx htx=>?_⟩;rcases List.mem_append.1 hx with hx|hx
  ·exact h.part x hx htx
  ·rw [List.mem_singleton.1 hx] at htx ⊢;rw [Int.toNat_natCast] at hc ⊢;have h1:¬ nth s.1 v<0:=fun q=>hc ⟨htx,q⟩;exact ⟨by omega,h.top v hv⟩
theorem RI.fold {rows:List (List Int)} {t n i u:Nat} (hu:u<n) (hrows:∀ r∈rows,∀ x∈r,(0:Int)≤x∧x<n):∀ {l dn:List Int} {s:List Int×List Int},RI rows t n u dn s→BI n i s→PI rows t n s→0≤nth s.1 u→(∀ v∈l,v∈nth rows u∧0≤v∧v<n)→(∀ x∈dn,(0:Int)≤x∧x<n)→RI rows t n u (dn++l) (l.foldl (Proofs.Ytlnehfplfoikaaa.relax t u) s)
 | [], dn, s, h, _, _, _, _, _ => by rw [List.append_nil]; exact h
 | v::l,dn,s,h,hB,hP,h0,hl,hdn=>by
  obtain ⟨m1,m2,m3⟩:=hl v zc;obtain ⟨v,rfl⟩:∃ v' : Nat,v=v':=⟨v.toNat,by omega⟩
  have h1:=h.relax hB hP.wk hu (v:=v) zb hrows hdn;have h2:=RI.fold (i:=i) hu hrows (l:=l) h1 (hB.relax ⟨by omega,by omega⟩ ⟨m2,m3⟩) (hP.relax hB hu zb h0 m1) (by rw [VF h0];exact h0) (fun x hx=>hl x (by simp [hx])) (fun x hx=>by
   rcases List.mem_append.1 hx with hx|hx
   ·exact hdn x hx
   ·rw [List.mem_singleton.1 hx];omega)
  rw [List.append_assoc] at h2;exact h2
theorem QI.round {rows:List (List Int)} {t n i:Nat} (hrows:∀ r∈rows,∀ v∈r,(0:Int)≤v∧v<n) (hlen:rows.length=n) {s:List Int×List Int} (h:QI rows t n s) (hB:BI n i s) (hP:PI rows t n s):QI rows t n (WK rows t s):=by
 obtain ⟨o,w⟩:=s;cases w with
 | nil => exact h
 | cons u w=>
  have hu:=hB.wk u zc;obtain ⟨u,rfl⟩:∃ u' : Nat,u=u':=⟨u.toNat,by omega⟩
  have hm:=zL (l:=rows) (i:=u) zb;have hu0:0≤nth o u:=by have:=hP.wk (u:Int) zc;simpa using this
  have hR0:RI rows t n u [] (o,(u:Int)::w):=⟨⟨w,rfl⟩,h.sorted,fun v hv=>by have:=h.top u w rfl v hv;simpa using this,h.done,fun v hv=>by cases hv⟩
  have hR:=RI.fold (i:=i) zb hrows (l:=nth rows u) hR0 hB hP hu0 (fun v hv=>⟨hv,hrows _ hm v hv⟩) (fun x hx=>by cases hx);rw [List.nil_append] at hR;show QI rows t n (((nth rows u).foldl (Proofs.Ytlnehfplfoikaaa.relax t u) (o,(u:Int)::w)).1,((nth rows u).foldl (Proofs.Ytlnehfplfoikaaa.relax t u) (o,(u:Int)::w)).2.tail);obtain ⟨o',w',e⟩:=Xf (t:=t) (u:=u) (x:=u) (l:=nth rows u) (o:=o) (w:=w);rw [e] at hR ⊢;have hsr:=hR.sorted;dsimp only at hsr;obtain ⟨s1,s2⟩:=List.pairwise_cons.1 hsr;refine ⟨s2,fun x r hx v hv=>?_,fun q hq h0 hnm v hv htv=>?_⟩
  ·have hx' : w'=x::r:=hx;have h1:=hR.top v hv;have h2:=s1 x (by rw [hx'];simp);rw [Int.toNat_natCast] at h2;dsimp only at h1 ⊢;omega
  ·have hnm' : (q:Int)∉w':=hnm;by_cases hqu:q=u
   ·subst hqu;exact hR.part v hv htv
   ·exact hR.old q hq h0 (fun hmem=>by
     rcases List.mem_cons.1 hmem with e2|e2
     ·exact hqu zb
     ·exact hnm' e2) v hv htv
theorem QI.start {rows:List (List Int)} {n t:Nat} (ht:t<n):QI rows t n (yl n t):=by
 have h1:∀ v,v<n→v≠t→nth (yl n t).1 v = -1:=fun v hv hne=>by
  show nth ((List.replicate n (-1)).set t 0) v = -1;rw [zH (fun e=>hne e.symm),nth_eq (by simpa using hv)];simp
 have h2:nth (yl n t).1 t=0:=zR (by simpa using ht);refine ⟨by simp [yl],fun u w hu v hv=>?_,fun q hq h0 hm=>?_⟩
 ·have:u=(t:Int):=by have hu' : [(t:Int)]=u::w:=hu;injection hu' with e _;exact e.symm
  rw [this,Int.toNat_natCast,h2];by_cases e:v=t
  ·subst e;rw [h2];omega
  ·rw [h1 v hv e];omega
 ·by_cases e:q=t
  ·subst e;exact absurd (by simp [yl]) hm
  ·rw [h1 q hq e] at h0;omega
theorem ziO {rows:List (List Int)} {n t:Nat} (ht:t<n) (hrows:∀ r∈rows,∀ v∈r,(0:Int)≤v∧v<n) (hlen:rows.length=n):∀ k,QI rows t n (bfs rows t k (yl n t))
 | 0 => QI.start ht
 | k+1 => by
  rw [zao];obtain ⟨i,_,hB,hP,_⟩:=zcC ht hrows hlen k;exact (ziO ht hrows hlen k).round hrows hlen hB hP
theorem XE {n:Nat} {E:List (Nat×Nat)} (h:InN n E) {st:Nat} (hs:st<n) {u v:Nat} (hu:u<n) (hv:v<n) (hm:(u:Int)∈zy E v) (hsv:st<v) (h0:0≤nth (zQ n E st) u):0≤nth (zQ n E st) v∧nth (zQ n E st) v≤nth (zQ n E st) u+1:=by
 have hr:=xu (xf h);have hl:=yh n (yE E);obtain ⟨he,_⟩:=Zz hs hr hl;have hq:=ziO hs hr hl (n+1);have:=hq.done u hu h0 (by rw [he];simp) (v:Int) (by rw [xG _ hu];exact zah.2 hm) zb;rw [Int.toNat_natCast] at this;exact this
theorem zdr {n:Nat} {E:List (Nat×Nat)} (h:InN n E) {st:Nat} (hs:st<n):nth (zQ n E st) st=0:=by
 obtain ⟨_,h2,_⟩:=Zz hs (xu (xf h)) (yh n _);exact h2.tz
theorem UA {n:Nat} {E:List (Nat×Nat)} (h:InN n E) {st:Nat} (hs:st<n) {v:Nat} (hv:v<n) (h0:nth (zQ n E st) v=0):v=st:=by
 obtain ⟨_,h2,_⟩:=Zz hs (xu (xf h)) (yh n _);by_cases e:v=st
 ·exact e
 ·have h0' : nth (bfs (zP n (yE E)) st (n+1) (yl n st)).1 v=0:=h0;have:=h2.big v hv zb e;omega
end Go.Proofs.Ytlnehfplfoikaaa
