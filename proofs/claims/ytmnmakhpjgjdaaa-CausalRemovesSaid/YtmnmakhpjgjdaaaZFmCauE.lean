/-
  causal.Session, at plain values.
-/
import Derived.Test.YtmnmakhpjgjdaaaZFmTopoL
namespace Go.Proofs.Ytmnmakhpjgjdaaa
set_option linter.unusedVariables false
open Go.RowKit

def zbH (l:List OpV) (key v u:Int):Bool:=if v=0 then decide (u≠0) else match cIx l key v,cIx l key u with
 | some a, some b => decide ((nth l a).p=(nth l b).p) && decide (a<b)
 | _, _ => false
set_option maxHeartbeats 4000000 in
theorem zgF (l:List OpV) (key v u:Int) (hl:l.length≤1000) (hin:∀ o∈l,zaW o) (h1:I64 key) (h2:I64 v) (h3:I64 u):yn Try.prog 40 [zdW l,.int .i64 key,.int .i64 v,.int .i64 u] .fr (.bool (zbH l key v u)):=by
 have hlv:=zig l key v
 have hlu:=zig l key u
 have hkk:=Ux (l:=l) (i:=l.length) (Nat.le_refl _) hin
 have hv:=fun a=>YD (l:=l) (a:=key) (b:=v) (w:=a)
 have hu:=fun a=>YD (l:=l) (a:=key) (b:=u) (w:=a)
 unfold zbH
 unfold zdW zgU
 generalize cIx l key v=A at hlv hv ⊢
 generalize cIx l key u=B at hlu hu ⊢
 generalize yE l l.length=CR at hlv hlu hkk ⊢
 obtain ⟨f1,hf1⟩:∃ f1,f1=FV.list 1 ((zE l l.length).map yK):=⟨_,rfl⟩
 obtain ⟨f3,hf3⟩:∃ f3,f3=FV.list 1 ((List.range l.length).map fun q=>[xk (KC l q)]):=⟨_,rfl⟩
 rw [← hf1,← hf3]
 clear hf1 hf3
 refine yn.of_body (c:=(ZO Try.prog zI zA 67)) ⟨Try.func40,rfl,Try.ntmps40,by kernel_rfl⟩ (by simp [FV.hand]) (by exact Nat.le_of_ble_eq_true rfl) rfl ?_
 change FW _ _ _ ⟨[(0,.eptr 4 [[.list 8 (l.map OpV.fv),f1,.smap CR,f3]] 0 0),(1,.int .i64 key),(2,.int .i64 v),(3,.int .i64 u)],[]⟩
 (repeat (first|refine FW.seq ?_|refine FW.region ?_|refine zc.nil ?_|refine zb rfl rfl rfl ?_|refine za rfl rfl rfl ?_|refine yG rfl rfl rfl rfl ?_))
 refine FW.cond rfl (fun h=>?_) (fun h=>?_)
 ·rw [if_pos (by simpa using h)]
  (repeat (first|refine FW.seq ?_|refine FW.region ?_|refine zc.nil ?_|refine zb rfl rfl rfl ?_|refine za rfl rfl rfl ?_|refine xt rfl rfl rfl rfl ?_))
  exact FW.ret ⟨.inl rfl,zU rfl rfl rfl rfl⟩
 rw [if_neg (by simpa using h)]
 clear h
 (repeat (first|refine FW.seq ?_|refine FW.region ?_|refine FW.skip ?_|refine za rfl rfl rfl ?_|refine yP rfl rfl rfl ?_|refine zQ rfl rfl rfl rfl rfl rfl rfl ?_|refine zj rfl rfl rfl (by simp;done) rfl rfl rfl rfl rfl ?_|refine zT rfl rfl rfl rfl ?_|refine zV.nil ?_|refine zV.one rfl rfl rfl rfl rfl ?_))
 refine Xl (e:=3) WT hkk (Ue h1 h2) hlv rfl rfl rfl rfl rfl rfl rfl ?_
 (repeat (first|refine FW.seq ?_|refine FW.region ?_|refine zc.nil ?_|refine zb rfl rfl rfl ?_|refine za rfl rfl rfl ?_|refine yP rfl rfl rfl ?_|refine zQ rfl rfl rfl rfl rfl rfl rfl ?_|refine zj rfl rfl rfl (by simp;done) rfl rfl rfl rfl rfl ?_|refine zT rfl rfl rfl rfl ?_|refine zw rfl rfl rfl rfl rfl ?_|refine zV.nil ?_|refine zV.one rfl rfl rfl rfl rfl ?_))
 refine Xl (e:=3) WT hkk (Ue h1 h3) hlu rfl rfl rfl rfl rfl rfl rfl ?_
 cases A with
 | none =>
  (repeat (first|refine FW.seq ?_|refine zc.nil ?_|refine zb rfl rfl rfl ?_|refine za rfl rfl rfl ?_|refine zw rfl rfl rfl rfl rfl ?_|refine FW.draw ?_|refine zF.nil ?_|refine yW rfl rfl rfl ?_|refine zS rfl rfl rfl ?_|refine Ya rfl rfl rfl rfl ?_|refine Xj rfl rfl ⟨_,_,rfl,rfl,rfl⟩ ?_))
  refine ⟨by kernel_rfl,?_⟩
  skip
  exact FW.ret ⟨.inl rfl,zU rfl rfl rfl rfl⟩
 | some a =>
 cases B with
 | none =>
  (repeat (first|refine FW.seq ?_|refine zc.nil ?_|refine zb rfl rfl rfl ?_|refine za rfl rfl rfl ?_|refine zw rfl rfl rfl rfl rfl ?_|refine FW.draw ?_|refine zF.nil ?_|refine yW rfl rfl rfl ?_|refine zS rfl rfl rfl ?_|refine Yb rfl rfl rfl rfl ?_|refine Ya rfl rfl rfl rfl ?_|refine zS rfl rfl ⟨_,_,rfl,rfl,rfl⟩ ?_|refine Xj rfl rfl ⟨_,_,rfl,rfl,rfl⟩ ?_))
  refine ⟨by kernel_rfl,?_⟩
  skip
  exact FW.ret ⟨.inl rfl,zU rfl rfl rfl rfl⟩
 | some b =>
 have ha:=(hv a rfl).1
 have hb:=(hu b rfl).1
 dsimp only
 rw [Option.getD_some,Option.getD_some]
 (repeat (first|refine FW.seq ?_|refine zc.nil ?_|refine zb rfl rfl rfl ?_|refine za rfl rfl rfl ?_|refine zw rfl rfl rfl rfl rfl ?_|refine FW.draw ?_|refine zS rfl rfl rfl ?_|refine Yb rfl rfl rfl rfl ?_|refine zS rfl rfl ⟨_,_,rfl,rfl,rfl⟩ ?_|refine VA rfl rfl ⟨_,_,rfl,rfl,rfl⟩ ?_|refine Yq rfl rfl rfl rfl rfl rfl ⟨_,_,rfl,rfl,rfl⟩ ?_|refine Za rfl rfl rfl (by first|(simp;omega)|(simp;done)) (by first|exact zf (by omega)|rfl) rfl rfl rfl ⟨_,_,rfl,rfl,rfl⟩ ?_|refine ZI rfl rfl rfl rfl rfl rfl (by first|(simp;omega)|(simp;done)) rfl ⟨_,_,rfl,rfl,rfl⟩ ?_|refine ziB rfl rfl rfl ⟨_,_,rfl,rfl,rfl⟩ ?_))
 refine zap (fun h4=>?_) (fun h4=>?_)
 ·have h4:(nth l a).p=(nth l b).p:=by simpa using h4
  (repeat (first|refine zF.nil ?_|refine yW rfl rfl rfl ?_|refine Yb rfl rfl rfl rfl ?_|refine zS rfl rfl ⟨_,_,rfl,rfl,rfl⟩ ?_|refine zks rfl rfl rfl ⟨_,_,rfl,rfl,rfl⟩ ?_))
  refine ⟨by kernel_rfl,?_⟩
  skip
  refine FW.ret ⟨.inl rfl,zU rfl rfl ?_ rfl⟩
  rw [decide_eq_true h4,Bool.true_and]
  simp;rfl
 ·have h4:¬ (nth l a).p=(nth l b).p:=by simpa using h4
  (repeat (first|refine zF.nil ?_|refine yW rfl rfl rfl ?_|refine Ya rfl rfl rfl rfl ?_|refine Xj rfl rfl ⟨_,_,rfl,rfl,rfl⟩ ?_))
  refine ⟨by kernel_rfl,?_⟩
  skip
  refine FW.ret ⟨.inl rfl,zU rfl rfl ?_ rfl⟩
  rw [decide_eq_false h4,Bool.false_and];rfl
def VD (l:List OpV) (i r k:Nat):Bool:=decide (k<i) && decide ((nth l k).p=(nth l i).p) && decide ((nth l k).key=(nth l i).key) && (decide ((nth l k).k=1) == decide (r=0)) && zbH l (nth l i).key (nth l i).res (if (nth l k).k=1 then (nth l k).arg else (nth l k).res)
def YT (l:List OpV) (i:Nat):Option (Nat×Nat×Nat):=if (nth l i).k≠0 then none else match (zE l l.length).find? (VD l i 0) with
 | some k => some (0, k, i)
 | none => ((zE l l.length).find? (VD l i 1)).map fun k => (1, k, i)
def zi6 (l:List OpV):Option (Nat×Nat×Nat):=(zE l l.length).findSome? (YT l)
def zbT (l:List OpV):List FV:=match zi6 l with
 | some (r, k, i) => VW 6 (9+r) (nth l i).key [k, i] []
 | none => VW 6 0 0 [] []
def zla (l:List OpV):FV:=if YG l≠0 then .tup [.agg [.int .i64 0,.int .i64 0,.int .i64 0,.nil,.nil],.int .i64 (YG l)] else .tup [.agg (zbT l),.int .i64 0]
set_option maxHeartbeats 8000000 in
theorem zb6 (l:List OpV) (hl:l.length≤1000) (hin:∀ o∈l,zaW o):yn Try.prog 19 [.list 8 (l.map OpV.fv)] .sh (zla l):=by
 have hdm:=VJ l (by omega) hin
 obtain ⟨R,hR⟩:∃ R,zla l=R:=⟨_,rfl⟩
 have hRh:R.hand=none:=by rw [← hR];unfold zla;split <;> rfl
 rw [hR]
 have hR1:YG l≠0→R=.tup [.agg [.int .i64 0,.int .i64 0,.int .i64 0,.nil,.nil],.int .i64 (YG l)]:=fun h=>by rw [← hR];unfold zla;rw [if_pos h]
 have hR2:YG l=0→R=.tup [.agg (zbT l),.int .i64 0]:=fun h=>by rw [← hR];unfold zla;rw [if_neg (by simpa using h)]
 have hdom:YG l=0→YV l:=fun h=>by
  unfold YG at h
  split at h
  ·rename_i h1;exact absurd h h1
  ·split at h
   ·assumption
   ·cases h
 clear hR
 obtain ⟨e,he⟩:∃ e,YG l=e:=⟨_,rfl⟩
 rw [he] at hdm hR1 hR2 hdom
 have hb:=fun hd=>zbf l (by omega) hin hd
 rw [zhI] at hb
 change YV l→yn _ _ _ _ (zdW l) at hb
 have hol:=fun key v u h1 h2 h3=>zgF l key v u hl hin h1 h2 h3
 obtain ⟨I,hI⟩:∃ I,I=zE l l.length:=⟨_,rfl⟩
 have hIl:I.length≤l.length:=by rw [hI];exact Yi l l.length
 have hIm:∀ j,j<I.length→nth I j<l.length:=fun j hj=>by have:=zC hj;rw [hI] at this ⊢;exact yT this
 have hyes:e=0→∀ j r m,j<I.length→(∀ i,i<j→YT l (nth I i)=none)→(nth l (nth I j)).k=0→(r=0∨(r=1∧∀ i,i<I.length→VD l (nth I j) 0 (nth I i)=false))→m<I.length→(∀ i,i<m→VD l (nth I j) r (nth I i)=false)→VD l (nth I j) r (nth I m)=true→R=.tup [.agg (VW 6 (9+r) (nth l (nth I j)).key [nth I m,nth I j] []),.int .i64 0]:=fun h0 j r m h1 h2 h3 h4 h5 h6 h7=>by
  have h8:YT l (nth I j)=some (r,nth I m,nth I j):=by
   unfold YT
   rw [if_neg (by simpa using h3),← hI]
   rcases h4 with rfl|⟨rfl,h4⟩
   ·rw [Xd h6 h5 h7]
   ·rw [Vs h4,Xd h6 h5 h7];rfl
  rw [hR2 h0];unfold zbT zi6;rw [← hI,YH h2 h1 h8]
 have hno:e=0→(∀ i,i<I.length→YT l (nth I i)=none)→R=.tup [.agg (VW 6 0 0 [] []),.int .i64 0]:=fun h0 h=>by
  rw [hR2 h0];unfold zbT zi6;rw [← hI,We h]
 have hat0:∀ i,(nth l i).k≠0→YT l i=none:=fun i h=>by unfold YT;rw [if_pos h]
 have hat1:∀ i,(∀ m,m<I.length→VD l i 0 (nth I m)=false)→(∀ m,m<I.length→VD l i 1 (nth I m)=false)→YT l i=none:=fun i h2 h3=>by
  unfold YT;split
  ·rfl
  ·rw [← hI,Vs h2,Vs h3];rfl
 unfold zdW at hb hol
 rw [← hI] at hb hol
 obtain ⟨r2,hr2⟩:∃ r2,r2=FV.smap (yE l l.length):=⟨_,rfl⟩
 obtain ⟨C,hC⟩:∃ C,C=List.map (fun q=>[xk (KC l q)]) (List.range l.length):=⟨_,rfl⟩
 unfold zgU at hb hol
 rw [← hr2,← hC] at hb hol
 clear hr2 hC
 refine yn.of_body (c:=(ZO Try.prog zI zA 109)) ⟨Try.func19,rfl,Try.ntmps19,by kernel_rfl⟩ (by simp [FV.hand]) (by exact Nat.le_of_ble_eq_true rfl) hRh ?_
 change FW _ _ _ ⟨[(0,.list 8 (l.map OpV.fv))],[]⟩
 (repeat (first|refine FW.seq ?_|refine FW.region ?_|refine zc.nil ?_|refine zD rfl rfl rfl rfl rfl rfl rfl ?_|refine zb rfl rfl rfl ?_|refine za rfl rfl rfl ?_))
 refine yu hdm (by repeat (first|exact zG.nil|refine zG.cons (by exact Zq.plain rfl rfl) ?_)) rfl rfl ?_
 (repeat (first|refine FW.seq ?_|refine FW.region ?_|refine zc.nil ?_|refine zb rfl rfl rfl ?_|refine za rfl rfl rfl ?_|refine xt rfl rfl rfl rfl ?_))
 refine FW.cond rfl (fun h=>?_) (fun h=>?_)
 ·rw [hR1 (by simpa using h)]
  (repeat (first|refine FW.seq ?_|refine FW.region ?_|refine zc.nil ?_|refine zb rfl rfl rfl ?_|refine za rfl rfl rfl ?_|refine zT rfl rfl rfl rfl ?_|refine zm rfl rfl rfl rfl rfl rfl rfl rfl rfl ?_|refine zV.nil ?_))
  exact FW.ret ⟨.inl rfl,.sh (.cons (ye rfl rfl rfl rfl rfl rfl (by decide)) (.cons (.tmp 3 rfl rfl) .nil)) rfl rfl⟩
 have he0:e=0:=by simpa using h
 subst he0
 have hR2:=hR2 rfl
 have hb:=hb (hdom rfl)
 have hyes:=hyes rfl
 have hno:=hno rfl
 clear h hR1 hdom
 (repeat (first|refine FW.seq ?_|refine FW.region ?_|refine FW.skip ?_|refine za rfl rfl rfl ?_))
 refine xJ hb (by repeat (first|exact zG.nil|refine zG.cons (by exact Zq.plain rfl rfl) ?_)) rfl rfl ?_
 (repeat (first|refine FW.seq ?_|refine FW.region ?_|refine FW.block ?_|refine zc.nil ?_|refine zb rfl rfl rfl ?_|refine za rfl rfl rfl ?_|refine yP rfl rfl rfl ?_|refine zQ rfl rfl rfl rfl rfl rfl rfl ?_|refine zj rfl rfl rfl (by simp;done) rfl rfl rfl rfl rfl ?_|refine zp rfl rfl (by first|exact List.length_map _|rfl|(simp;done)) rfl rfl ?_))
 refine FW.loop (fun j:Nat=>⟨[(0,.list 8 (l.map OpV.fv)),(2,.ptr 102 0 0 0),(5,.eptr 4 [[.list 8 (l.map OpV.fv),.list 1 (I.map yK),r2,.list 1 C]] 0 0),(26,.list 1 (I.map yK)),(27,.int .i64 I.length),(28,.int .i64 j)],[(102,⟨0,.own,36,5,[[.int .i64 0,.int .i64 0,.int .i64 0,.nil,.nil]]⟩)]⟩) (fun j=>j≤I.length∧∀ i,i<j→YT l (nth I i)=none) (fun j=>I.length - j) 0 ⟨Nat.zero_le _,fun i hi=>absurd hi (Nat.not_lt_zero _)⟩ ?_ ?_
 ·exact (FLe.cv [⟨102,some 2,0+1,⟨0,.own,36,5,[[.int .i64 0,.int .i64 0,.int .i64 0,.nil,.nil]]⟩⟩] (by repeat (first|exact .nil|refine .old rfl (by decide) rfl ?_)) (by repeat (first|exact .nil|refine .cons (.plain rfl rfl rfl) ?_|refine .cons (.ptr rfl (.head _) rfl) ?_)))
 rintro j ⟨hj,hpre⟩
 (repeat (first|refine FW.seq ?_|refine FW.region ?_|refine zc.nil ?_|refine zX rfl rfl rfl rfl ?_))
 refine FW.cond rfl (fun h=>?_) (fun h=>?_)
 ·have hjl:j<I.length:=by simpa using h
  clear h
  have hyes:=fun r m=>hyes j r m hjl hpre
  have hnext:YT l (nth I j)=none→∀ i,i<j+1→YT l (nth I i)=none:=fun h i hi=>by
   rcases Nat.lt_succ_iff_lt_or_eq.1 hi with h'|rfl
   ·exact hpre i h'
   ·exact h
  have hii:=hIm j hjl
  have hoin:=hin _ (zC hii)
  obtain ⟨i,hi⟩:∃ i,nth I j=i:=⟨_,rfl⟩
  rw [hi] at hii hyes hnext hoin
  have hat0:=hat0 i
  have hat1:=hat1 i
  have hsB:∀ r k,VD l i r k=(decide (k<i) && decide ((nth l k).p=(nth l i).p) && decide ((nth l k).key=(nth l i).key) && (decide ((nth l k).k=1) == decide (r=0)) && zbH l (nth l i).key (nth l i).res (if (nth l k).k=1 then (nth l k).arg else (nth l k).res)):=fun r k=>rfl
  obtain ⟨o,hoe⟩:∃ o,nth l i=o:=⟨_,rfl⟩
  rw [hoe] at hyes hat0 hoin
  rw [hoe] at hsB
  (repeat (first|refine FW.seq ?_|refine FW.region ?_|refine FW.block ?_|refine FW.skip ?_|refine zc.nil ?_|refine zD rfl rfl rfl rfl rfl rfl rfl ?_|refine zb rfl rfl rfl ?_|refine za rfl rfl rfl ?_|refine xt rfl rfl rfl rfl ?_|refine zm rfl rfl rfl rfl rfl rfl rfl rfl rfl ?_|refine zi rfl rfl rfl rfl rfl rfl (by decide) rfl rfl ?_|refine zj rfl rfl rfl (by first|(simp;omega)|(simp;done)) (by first|exact zf (by omega)|rfl) rfl rfl rfl rfl ?_|refine zq rfl rfl rfl rfl rfl (by first|(simp;omega)|(simp;done)) (by first|exact zf (by omega)|rfl) rfl rfl rfl rfl ?_|refine yO rfl rfl rfl (by decide) (by first|(simp;omega)|(simp;done)) (by first|exact zf (by omega)|rfl) rfl rfl rfl ?_|refine zn rfl rfl rfl rfl rfl rfl (by first|(simp;omega)|(simp;done)) rfl rfl ?_))
  rw [hi]
  skip
  rw [hoe]
  skip
  refine FW.cond rfl (fun h1=>?_) (fun h1=>?_)
  ·(repeat (first|refine FW.region ?_|refine FW.exit ?_|refine zc.nil ?_|refine za rfl rfl rfl ?_|refine zu rfl rfl (by omega) rfl rfl ?_))
   refine ⟨j+1,⟨by omega,hnext (hat0 (by simpa using h1))⟩,by omega,?_⟩
   exact (FLe.cv [⟨102,some 102,0,⟨0,.own,36,5,[[.int .i64 0,.int .i64 0,.int .i64 0,.nil,.nil]]⟩⟩] (by repeat (first|exact .nil|refine .old rfl (by decide) rfl ?_)) (by repeat (first|exact .nil|refine .cons (.plain rfl rfl rfl) ?_|refine .cons (.ptr rfl (.head _) rfl) ?_)))
  have hik:o.k=0:=by simpa using h1
  have hyes:=fun r m=>hyes r m hik
  (repeat (first|refine FW.seq ?_|refine FW.region ?_|refine FW.skip ?_))
  refine Yr (es:=([9,10]:List Int).map zy) rfl rfl rfl (by refine xQ.int rfl rfl ?_;refine xQ.int rfl rfl ?_;exact xQ.nil) rfl rfl rfl rfl rfl ?_
  (repeat (first|refine FW.block ?_|refine zc.nil ?_|refine za rfl rfl rfl ?_|refine zp rfl rfl (by exact List.length_map _) rfl rfl ?_))
  refine FW.loop (fun r:Nat=>⟨[(0,.list 8 (l.map OpV.fv)),(2,.ptr 102 0 0 0),(5,.eptr 4 [[.list 8 (l.map OpV.fv),.list 1 (I.map yK),r2,.list 1 C]] 0 0),(26,.list 1 (I.map yK)),(27,.int .i64 I.length),(28,.int .i64 j),(7,.int .i64 i),(8,.ptr 108 0 0 0),(39,.list 1 (([9,10]:List Int).map zy)),(40,.int .i64 2),(41,.int .i64 r)],[(102,⟨0,.own,36,5,[[.int .i64 0,.int .i64 0,.int .i64 0,.nil,.nil]]⟩),(108,⟨0,.own,43,8,[o.fv]⟩)]⟩) (fun r=>r≤2∧(1≤r→∀ m,m<I.length→VD l i 0 (nth I m)=false)∧(2≤r→∀ m,m<I.length→VD l i 1 (nth I m)=false)) (fun r=>2 - r) 0 ⟨Nat.zero_le _,by omega,by omega⟩ ?_ ?_
  ·exact (FLe.cv [⟨102,some 102,0,⟨0,.own,36,5,[[.int .i64 0,.int .i64 0,.int .i64 0,.nil,.nil]]⟩⟩,⟨108,some 8,0+1,⟨0,.own,43,8,[o.fv]⟩⟩] (by repeat (first|exact .nil|refine .old rfl (by decide) rfl ?_)) (by repeat (first|exact .nil|refine .cons (.plain rfl rfl rfl) ?_|refine .cons (.ptr rfl (.head _) rfl) ?_|refine .cons (.ptr rfl (.tail _ (.head _)) rfl) ?_)))
  rintro r ⟨hr,hr1,hr2⟩
  (repeat (first|refine FW.seq ?_|refine FW.region ?_|refine zc.nil ?_|refine zX rfl rfl rfl rfl ?_))
  refine FW.cond rfl (fun h=>?_) (fun h=>?_)
  ·have hrl:r<2:=by simp at h;omega
   clear h
   obtain ⟨cl,hcl⟩:∃ cl:Int,nth [9,10] r=cl:=⟨_,rfl⟩
   have hcl2:cl=9+(r:Int):=by
    have:r=0∨r=1:=by omega
    rcases this with rfl|rfl <;> (rw [← hcl];rfl)
   have hll:([9,10]:List Int).length=2:=rfl
   (repeat (first|refine FW.seq ?_|refine FW.region ?_|refine FW.block ?_|refine FW.skip ?_|refine zc.nil ?_|refine zb rfl rfl rfl ?_|refine za rfl rfl rfl ?_|refine yP rfl rfl rfl ?_|refine zQ rfl rfl rfl rfl rfl rfl rfl ?_|refine zj rfl rfl rfl (by first|(simp;omega)|(simp;done)) (by first|exact zf (by omega)|rfl) rfl rfl rfl rfl ?_|refine zp rfl rfl (by first|exact List.length_map _|rfl|(simp;done)|(simp;omega)) rfl rfl ?_|refine zn rfl rfl rfl rfl rfl rfl (by first|(simp;omega)|(simp;done)) rfl rfl ?_))
   rw [hcl]
   skip
   refine FW.loop (fun m:Nat=>⟨[(0,.list 8 (l.map OpV.fv)),(2,.ptr 102 0 0 0),(5,.eptr 4 [[.list 8 (l.map OpV.fv),.list 1 (I.map yK),r2,.list 1 C]] 0 0),(26,.list 1 (I.map yK)),(27,.int .i64 I.length),(28,.int .i64 j),(7,.int .i64 i),(8,.ptr 108 0 0 0),(39,.list 1 (([9,10]:List Int).map zy)),(40,.int .i64 2),(41,.int .i64 r),(10,.int .i64 cl),(48,.list 1 (I.map yK)),(49,.int .i64 I.length),(50,.int .i64 m)],[(102,⟨0,.own,36,5,[[.int .i64 0,.int .i64 0,.int .i64 0,.nil,.nil]]⟩),(108,⟨0,.own,43,8,[o.fv]⟩)]⟩) (fun m=>m≤I.length∧∀ q,q<m→VD l i r (nth I q)=false) (fun m=>I.length - m) 0 ⟨Nat.zero_le _,fun i hi=>absurd hi (Nat.not_lt_zero _)⟩ ?_ ?_
   ·exact (FLe.cv [⟨102,some 102,0,⟨0,.own,36,5,[[.int .i64 0,.int .i64 0,.int .i64 0,.nil,.nil]]⟩⟩,⟨108,some 108,0,⟨0,.own,43,8,[o.fv]⟩⟩] (by repeat (first|exact .nil|refine .old rfl (by decide) rfl ?_)) (by repeat (first|exact .nil|refine .cons (.plain rfl rfl rfl) ?_|refine .cons (.ptr rfl (.head _) rfl) ?_|refine .cons (.ptr rfl (.tail _ (.head _)) rfl) ?_)))
   rintro m ⟨hm,hpre3⟩
   (repeat (first|refine FW.seq ?_|refine FW.region ?_|refine zc.nil ?_|refine zX rfl rfl rfl rfl ?_))
   refine FW.cond rfl (fun h=>?_) (fun h=>?_)
   ·have hml:m<I.length:=by simpa using h
    clear h
    have hyes:=hyes r m (by
     have:r=0∨r=1:=by omega
     rcases this with rfl|rfl
     ·exact .inl rfl
     ·exact .inr ⟨rfl,hr1 (by omega)⟩) hml hpre3
    rw [← hcl2] at hyes
    have hnext3:VD l i r (nth I m)=false→∀ q,q<m+1→VD l i r (nth I q)=false:=fun h q hq=>by
     rcases Nat.lt_succ_iff_lt_or_eq.1 hq with h'|rfl
     ·exact hpre3 q h'
     ·exact h
    have hkn:=hIm m hml
    have hpin:=hin _ (zC hkn)
    obtain ⟨k,hk⟩:∃ k,nth I m=k:=⟨_,rfl⟩
    rw [hk] at hkn hyes hnext3 hpin
    have hsb:=hsB r k
    obtain ⟨p,hpe⟩:∃ p,nth l k=p:=⟨_,rfl⟩
    rw [hpe] at hsb hpin
    (repeat (first|refine FW.seq ?_|refine FW.region ?_|refine FW.block ?_|refine FW.skip ?_|refine zc.nil ?_|refine zD rfl rfl rfl rfl rfl rfl rfl ?_|refine zb rfl rfl rfl ?_|refine za rfl rfl rfl ?_|refine zm rfl rfl rfl rfl rfl rfl rfl rfl rfl ?_|refine zj rfl rfl rfl (by simp;omega) (by first|exact zf (by omega)|rfl) rfl rfl rfl rfl ?_|refine yO rfl rfl rfl (by decide) (by simp;omega) (by first|exact zf (by omega)|rfl) rfl rfl rfl ?_|refine zn rfl rfl rfl rfl rfl rfl (by simp;omega) rfl rfl ?_|refine zd2 rfl rfl rfl rfl ?_))
    rw [hk]
    skip
    rw [hpe]
    skip
    refine yc (fun h2=>?_) (fun h2=>?_)
    ·(repeat (first|refine FW.region ?_|refine FW.exit ?_|refine FW.condT rfl ?_|refine zc.nil ?_|refine za rfl rfl rfl ?_|refine zJ rfl rfl rfl rfl ?_|refine zu rfl rfl (by omega) rfl rfl ?_|refine yd rfl rfl ⟨_,_,rfl,rfl,rfl⟩ ?_))
     refine ⟨m+1,⟨by omega,hnext3 ?_⟩,by omega,(FLe.cv [⟨102,some 102,0,⟨0,.own,36,5,[[.int .i64 0,.int .i64 0,.int .i64 0,.nil,.nil]]⟩⟩,⟨108,some 108,0,⟨0,.own,43,8,[o.fv]⟩⟩] (by repeat (first|exact .nil|refine .old rfl (by decide) rfl ?_)) (by repeat (first|exact .nil|refine .cons (.plain rfl rfl rfl) ?_|refine .cons (.ptr rfl (.head _) rfl) ?_|refine .cons (.ptr rfl (.tail _ (.head _)) rfl) ?_)))⟩
     rw [hsb,decide_eq_false (show ¬ k<i by simp at h2;omega)];simp
    have hki:k<i:=by simp at h2;omega
    rw [decide_eq_true hki,Bool.true_and] at hsb
    (repeat (first|refine za rfl rfl rfl ?_|refine zK rfl rfl rfl rfl ?_|refine zi rfl rfl rfl rfl rfl rfl (by decide) rfl ⟨_,_,rfl,rfl,rfl⟩ ?_|refine zq rfl rfl rfl rfl rfl (by simp;done) rfl rfl rfl rfl ⟨_,_,rfl,rfl,rfl⟩ ?_|refine xt rfl rfl rfl ⟨_,_,rfl,rfl,rfl⟩ ?_))
    refine yc (fun h3=>?_) (fun h3=>?_)
    ·(repeat (first|refine FW.region ?_|refine FW.exit ?_|refine FW.condT rfl ?_|refine zc.nil ?_|refine za rfl rfl rfl ?_|refine zJ rfl rfl rfl rfl ?_|refine zu rfl rfl (by omega) rfl rfl ?_|refine yd rfl rfl ⟨_,_,rfl,rfl,rfl⟩ ?_))
     refine ⟨m+1,⟨by omega,hnext3 ?_⟩,by omega,(FLe.cv [⟨102,some 102,0,⟨0,.own,36,5,[[.int .i64 0,.int .i64 0,.int .i64 0,.nil,.nil]]⟩⟩,⟨108,some 108,0,⟨0,.own,43,8,[o.fv]⟩⟩] (by repeat (first|exact .nil|refine .old rfl (by decide) rfl ?_)) (by repeat (first|exact .nil|refine .cons (.plain rfl rfl rfl) ?_|refine .cons (.ptr rfl (.head _) rfl) ?_|refine .cons (.ptr rfl (.tail _ (.head _)) rfl) ?_)))⟩
     rw [hsb,decide_eq_false (show ¬ p.p=o.p by simpa using h3)];simp
    rw [decide_eq_true (show p.p=o.p by simpa using h3),Bool.true_and] at hsb
    (repeat (first|refine za rfl rfl rfl ?_|refine zK rfl rfl rfl rfl ?_|refine zi rfl rfl rfl rfl rfl rfl (by decide) rfl ⟨_,_,rfl,rfl,rfl⟩ ?_|refine zq rfl rfl rfl rfl rfl (by simp;done) rfl rfl rfl rfl ⟨_,_,rfl,rfl,rfl⟩ ?_|refine xt rfl rfl rfl ⟨_,_,rfl,rfl,rfl⟩ ?_))
    refine yc (fun h4=>?_) (fun h4=>?_)
    ·(repeat (first|refine FW.region ?_|refine FW.exit ?_|refine FW.condT rfl ?_|refine zc.nil ?_|refine za rfl rfl rfl ?_|refine zJ rfl rfl rfl rfl ?_|refine zu rfl rfl (by omega) rfl rfl ?_|refine yd rfl rfl ⟨_,_,rfl,rfl,rfl⟩ ?_))
     refine ⟨m+1,⟨by omega,hnext3 ?_⟩,by omega,(FLe.cv [⟨102,some 102,0,⟨0,.own,36,5,[[.int .i64 0,.int .i64 0,.int .i64 0,.nil,.nil]]⟩⟩,⟨108,some 108,0,⟨0,.own,43,8,[o.fv]⟩⟩] (by repeat (first|exact .nil|refine .old rfl (by decide) rfl ?_)) (by repeat (first|exact .nil|refine .cons (.plain rfl rfl rfl) ?_|refine .cons (.ptr rfl (.head _) rfl) ?_|refine .cons (.ptr rfl (.tail _ (.head _)) rfl) ?_)))⟩
     rw [hsb,decide_eq_false (show ¬ p.key=o.key by simpa using h4)];simp
    rw [decide_eq_true (show p.key=o.key by simpa using h4),Bool.true_and] at hsb
    (repeat (first|refine zc.nil ?_|refine zK rfl rfl rfl rfl ?_|refine zi rfl rfl rfl rfl rfl rfl (by decide) rfl ⟨_,_,rfl,rfl,rfl⟩ ?_|refine zq rfl rfl rfl rfl rfl (by simp;done) rfl rfl rfl rfl ⟨_,_,rfl,rfl,rfl⟩ ?_|refine zk7 rfl rfl rfl rfl ⟨_,_,rfl,rfl,rfl⟩ ?_|refine yG rfl rfl rfl ⟨_,_,rfl,rfl,rfl⟩ ?_|refine za rfl rfl ⟨_,_,rfl,rfl,rfl⟩ ?_))
    have hc9:decide (cl=9)=decide (r=0):=by rw [hcl2];exact decide_eq_decide.2 (by omega)
    rw [hc9]
    refine FW.cond rfl (fun h5=>?_) (fun h5=>?_)
    ·(repeat (first|refine FW.region ?_|refine FW.exit ?_|refine zc.nil ?_|refine za rfl rfl rfl ?_|refine zu rfl rfl (by omega) rfl rfl ?_))
     refine ⟨m+1,⟨by omega,hnext3 ?_⟩,by omega,(FLe.cv [⟨102,some 102,0,⟨0,.own,36,5,[[.int .i64 0,.int .i64 0,.int .i64 0,.nil,.nil]]⟩⟩,⟨108,some 108,0,⟨0,.own,43,8,[o.fv]⟩⟩] (by repeat (first|exact .nil|refine .old rfl (by decide) rfl ?_)) (by repeat (first|exact .nil|refine .cons (.plain rfl rfl rfl) ?_|refine .cons (.ptr rfl (.head _) rfl) ?_|refine .cons (.ptr rfl (.tail _ (.head _)) rfl) ?_)))⟩
     rw [hsb,show (decide (p.k=1) == decide (r=0))=false by simpa using h5,Bool.false_and]
    rw [show (decide (p.k=1) == decide (r=0))=true by simpa using h5,Bool.true_and] at hsb
    (repeat (first|refine FW.seq ?_|refine FW.region ?_|refine FW.skip ?_|refine zc.nil ?_|refine zb rfl rfl rfl ?_|refine zi rfl rfl rfl rfl rfl rfl (by decide) rfl rfl ?_|refine zq rfl rfl rfl rfl rfl (by simp;done) rfl rfl rfl rfl rfl ?_|refine yG rfl rfl rfl rfl ?_))
    refine FW.cond rfl (fun h7=>?_) (fun h7=>?_)
    ·have h7:p.k=1:=by simpa using h7
     rw [if_pos h7] at hsb
     have hold:=hol o.key o.res p.arg hoin.2.2.1 hoin.2.2.2.2.1 hpin.2.2.2.1
     generalize zbH l o.key o.res p.arg=ob at hold hsb
     (repeat (first|refine FW.seq ?_|refine FW.region ?_|refine zc.nil ?_|refine zb rfl rfl rfl ?_|refine za rfl rfl rfl ?_|refine zi rfl rfl rfl rfl rfl rfl (by decide) rfl rfl ?_|refine zq rfl rfl rfl rfl rfl (by simp;done) rfl rfl rfl rfl rfl ?_))
     refine yu hold (by repeat (first|exact zG.nil|refine zG.cons (by exact Zq.plain rfl rfl) ?_)) rfl rfl ?_
     (repeat (first|refine zc.nil ?_))
     refine FW.cond rfl (fun h6=>?_) (fun h6=>?_)
     ·rw [hyes (by rw [hsb,h6])]
      (repeat (first|refine FW.seq ?_|refine FW.region ?_|refine za rfl rfl rfl ?_|refine zi rfl rfl rfl rfl rfl rfl (by decide) rfl rfl ?_|refine zq rfl rfl rfl rfl rfl (by simp;done) rfl rfl rfl rfl rfl ?_))
      refine Yr (es:=[yK k,yK i]) rfl rfl rfl (by refine xQ.int rfl rfl ?_;refine xQ.int rfl rfl ?_;exact xQ.nil) rfl rfl rfl rfl rfl ?_
      (repeat (first|refine zc.nil ?_|refine zb rfl rfl rfl ?_|refine zT rfl rfl rfl rfl ?_|refine zm rfl rfl rfl rfl rfl rfl rfl rfl rfl ?_|refine zV.nil ?_|refine zV.one rfl rfl rfl rfl rfl ?_|refine zV.agg rfl rfl rfl rfl (List.cons_ne_nil _ _) rfl ?_))
      exact FW.ret ⟨.inl rfl,.sh (.cons (ye rfl rfl rfl rfl rfl rfl (by decide)) (.cons (.tmp 3 rfl rfl) .nil)) rfl rfl⟩
     ·(repeat (first|refine FW.region ?_|refine FW.skip ?_|refine zc.nil ?_|refine za rfl rfl rfl ?_|refine zu rfl rfl (by omega) rfl rfl ?_))
      refine ⟨m+1,⟨by omega,hnext3 ?_⟩,by omega,(FLe.cv [⟨102,some 102,0,⟨0,.own,36,5,[[.int .i64 0,.int .i64 0,.int .i64 0,.nil,.nil]]⟩⟩,⟨108,some 108,0,⟨0,.own,43,8,[o.fv]⟩⟩] (by repeat (first|exact .nil|refine .old rfl (by decide) rfl ?_)) (by repeat (first|exact .nil|refine .cons (.plain rfl rfl rfl) ?_|refine .cons (.ptr rfl (.head _) rfl) ?_|refine .cons (.ptr rfl (.tail _ (.head _)) rfl) ?_)))⟩
      rw [hsb,h6]
    ·have h7:¬ p.k=1:=by simpa using h7
     rw [if_neg h7] at hsb
     have hold:=hol o.key o.res p.res hoin.2.2.1 hoin.2.2.2.2.1 hpin.2.2.2.2.1
     generalize zbH l o.key o.res p.res=ob at hold hsb
     (repeat (first|refine FW.seq ?_|refine FW.region ?_|refine FW.skip ?_|refine za rfl rfl rfl ?_|refine zi rfl rfl rfl rfl rfl rfl (by decide) rfl rfl ?_|refine zq rfl rfl rfl rfl rfl (by simp;done) rfl rfl rfl rfl rfl ?_))
     refine yu hold (by repeat (first|exact zG.nil|refine zG.cons (by exact Zq.plain rfl rfl) ?_)) rfl rfl ?_
     (repeat (first|refine zc.nil ?_))
     refine FW.cond rfl (fun h6=>?_) (fun h6=>?_)
     ·rw [hyes (by rw [hsb,h6])]
      (repeat (first|refine FW.seq ?_|refine FW.region ?_|refine za rfl rfl rfl ?_|refine zi rfl rfl rfl rfl rfl rfl (by decide) rfl rfl ?_|refine zq rfl rfl rfl rfl rfl (by simp;done) rfl rfl rfl rfl rfl ?_))
      refine Yr (es:=[yK k,yK i]) rfl rfl rfl (by refine xQ.int rfl rfl ?_;refine xQ.int rfl rfl ?_;exact xQ.nil) rfl rfl rfl rfl rfl ?_
      (repeat (first|refine zc.nil ?_|refine zb rfl rfl rfl ?_|refine zT rfl rfl rfl rfl ?_|refine zm rfl rfl rfl rfl rfl rfl rfl rfl rfl ?_|refine zV.nil ?_|refine zV.one rfl rfl rfl rfl rfl ?_|refine zV.agg rfl rfl rfl rfl (List.cons_ne_nil _ _) rfl ?_))
      exact FW.ret ⟨.inl rfl,.sh (.cons (ye rfl rfl rfl rfl rfl rfl (by decide)) (.cons (.tmp 3 rfl rfl) .nil)) rfl rfl⟩
     ·(repeat (first|refine FW.region ?_|refine FW.skip ?_|refine zc.nil ?_|refine za rfl rfl rfl ?_|refine zu rfl rfl (by omega) rfl rfl ?_))
      refine ⟨m+1,⟨by omega,hnext3 ?_⟩,by omega,(FLe.cv [⟨102,some 102,0,⟨0,.own,36,5,[[.int .i64 0,.int .i64 0,.int .i64 0,.nil,.nil]]⟩⟩,⟨108,some 108,0,⟨0,.own,43,8,[o.fv]⟩⟩] (by repeat (first|exact .nil|refine .old rfl (by decide) rfl ?_)) (by repeat (first|exact .nil|refine .cons (.plain rfl rfl rfl) ?_|refine .cons (.ptr rfl (.head _) rfl) ?_|refine .cons (.ptr rfl (.tail _ (.head _)) rfl) ?_)))⟩
      rw [hsb,h6]
   ·have hme:m=I.length:=by simp at h;omega
    subst hme
    (repeat (first|refine FW.region ?_|refine FW.exit ?_|refine zc.nil ?_|refine za rfl rfl rfl ?_|refine zu rfl rfl (by omega) rfl rfl ?_))
    refine ⟨r+1,⟨by omega,fun _=>?_,fun h=>?_⟩,by omega,?_⟩
    ·have:r=0∨r=1:=by omega
     rcases this with rfl|rfl
     ·exact hpre3
     ·exact hr1 (by omega)
    ·have:r=1:=by omega
     subst this;exact hpre3
    ·exact (FLe.cv [⟨102,some 102,0,⟨0,.own,36,5,[[.int .i64 0,.int .i64 0,.int .i64 0,.nil,.nil]]⟩⟩,⟨108,some 108,0,⟨0,.own,43,8,[o.fv]⟩⟩] (by repeat (first|exact .nil|refine .old rfl (by decide) rfl ?_)) (by repeat (first|exact .nil|refine .cons (.plain rfl rfl rfl) ?_|refine .cons (.ptr rfl (.head _) rfl) ?_|refine .cons (.ptr rfl (.tail _ (.head _)) rfl) ?_)))
  ·have hre:r=2:=by simp at h;omega
   subst hre
   (repeat (first|refine FW.region ?_|refine FW.exit ?_|refine zc.nil ?_|refine za rfl rfl rfl ?_|refine zu rfl rfl (by omega) rfl rfl ?_))
   refine ⟨j+1,⟨by omega,hnext (hat1 (hr1 (by omega)) (hr2 (by omega)))⟩,by omega,?_⟩
   exact (FLe.cv [⟨102,some 102,0,⟨0,.own,36,5,[[.int .i64 0,.int .i64 0,.int .i64 0,.nil,.nil]]⟩⟩] (by repeat (first|exact .nil|refine .old rfl (by decide) rfl ?_)) (by repeat (first|exact .nil|refine .cons (.plain rfl rfl rfl) ?_|refine .cons (.ptr rfl (.head _) rfl) ?_)))
 ·have hje:j=I.length:=by simp at h;omega
  subst hje
  rw [hno hpre]
  (repeat (first|refine FW.seq ?_|refine FW.region ?_|refine FW.exit ?_|refine zc.nil ?_|refine zb rfl rfl rfl ?_|refine zT rfl rfl rfl rfl ?_|refine zm rfl rfl rfl rfl rfl rfl rfl rfl rfl ?_|refine zV.nil ?_|refine zV.one rfl rfl rfl rfl rfl ?_))
  exact FW.ret ⟨.inl rfl,.sh (.cons (ye rfl rfl rfl rfl rfl rfl (by decide)) (.cons (.tmp 3 rfl rfl) .nil)) rfl rfl⟩
end Go.Proofs.Ytmnmakhpjgjdaaa
