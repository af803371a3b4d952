/-
  causal.Session, at plain values.
-/
import Derived.Test.YtmnmakhpjgjdaaaZFmTopoL
namespace Go.Proofs.Ytmnmakhpjgjdaaa
set_option linter.unusedVariables false
open Go.RowKit

def olderB (l:List OpV) (key v u:Int):Bool:=if v=0 then decide (u≠0) else match cIx l key v,cIx l key u with
 | some a, some b => decide ((nth l a).p=(nth l b).p) && decide (a<b)
 | _, _ => false
set_option maxHeartbeats 4000000 in
theorem zgg (l:List OpV) (key v u:Int) (hl:l.length≤1000) (hin:∀ o∈l,Uc o) (h1:I64 key) (h2:I64 v) (h3:I64 u):yl Try.prog 40 [zdD l,.int .i64 key,.int .i64 v,.int .i64 u] .fr (.bool (olderB l key v u)):=by
 have hlv:=zhP l key v
 have hlu:=zhP l key u
 have hkk:=Ui (l:=l) (i:=l.length) (Nat.le_refl _) hin
 have hv:=fun a=>Xn (l:=l) (a:=key) (b:=v) (w:=a)
 have hu:=fun a=>Xn (l:=l) (a:=key) (b:=u) (w:=a)
 unfold olderB
 unfold zdD zgv
 generalize cIx l key v=A at hlv hv ⊢
 generalize cIx l key u=B at hlu hu ⊢
 generalize yA l l.length=CR at hlv hlu hkk ⊢
 obtain ⟨f1,hf1⟩:∃ f1,f1=FV.list 1 ((inclN l l.length).map yH):=⟨_,rfl⟩
 obtain ⟨f3,hf3⟩:∃ f3,f3=FV.list 1 ((List.range l.length).map fun q=>[xc (KC l q)]):=⟨_,rfl⟩
 rw [← hf1,← hf3]
 clear hf1 hf3
 refine yl.of_body (c:=(ZJ Try.prog zH zB 67)) ⟨Try.func40,rfl,Try.ntmps40,by kernel_rfl⟩ (by simp [FV.hand]) (by exact Nat.le_of_ble_eq_true rfl) rfl ?_
 change FW _ _ _ ⟨[(0,.eptr 4 [[.list 8 (l.map OpV.fv),f1,.smap CR,f3]] 0 0),(1,.int .i64 key),(2,.int .i64 v),(3,.int .i64 u)],[]⟩
 (repeat (first|refine FW.seq ?_|refine FW.region ?_|refine zc.nil ?_|refine zb rfl rfl rfl ?_|refine za rfl rfl rfl ?_|refine yO rfl rfl rfl rfl ?_))
 refine FW.cond rfl (fun h=>?_) (fun h=>?_)
 ·rw [if_pos (by simpa using h)]
  (repeat (first|refine FW.seq ?_|refine FW.region ?_|refine zc.nil ?_|refine zb rfl rfl rfl ?_|refine za rfl rfl rfl ?_|refine xC rfl rfl rfl rfl ?_))
  exact FW.ret ⟨.inl rfl,yb rfl rfl rfl rfl⟩
 rw [if_neg (by simpa using h)]
 clear h
 (repeat (first|refine FW.seq ?_|refine FW.region ?_|refine FW.skip ?_|refine za rfl rfl rfl ?_|refine yM rfl rfl rfl ?_|refine zT rfl rfl rfl rfl rfl rfl rfl ?_|refine zm rfl rfl rfl (by simp;done) rfl rfl rfl rfl rfl ?_|refine zS rfl rfl rfl rfl ?_|refine zU.nil ?_|refine zU.one rfl rfl rfl rfl rfl ?_))
 refine Xd (e:=3) WD hkk (VM h1 h2) hlv rfl rfl rfl rfl rfl rfl rfl ?_
 (repeat (first|refine FW.seq ?_|refine FW.region ?_|refine zc.nil ?_|refine zb rfl rfl rfl ?_|refine za rfl rfl rfl ?_|refine yM rfl rfl rfl ?_|refine zT rfl rfl rfl rfl rfl rfl rfl ?_|refine zm rfl rfl rfl (by simp;done) rfl rfl rfl rfl rfl ?_|refine zS rfl rfl rfl rfl ?_|refine zt rfl rfl rfl rfl rfl ?_|refine zU.nil ?_|refine zU.one rfl rfl rfl rfl rfl ?_))
 refine Xd (e:=3) WD hkk (VM h1 h3) hlu rfl rfl rfl rfl rfl rfl rfl ?_
 cases A with
 | none =>
  (repeat (first|refine FW.seq ?_|refine zc.nil ?_|refine zb rfl rfl rfl ?_|refine za rfl rfl rfl ?_|refine zt rfl rfl rfl rfl rfl ?_|refine FW.draw ?_|refine zF.nil ?_|refine yT rfl rfl rfl ?_|refine zR rfl rfl rfl ?_|refine ZP rfl rfl rfl rfl ?_|refine Xb rfl rfl ⟨_,_,rfl,rfl,rfl⟩ ?_))
  refine ⟨by kernel_rfl,?_⟩
  skip
  exact FW.ret ⟨.inl rfl,yb rfl rfl rfl rfl⟩
 | some a =>
 cases B with
 | none =>
  (repeat (first|refine FW.seq ?_|refine zc.nil ?_|refine zb rfl rfl rfl ?_|refine za rfl rfl rfl ?_|refine zt rfl rfl rfl rfl rfl ?_|refine FW.draw ?_|refine zF.nil ?_|refine yT rfl rfl rfl ?_|refine zR rfl rfl rfl ?_|refine ZQ rfl rfl rfl rfl ?_|refine ZP rfl rfl rfl rfl ?_|refine zR rfl rfl ⟨_,_,rfl,rfl,rfl⟩ ?_|refine Xb rfl rfl ⟨_,_,rfl,rfl,rfl⟩ ?_))
  refine ⟨by kernel_rfl,?_⟩
  skip
  exact FW.ret ⟨.inl rfl,yb rfl rfl rfl rfl⟩
 | some b =>
 have ha:=(hv a rfl).1
 have hb:=(hu b rfl).1
 dsimp only
 rw [Option.getD_some,Option.getD_some]
 (repeat (first|refine FW.seq ?_|refine zc.nil ?_|refine zb rfl rfl rfl ?_|refine za rfl rfl rfl ?_|refine zt rfl rfl rfl rfl rfl ?_|refine FW.draw ?_|refine zR rfl rfl rfl ?_|refine ZQ rfl rfl rfl rfl ?_|refine zR rfl rfl ⟨_,_,rfl,rfl,rfl⟩ ?_|refine Vi rfl rfl ⟨_,_,rfl,rfl,rfl⟩ ?_|refine Yf rfl rfl rfl rfl rfl rfl ⟨_,_,rfl,rfl,rfl⟩ ?_|refine xU rfl rfl rfl (by first|(simp;omega)|(simp;done)) (by first|exact zg (by omega)|rfl) rfl rfl rfl ⟨_,_,rfl,rfl,rfl⟩ ?_|refine ZD rfl rfl rfl rfl rfl rfl (by first|(simp;omega)|(simp;done)) rfl ⟨_,_,rfl,rfl,rfl⟩ ?_|refine zia rfl rfl rfl ⟨_,_,rfl,rfl,rfl⟩ ?_))
 refine zab (fun h4=>?_) (fun h4=>?_)
 ·have h4:(nth l a).p=(nth l b).p:=by simpa using h4
  (repeat (first|refine zF.nil ?_|refine yT rfl rfl rfl ?_|refine ZQ rfl rfl rfl rfl ?_|refine zR rfl rfl ⟨_,_,rfl,rfl,rfl⟩ ?_|refine zj2 rfl rfl rfl ⟨_,_,rfl,rfl,rfl⟩ ?_))
  refine ⟨by kernel_rfl,?_⟩
  skip
  refine FW.ret ⟨.inl rfl,yb rfl rfl ?_ rfl⟩
  rw [decide_eq_true h4,Bool.true_and]
  simp;rfl
 ·have h4:¬ (nth l a).p=(nth l b).p:=by simpa using h4
  (repeat (first|refine zF.nil ?_|refine yT rfl rfl rfl ?_|refine ZP rfl rfl rfl rfl ?_|refine Xb rfl rfl ⟨_,_,rfl,rfl,rfl⟩ ?_))
  refine ⟨by kernel_rfl,?_⟩
  skip
  refine FW.ret ⟨.inl rfl,yb rfl rfl ?_ rfl⟩
  rw [decide_eq_false h4,Bool.false_and];rfl
def sessB (l:List OpV) (i r k:Nat):Bool:=decide (k<i) && decide ((nth l k).p=(nth l i).p) && decide ((nth l k).key=(nth l i).key) && (decide ((nth l k).k=1) == decide (r=0)) && olderB l (nth l i).key (nth l i).res (if (nth l k).k=1 then (nth l k).arg else (nth l k).res)
def Yj (l:List OpV) (i:Nat):Option (Nat×Nat×Nat):=if (nth l i).k≠0 then none else match (inclN l l.length).find? (sessB l i 0) with
 | some k => some (0, k, i)
 | none => ((inclN l l.length).find? (sessB l i 1)).map fun k => (1, k, i)
def sessC (l:List OpV):Option (Nat×Nat×Nat):=(inclN l l.length).findSome? (Yj l)
def zbA (l:List OpV):List FV:=match sessC l with
 | some (r, k, i) => VC 6 (9+r) (nth l i).key [k, i] []
 | none => VC 6 0 0 [] []
def zkE (l:List OpV):FV:=if YJ l≠0 then .tup [.agg [.int .i64 0,.int .i64 0,.int .i64 0,.nil,.nil],.int .i64 (YJ l)] else .tup [.agg (zbA l),.int .i64 0]
set_option maxHeartbeats 8000000 in
theorem zbN (l:List OpV) (hl:l.length≤1000) (hin:∀ o∈l,Uc o):yl Try.prog 19 [.list 8 (l.map OpV.fv)] .sh (zkE l):=by
 have hdm:=Vq l (by omega) hin
 obtain ⟨R,hR⟩:∃ R,zkE l=R:=⟨_,rfl⟩
 have hRh:R.hand=none:=by rw [← hR];unfold zkE;split <;> rfl
 rw [hR]
 have hR1:YJ l≠0→R=.tup [.agg [.int .i64 0,.int .i64 0,.int .i64 0,.nil,.nil],.int .i64 (YJ l)]:=fun h=>by rw [← hR];unfold zkE;rw [if_pos h]
 have hR2:YJ l=0→R=.tup [.agg (zbA l),.int .i64 0]:=fun h=>by rw [← hR];unfold zkE;rw [if_neg (by simpa using h)]
 have hdom:YJ l=0→YT l:=fun h=>by
  unfold YJ at h
  split at h
  ·rename_i h1;exact absurd h h1
  ·split at h
   ·assumption
   ·cases h
 clear hR
 obtain ⟨e,he⟩:∃ e,YJ l=e:=⟨_,rfl⟩
 rw [he] at hdm hR1 hR2 hdom
 have hb:=fun hd=>zaY l (by omega) hin hd
 rw [zhj] at hb
 change YT l→yl _ _ _ _ (zdD l) at hb
 have hol:=fun key v u h1 h2 h3=>zgg l key v u hl hin h1 h2 h3
 obtain ⟨I,hI⟩:∃ I,I=inclN l l.length:=⟨_,rfl⟩
 have hIl:I.length≤l.length:=by rw [hI];exact ZW l l.length
 have hIm:∀ j,j<I.length→nth I j<l.length:=fun j hj=>by have:=zC hj;rw [hI] at this ⊢;exact xx this
 have hyes:e=0→∀ j r m,j<I.length→(∀ i,i<j→Yj l (nth I i)=none)→(nth l (nth I j)).k=0→(r=0∨(r=1∧∀ i,i<I.length→sessB l (nth I j) 0 (nth I i)=false))→m<I.length→(∀ i,i<m→sessB l (nth I j) r (nth I i)=false)→sessB l (nth I j) r (nth I m)=true→R=.tup [.agg (VC 6 (9+r) (nth l (nth I j)).key [nth I m,nth I j] []),.int .i64 0]:=fun h0 j r m h1 h2 h3 h4 h5 h6 h7=>by
  have h8:Yj l (nth I j)=some (r,nth I m,nth I j):=by
   unfold Yj
   rw [if_neg (by simpa using h3),← hI]
   rcases h4 with rfl|⟨rfl,h4⟩
   ·rw [YV h6 h5 h7]
   ·rw [Vb h4,YV h6 h5 h7];rfl
  rw [hR2 h0];unfold zbA sessC;rw [← hI,Yv h2 h1 h8]
 have hno:e=0→(∀ i,i<I.length→Yj l (nth I i)=none)→R=.tup [.agg (VC 6 0 0 [] []),.int .i64 0]:=fun h0 h=>by
  rw [hR2 h0];unfold zbA sessC;rw [← hI,XT h]
 have hat0:∀ i,(nth l i).k≠0→Yj l i=none:=fun i h=>by unfold Yj;rw [if_pos h]
 have hat1:∀ i,(∀ m,m<I.length→sessB l i 0 (nth I m)=false)→(∀ m,m<I.length→sessB l i 1 (nth I m)=false)→Yj l i=none:=fun i h2 h3=>by
  unfold Yj;split
  ·rfl
  ·rw [← hI,Vb h2,Vb h3];rfl
 unfold zdD at hb hol
 rw [← hI] at hb hol
 obtain ⟨r2,hr2⟩:∃ r2,r2=FV.smap (yA l l.length):=⟨_,rfl⟩
 obtain ⟨C,hC⟩:∃ C,C=List.map (fun q=>[xc (KC l q)]) (List.range l.length):=⟨_,rfl⟩
 unfold zgv at hb hol
 rw [← hr2,← hC] at hb hol
 clear hr2 hC
 refine yl.of_body (c:=(ZJ Try.prog zH zB 109)) ⟨Try.func19,rfl,Try.ntmps19,by kernel_rfl⟩ (by simp [FV.hand]) (by exact Nat.le_of_ble_eq_true rfl) hRh ?_
 change FW _ _ _ ⟨[(0,.list 8 (l.map OpV.fv))],[]⟩
 (repeat (first|refine FW.seq ?_|refine FW.region ?_|refine zc.nil ?_|refine zD rfl rfl rfl rfl rfl rfl rfl ?_|refine zb rfl rfl rfl ?_|refine za rfl rfl rfl ?_))
 refine yJ hdm (by repeat (first|exact zG.nil|refine zG.cons (by exact Zg.plain rfl rfl) ?_)) rfl rfl ?_
 (repeat (first|refine FW.seq ?_|refine FW.region ?_|refine zc.nil ?_|refine zb rfl rfl rfl ?_|refine za rfl rfl rfl ?_|refine xC rfl rfl rfl rfl ?_))
 refine FW.cond rfl (fun h=>?_) (fun h=>?_)
 ·rw [hR1 (by simpa using h)]
  (repeat (first|refine FW.seq ?_|refine FW.region ?_|refine zc.nil ?_|refine zb rfl rfl rfl ?_|refine za rfl rfl rfl ?_|refine zS rfl rfl rfl rfl ?_|refine zi rfl rfl rfl rfl rfl rfl rfl rfl rfl ?_|refine zU.nil ?_))
  exact FW.ret ⟨.inl rfl,.sh (.cons (ya rfl rfl rfl rfl rfl rfl (by decide)) (.cons (.tmp 3 rfl rfl) .nil)) rfl rfl⟩
 have he0:e=0:=by simpa using h
 subst he0
 have hR2:=hR2 rfl
 have hb:=hb (hdom rfl)
 have hyes:=hyes rfl
 have hno:=hno rfl
 clear h hR1 hdom
 (repeat (first|refine FW.seq ?_|refine FW.region ?_|refine FW.skip ?_|refine za rfl rfl rfl ?_))
 refine xi hb (by repeat (first|exact zG.nil|refine zG.cons (by exact Zg.plain rfl rfl) ?_)) rfl rfl ?_
 (repeat (first|refine FW.seq ?_|refine FW.region ?_|refine FW.block ?_|refine zc.nil ?_|refine zb rfl rfl rfl ?_|refine za rfl rfl rfl ?_|refine yM rfl rfl rfl ?_|refine zT rfl rfl rfl rfl rfl rfl rfl ?_|refine zm rfl rfl rfl (by simp;done) rfl rfl rfl rfl rfl ?_|refine zu rfl rfl (by first|exact List.length_map _|rfl|(simp;done)) rfl rfl ?_))
 refine FW.loop (fun j:Nat=>⟨[(0,.list 8 (l.map OpV.fv)),(2,.ptr 102 0 0 0),(5,.eptr 4 [[.list 8 (l.map OpV.fv),.list 1 (I.map yH),r2,.list 1 C]] 0 0),(26,.list 1 (I.map yH)),(27,.int .i64 I.length),(28,.int .i64 j)],[(102,⟨0,.own,36,5,[[.int .i64 0,.int .i64 0,.int .i64 0,.nil,.nil]]⟩)]⟩) (fun j=>j≤I.length∧∀ i,i<j→Yj l (nth I i)=none) (fun j=>I.length - j) 0 ⟨Nat.zero_le _,fun i hi=>absurd hi (Nat.not_lt_zero _)⟩ ?_ ?_
 ·exact (FLe.cv [⟨102,some 2,0+1,⟨0,.own,36,5,[[.int .i64 0,.int .i64 0,.int .i64 0,.nil,.nil]]⟩⟩] (by repeat (first|exact .nil|refine .old rfl (by decide) rfl ?_)) (by repeat (first|exact .nil|refine .cons (.plain rfl rfl rfl) ?_|refine .cons (.ptr rfl (.head _) rfl) ?_)))
 rintro j ⟨hj,hpre⟩
 (repeat (first|refine FW.seq ?_|refine FW.region ?_|refine zc.nil ?_|refine zX rfl rfl rfl rfl ?_))
 refine FW.cond rfl (fun h=>?_) (fun h=>?_)
 ·have hjl:j<I.length:=by simpa using h
  clear h
  have hyes:=fun r m=>hyes j r m hjl hpre
  have hnext:Yj l (nth I j)=none→∀ i,i<j+1→Yj l (nth I i)=none:=fun h i hi=>by
   rcases Nat.lt_succ_iff_lt_or_eq.1 hi with h'|rfl
   ·exact hpre i h'
   ·exact h
  have hii:=hIm j hjl
  have hoin:=hin _ (zC hii)
  obtain ⟨i,hi⟩:∃ i,nth I j=i:=⟨_,rfl⟩
  rw [hi] at hii hyes hnext hoin
  have hat0:=hat0 i
  have hat1:=hat1 i
  have hsB:∀ r k,sessB l i r k=(decide (k<i) && decide ((nth l k).p=(nth l i).p) && decide ((nth l k).key=(nth l i).key) && (decide ((nth l k).k=1) == decide (r=0)) && olderB l (nth l i).key (nth l i).res (if (nth l k).k=1 then (nth l k).arg else (nth l k).res)):=fun r k=>rfl
  obtain ⟨o,hoe⟩:∃ o,nth l i=o:=⟨_,rfl⟩
  rw [hoe] at hyes hat0 hoin
  rw [hoe] at hsB
  (repeat (first|refine FW.seq ?_|refine FW.region ?_|refine FW.block ?_|refine FW.skip ?_|refine zc.nil ?_|refine zD rfl rfl rfl rfl rfl rfl rfl ?_|refine zb rfl rfl rfl ?_|refine za rfl rfl rfl ?_|refine xC rfl rfl rfl rfl ?_|refine zi rfl rfl rfl rfl rfl rfl rfl rfl rfl ?_|refine zj rfl rfl rfl rfl rfl rfl (by decide) rfl rfl ?_|refine zm rfl rfl rfl (by first|(simp;omega)|(simp;done)) (by first|exact zg (by omega)|rfl) rfl rfl rfl rfl ?_|refine zw rfl rfl rfl rfl rfl (by first|(simp;omega)|(simp;done)) (by first|exact zg (by omega)|rfl) rfl rfl rfl rfl ?_|refine yL rfl rfl rfl (by decide) (by first|(simp;omega)|(simp;done)) (by first|exact zg (by omega)|rfl) rfl rfl rfl ?_|refine zp rfl rfl rfl rfl rfl rfl (by first|(simp;omega)|(simp;done)) rfl rfl ?_))
  rw [hi]
  skip
  rw [hoe]
  skip
  refine FW.cond rfl (fun h1=>?_) (fun h1=>?_)
  ·(repeat (first|refine FW.region ?_|refine FW.exit ?_|refine zc.nil ?_|refine za rfl rfl rfl ?_|refine zq rfl rfl (by omega) rfl rfl ?_))
   refine ⟨j+1,⟨by omega,hnext (hat0 (by simpa using h1))⟩,by omega,?_⟩
   exact (FLe.cv [⟨102,some 102,0,⟨0,.own,36,5,[[.int .i64 0,.int .i64 0,.int .i64 0,.nil,.nil]]⟩⟩] (by repeat (first|exact .nil|refine .old rfl (by decide) rfl ?_)) (by repeat (first|exact .nil|refine .cons (.plain rfl rfl rfl) ?_|refine .cons (.ptr rfl (.head _) rfl) ?_)))
  have hik:o.k=0:=by simpa using h1
  have hyes:=fun r m=>hyes r m hik
  (repeat (first|refine FW.seq ?_|refine FW.region ?_|refine FW.skip ?_))
  refine Yg (es:=([9,10]:List Int).map zy) rfl rfl rfl (by refine xJ.int rfl rfl ?_;refine xJ.int rfl rfl ?_;exact xJ.nil) rfl rfl rfl rfl rfl ?_
  (repeat (first|refine FW.block ?_|refine zc.nil ?_|refine za rfl rfl rfl ?_|refine zu rfl rfl (by exact List.length_map _) rfl rfl ?_))
  refine FW.loop (fun r:Nat=>⟨[(0,.list 8 (l.map OpV.fv)),(2,.ptr 102 0 0 0),(5,.eptr 4 [[.list 8 (l.map OpV.fv),.list 1 (I.map yH),r2,.list 1 C]] 0 0),(26,.list 1 (I.map yH)),(27,.int .i64 I.length),(28,.int .i64 j),(7,.int .i64 i),(8,.ptr 108 0 0 0),(39,.list 1 (([9,10]:List Int).map zy)),(40,.int .i64 2),(41,.int .i64 r)],[(102,⟨0,.own,36,5,[[.int .i64 0,.int .i64 0,.int .i64 0,.nil,.nil]]⟩),(108,⟨0,.own,43,8,[o.fv]⟩)]⟩) (fun r=>r≤2∧(1≤r→∀ m,m<I.length→sessB l i 0 (nth I m)=false)∧(2≤r→∀ m,m<I.length→sessB l i 1 (nth I m)=false)) (fun r=>2 - r) 0 ⟨Nat.zero_le _,by omega,by omega⟩ ?_ ?_
  ·exact (FLe.cv [⟨102,some 102,0,⟨0,.own,36,5,[[.int .i64 0,.int .i64 0,.int .i64 0,.nil,.nil]]⟩⟩,⟨108,some 8,0+1,⟨0,.own,43,8,[o.fv]⟩⟩] (by repeat (first|exact .nil|refine .old rfl (by decide) rfl ?_)) (by repeat (first|exact .nil|refine .cons (.plain rfl rfl rfl) ?_|refine .cons (.ptr rfl (.head _) rfl) ?_|refine .cons (.ptr rfl (.tail _ (.head _)) rfl) ?_)))
  rintro r ⟨hr,hr1,hr2⟩
  (repeat (first|refine FW.seq ?_|refine FW.region ?_|refine zc.nil ?_|refine zX rfl rfl rfl rfl ?_))
  refine FW.cond rfl (fun h=>?_) (fun h=>?_)
  ·have hrl:r<2:=by simp at h;omega
   clear h
   obtain ⟨cl,hcl⟩:∃ cl:Int,nth [9,10] r=cl:=⟨_,rfl⟩
   have hcl2:cl=9+(r:Int):=by
    have:r=0∨r=1:=by omega
    rcases this with rfl|rfl <;> (rw [← hcl];rfl)
   have hll:([9,10]:List Int).length=2:=rfl
   (repeat (first|refine FW.seq ?_|refine FW.region ?_|refine FW.block ?_|refine FW.skip ?_|refine zc.nil ?_|refine zb rfl rfl rfl ?_|refine za rfl rfl rfl ?_|refine yM rfl rfl rfl ?_|refine zT rfl rfl rfl rfl rfl rfl rfl ?_|refine zm rfl rfl rfl (by first|(simp;omega)|(simp;done)) (by first|exact zg (by omega)|rfl) rfl rfl rfl rfl ?_|refine zu rfl rfl (by first|exact List.length_map _|rfl|(simp;done)|(simp;omega)) rfl rfl ?_|refine zp rfl rfl rfl rfl rfl rfl (by first|(simp;omega)|(simp;done)) rfl rfl ?_))
   rw [hcl]
   skip
   refine FW.loop (fun m:Nat=>⟨[(0,.list 8 (l.map OpV.fv)),(2,.ptr 102 0 0 0),(5,.eptr 4 [[.list 8 (l.map OpV.fv),.list 1 (I.map yH),r2,.list 1 C]] 0 0),(26,.list 1 (I.map yH)),(27,.int .i64 I.length),(28,.int .i64 j),(7,.int .i64 i),(8,.ptr 108 0 0 0),(39,.list 1 (([9,10]:List Int).map zy)),(40,.int .i64 2),(41,.int .i64 r),(10,.int .i64 cl),(48,.list 1 (I.map yH)),(49,.int .i64 I.length),(50,.int .i64 m)],[(102,⟨0,.own,36,5,[[.int .i64 0,.int .i64 0,.int .i64 0,.nil,.nil]]⟩),(108,⟨0,.own,43,8,[o.fv]⟩)]⟩) (fun m=>m≤I.length∧∀ q,q<m→sessB l i r (nth I q)=false) (fun m=>I.length - m) 0 ⟨Nat.zero_le _,fun i hi=>absurd hi (Nat.not_lt_zero _)⟩ ?_ ?_
   ·exact (FLe.cv [⟨102,some 102,0,⟨0,.own,36,5,[[.int .i64 0,.int .i64 0,.int .i64 0,.nil,.nil]]⟩⟩,⟨108,some 108,0,⟨0,.own,43,8,[o.fv]⟩⟩] (by repeat (first|exact .nil|refine .old rfl (by decide) rfl ?_)) (by repeat (first|exact .nil|refine .cons (.plain rfl rfl rfl) ?_|refine .cons (.ptr rfl (.head _) rfl) ?_|refine .cons (.ptr rfl (.tail _ (.head _)) rfl) ?_)))
   rintro m ⟨hm,hpre3⟩
   (repeat (first|refine FW.seq ?_|refine FW.region ?_|refine zc.nil ?_|refine zX rfl rfl rfl rfl ?_))
   refine FW.cond rfl (fun h=>?_) (fun h=>?_)
   ·have hml:m<I.length:=by simpa using h
    clear h
    have hyes:=hyes r m (by
     have:r=0∨r=1:=by omega
     rcases this with rfl|rfl
     ·exact .inl rfl
     ·exact .inr ⟨rfl,hr1 (by omega)⟩) hml hpre3
    rw [← hcl2] at hyes
    have hnext3:sessB l i r (nth I m)=false→∀ q,q<m+1→sessB l i r (nth I q)=false:=fun h q hq=>by
     rcases Nat.lt_succ_iff_lt_or_eq.1 hq with h'|rfl
     ·exact hpre3 q h'
     ·exact h
    have hkn:=hIm m hml
    have hpin:=hin _ (zC hkn)
    obtain ⟨k,hk⟩:∃ k,nth I m=k:=⟨_,rfl⟩
    rw [hk] at hkn hyes hnext3 hpin
    have hsb:=hsB r k
    obtain ⟨p,hpe⟩:∃ p,nth l k=p:=⟨_,rfl⟩
    rw [hpe] at hsb hpin
    (repeat (first|refine FW.seq ?_|refine FW.region ?_|refine FW.block ?_|refine FW.skip ?_|refine zc.nil ?_|refine zD rfl rfl rfl rfl rfl rfl rfl ?_|refine zb rfl rfl rfl ?_|refine za rfl rfl rfl ?_|refine zi rfl rfl rfl rfl rfl rfl rfl rfl rfl ?_|refine zm rfl rfl rfl (by simp;omega) (by first|exact zg (by omega)|rfl) rfl rfl rfl rfl ?_|refine yL rfl rfl rfl (by decide) (by simp;omega) (by first|exact zg (by omega)|rfl) rfl rfl rfl ?_|refine zp rfl rfl rfl rfl rfl rfl (by simp;omega) rfl rfl ?_|refine zdJ rfl rfl rfl rfl ?_))
    rw [hk]
    skip
    rw [hpe]
    skip
    refine yg (fun h2=>?_) (fun h2=>?_)
    ·(repeat (first|refine FW.region ?_|refine FW.exit ?_|refine FW.condT rfl ?_|refine zc.nil ?_|refine za rfl rfl rfl ?_|refine zI rfl rfl rfl rfl ?_|refine zq rfl rfl (by omega) rfl rfl ?_|refine yo rfl rfl ⟨_,_,rfl,rfl,rfl⟩ ?_))
     refine ⟨m+1,⟨by omega,hnext3 ?_⟩,by omega,(FLe.cv [⟨102,some 102,0,⟨0,.own,36,5,[[.int .i64 0,.int .i64 0,.int .i64 0,.nil,.nil]]⟩⟩,⟨108,some 108,0,⟨0,.own,43,8,[o.fv]⟩⟩] (by repeat (first|exact .nil|refine .old rfl (by decide) rfl ?_)) (by repeat (first|exact .nil|refine .cons (.plain rfl rfl rfl) ?_|refine .cons (.ptr rfl (.head _) rfl) ?_|refine .cons (.ptr rfl (.tail _ (.head _)) rfl) ?_)))⟩
     rw [hsb,decide_eq_false (show ¬ k<i by simp at h2;omega)];simp
    have hki:k<i:=by simp at h2;omega
    rw [decide_eq_true hki,Bool.true_and] at hsb
    (repeat (first|refine za rfl rfl rfl ?_|refine zQ rfl rfl rfl rfl ?_|refine zj rfl rfl rfl rfl rfl rfl (by decide) rfl ⟨_,_,rfl,rfl,rfl⟩ ?_|refine zw rfl rfl rfl rfl rfl (by simp;done) rfl rfl rfl rfl ⟨_,_,rfl,rfl,rfl⟩ ?_|refine xC rfl rfl rfl ⟨_,_,rfl,rfl,rfl⟩ ?_))
    refine yg (fun h3=>?_) (fun h3=>?_)
    ·(repeat (first|refine FW.region ?_|refine FW.exit ?_|refine FW.condT rfl ?_|refine zc.nil ?_|refine za rfl rfl rfl ?_|refine zI rfl rfl rfl rfl ?_|refine zq rfl rfl (by omega) rfl rfl ?_|refine yo rfl rfl ⟨_,_,rfl,rfl,rfl⟩ ?_))
     refine ⟨m+1,⟨by omega,hnext3 ?_⟩,by omega,(FLe.cv [⟨102,some 102,0,⟨0,.own,36,5,[[.int .i64 0,.int .i64 0,.int .i64 0,.nil,.nil]]⟩⟩,⟨108,some 108,0,⟨0,.own,43,8,[o.fv]⟩⟩] (by repeat (first|exact .nil|refine .old rfl (by decide) rfl ?_)) (by repeat (first|exact .nil|refine .cons (.plain rfl rfl rfl) ?_|refine .cons (.ptr rfl (.head _) rfl) ?_|refine .cons (.ptr rfl (.tail _ (.head _)) rfl) ?_)))⟩
     rw [hsb,decide_eq_false (show ¬ p.p=o.p by simpa using h3)];simp
    rw [decide_eq_true (show p.p=o.p by simpa using h3),Bool.true_and] at hsb
    (repeat (first|refine za rfl rfl rfl ?_|refine zQ rfl rfl rfl rfl ?_|refine zj rfl rfl rfl rfl rfl rfl (by decide) rfl ⟨_,_,rfl,rfl,rfl⟩ ?_|refine zw rfl rfl rfl rfl rfl (by simp;done) rfl rfl rfl rfl ⟨_,_,rfl,rfl,rfl⟩ ?_|refine xC rfl rfl rfl ⟨_,_,rfl,rfl,rfl⟩ ?_))
    refine yg (fun h4=>?_) (fun h4=>?_)
    ·(repeat (first|refine FW.region ?_|refine FW.exit ?_|refine FW.condT rfl ?_|refine zc.nil ?_|refine za rfl rfl rfl ?_|refine zI rfl rfl rfl rfl ?_|refine zq rfl rfl (by omega) rfl rfl ?_|refine yo rfl rfl ⟨_,_,rfl,rfl,rfl⟩ ?_))
     refine ⟨m+1,⟨by omega,hnext3 ?_⟩,by omega,(FLe.cv [⟨102,some 102,0,⟨0,.own,36,5,[[.int .i64 0,.int .i64 0,.int .i64 0,.nil,.nil]]⟩⟩,⟨108,some 108,0,⟨0,.own,43,8,[o.fv]⟩⟩] (by repeat (first|exact .nil|refine .old rfl (by decide) rfl ?_)) (by repeat (first|exact .nil|refine .cons (.plain rfl rfl rfl) ?_|refine .cons (.ptr rfl (.head _) rfl) ?_|refine .cons (.ptr rfl (.tail _ (.head _)) rfl) ?_)))⟩
     rw [hsb,decide_eq_false (show ¬ p.key=o.key by simpa using h4)];simp
    rw [decide_eq_true (show p.key=o.key by simpa using h4),Bool.true_and] at hsb
    (repeat (first|refine zc.nil ?_|refine zQ rfl rfl rfl rfl ?_|refine zj rfl rfl rfl rfl rfl rfl (by decide) rfl ⟨_,_,rfl,rfl,rfl⟩ ?_|refine zw rfl rfl rfl rfl rfl (by simp;done) rfl rfl rfl rfl ⟨_,_,rfl,rfl,rfl⟩ ?_|refine zkB rfl rfl rfl rfl ⟨_,_,rfl,rfl,rfl⟩ ?_|refine yO rfl rfl rfl ⟨_,_,rfl,rfl,rfl⟩ ?_|refine za rfl rfl ⟨_,_,rfl,rfl,rfl⟩ ?_))
    have hc9:decide (cl=9)=decide (r=0):=by rw [hcl2];exact decide_eq_decide.2 (by omega)
    rw [hc9]
    refine FW.cond rfl (fun h5=>?_) (fun h5=>?_)
    ·(repeat (first|refine FW.region ?_|refine FW.exit ?_|refine zc.nil ?_|refine za rfl rfl rfl ?_|refine zq rfl rfl (by omega) rfl rfl ?_))
     refine ⟨m+1,⟨by omega,hnext3 ?_⟩,by omega,(FLe.cv [⟨102,some 102,0,⟨0,.own,36,5,[[.int .i64 0,.int .i64 0,.int .i64 0,.nil,.nil]]⟩⟩,⟨108,some 108,0,⟨0,.own,43,8,[o.fv]⟩⟩] (by repeat (first|exact .nil|refine .old rfl (by decide) rfl ?_)) (by repeat (first|exact .nil|refine .cons (.plain rfl rfl rfl) ?_|refine .cons (.ptr rfl (.head _) rfl) ?_|refine .cons (.ptr rfl (.tail _ (.head _)) rfl) ?_)))⟩
     rw [hsb,show (decide (p.k=1) == decide (r=0))=false by simpa using h5,Bool.false_and]
    rw [show (decide (p.k=1) == decide (r=0))=true by simpa using h5,Bool.true_and] at hsb
    (repeat (first|refine FW.seq ?_|refine FW.region ?_|refine FW.skip ?_|refine zc.nil ?_|refine zb rfl rfl rfl ?_|refine zj rfl rfl rfl rfl rfl rfl (by decide) rfl rfl ?_|refine zw rfl rfl rfl rfl rfl (by simp;done) rfl rfl rfl rfl rfl ?_|refine yO rfl rfl rfl rfl ?_))
    refine FW.cond rfl (fun h7=>?_) (fun h7=>?_)
    ·have h7:p.k=1:=by simpa using h7
     rw [if_pos h7] at hsb
     have hold:=hol o.key o.res p.arg hoin.2.2.1 hoin.2.2.2.2.1 hpin.2.2.2.1
     generalize olderB l o.key o.res p.arg=ob at hold hsb
     (repeat (first|refine FW.seq ?_|refine FW.region ?_|refine zc.nil ?_|refine zb rfl rfl rfl ?_|refine za rfl rfl rfl ?_|refine zj rfl rfl rfl rfl rfl rfl (by decide) rfl rfl ?_|refine zw rfl rfl rfl rfl rfl (by simp;done) rfl rfl rfl rfl rfl ?_))
     refine yJ hold (by repeat (first|exact zG.nil|refine zG.cons (by exact Zg.plain rfl rfl) ?_)) rfl rfl ?_
     (repeat (first|refine zc.nil ?_))
     refine FW.cond rfl (fun h6=>?_) (fun h6=>?_)
     ·rw [hyes (by rw [hsb,h6])]
      (repeat (first|refine FW.seq ?_|refine FW.region ?_|refine za rfl rfl rfl ?_|refine zj rfl rfl rfl rfl rfl rfl (by decide) rfl rfl ?_|refine zw rfl rfl rfl rfl rfl (by simp;done) rfl rfl rfl rfl rfl ?_))
      refine Yg (es:=[yH k,yH i]) rfl rfl rfl (by refine xJ.int rfl rfl ?_;refine xJ.int rfl rfl ?_;exact xJ.nil) rfl rfl rfl rfl rfl ?_
      (repeat (first|refine zc.nil ?_|refine zb rfl rfl rfl ?_|refine zS rfl rfl rfl rfl ?_|refine zi rfl rfl rfl rfl rfl rfl rfl rfl rfl ?_|refine zU.nil ?_|refine zU.one rfl rfl rfl rfl rfl ?_|refine zU.agg rfl rfl rfl rfl (List.cons_ne_nil _ _) rfl ?_))
      exact FW.ret ⟨.inl rfl,.sh (.cons (ya rfl rfl rfl rfl rfl rfl (by decide)) (.cons (.tmp 3 rfl rfl) .nil)) rfl rfl⟩
     ·(repeat (first|refine FW.region ?_|refine FW.skip ?_|refine zc.nil ?_|refine za rfl rfl rfl ?_|refine zq rfl rfl (by omega) rfl rfl ?_))
      refine ⟨m+1,⟨by omega,hnext3 ?_⟩,by omega,(FLe.cv [⟨102,some 102,0,⟨0,.own,36,5,[[.int .i64 0,.int .i64 0,.int .i64 0,.nil,.nil]]⟩⟩,⟨108,some 108,0,⟨0,.own,43,8,[o.fv]⟩⟩] (by repeat (first|exact .nil|refine .old rfl (by decide) rfl ?_)) (by repeat (first|exact .nil|refine .cons (.plain rfl rfl rfl) ?_|refine .cons (.ptr rfl (.head _) rfl) ?_|refine .cons (.ptr rfl (.tail _ (.head _)) rfl) ?_)))⟩
      rw [hsb,h6]
    ·have h7:¬ p.k=1:=by simpa using h7
     rw [if_neg h7] at hsb
     have hold:=hol o.key o.res p.res hoin.2.2.1 hoin.2.2.2.2.1 hpin.2.2.2.2.1
     generalize olderB l o.key o.res p.res=ob at hold hsb
     (repeat (first|refine FW.seq ?_|refine FW.region ?_|refine FW.skip ?_|refine za rfl rfl rfl ?_|refine zj rfl rfl rfl rfl rfl rfl (by decide) rfl rfl ?_|refine zw rfl rfl rfl rfl rfl (by simp;done) rfl rfl rfl rfl rfl ?_))
     refine yJ hold (by repeat (first|exact zG.nil|refine zG.cons (by exact Zg.plain rfl rfl) ?_)) rfl rfl ?_
     (repeat (first|refine zc.nil ?_))
     refine FW.cond rfl (fun h6=>?_) (fun h6=>?_)
     ·rw [hyes (by rw [hsb,h6])]
      (repeat (first|refine FW.seq ?_|refine FW.region ?_|refine za rfl rfl rfl ?_|refine zj rfl rfl rfl rfl rfl rfl (by decide) rfl rfl ?_|refine zw rfl rfl rfl rfl rfl (by simp;done) rfl rfl rfl rfl rfl ?_))
      refine Yg (es:=[yH k,yH i]) rfl rfl rfl (by refine xJ.int rfl rfl ?_;refine xJ.int rfl rfl ?_;exact xJ.nil) rfl rfl rfl rfl rfl ?_
      (repeat (first|refine zc.nil ?_|refine zb rfl rfl rfl ?_|refine zS rfl rfl rfl rfl ?_|refine zi rfl rfl rfl rfl rfl rfl rfl rfl rfl ?_|refine zU.nil ?_|refine zU.one rfl rfl rfl rfl rfl ?_|refine zU.agg rfl rfl rfl rfl (List.cons_ne_nil _ _) rfl ?_))
      exact FW.ret ⟨.inl rfl,.sh (.cons (ya rfl rfl rfl rfl rfl rfl (by decide)) (.cons (.tmp 3 rfl rfl) .nil)) rfl rfl⟩
     ·(repeat (first|refine FW.region ?_|refine FW.skip ?_|refine zc.nil ?_|refine za rfl rfl rfl ?_|refine zq rfl rfl (by omega) rfl rfl ?_))
      refine ⟨m+1,⟨by omega,hnext3 ?_⟩,by omega,(FLe.cv [⟨102,some 102,0,⟨0,.own,36,5,[[.int .i64 0,.int .i64 0,.int .i64 0,.nil,.nil]]⟩⟩,⟨108,some 108,0,⟨0,.own,43,8,[o.fv]⟩⟩] (by repeat (first|exact .nil|refine .old rfl (by decide) rfl ?_)) (by repeat (first|exact .nil|refine .cons (.plain rfl rfl rfl) ?_|refine .cons (.ptr rfl (.head _) rfl) ?_|refine .cons (.ptr rfl (.tail _ (.head _)) rfl) ?_)))⟩
      rw [hsb,h6]
   ·have hme:m=I.length:=by simp at h;omega
    subst hme
    (repeat (first|refine FW.region ?_|refine FW.exit ?_|refine zc.nil ?_|refine za rfl rfl rfl ?_|refine zq rfl rfl (by omega) rfl rfl ?_))
    refine ⟨r+1,⟨by omega,fun _=>?_,fun h=>?_⟩,by omega,?_⟩
    ·have:r=0∨r=1:=by omega
     rcases this with rfl|rfl
     ·exact hpre3
     ·exact hr1 (by omega)
    ·have:r=1:=by omega
     subst this;exact hpre3
    ·exact (FLe.cv [⟨102,some 102,0,⟨0,.own,36,5,[[.int .i64 0,.int .i64 0,.int .i64 0,.nil,.nil]]⟩⟩,⟨108,some 108,0,⟨0,.own,43,8,[o.fv]⟩⟩] (by repeat (first|exact .nil|refine .old rfl (by decide) rfl ?_)) (by repeat (first|exact .nil|refine .cons (.plain rfl rfl rfl) ?_|refine .cons (.ptr rfl (.head _) rfl) ?_|refine .cons (.ptr rfl (.tail _ (.head _)) rfl) ?_)))
  ·have hre:r=2:=by simp at h;omega
   subst hre
   (repeat (first|refine FW.region ?_|refine FW.exit ?_|refine zc.nil ?_|refine za rfl rfl rfl ?_|refine zq rfl rfl (by omega) rfl rfl ?_))
   refine ⟨j+1,⟨by omega,hnext (hat1 (hr1 (by omega)) (hr2 (by omega)))⟩,by omega,?_⟩
   exact (FLe.cv [⟨102,some 102,0,⟨0,.own,36,5,[[.int .i64 0,.int .i64 0,.int .i64 0,.nil,.nil]]⟩⟩] (by repeat (first|exact .nil|refine .old rfl (by decide) rfl ?_)) (by repeat (first|exact .nil|refine .cons (.plain rfl rfl rfl) ?_|refine .cons (.ptr rfl (.head _) rfl) ?_)))
 ·have hje:j=I.length:=by simp at h;omega
  subst hje
  rw [hno hpre]
  (repeat (first|refine FW.seq ?_|refine FW.region ?_|refine FW.exit ?_|refine zc.nil ?_|refine zb rfl rfl rfl ?_|refine zS rfl rfl rfl rfl ?_|refine zi rfl rfl rfl rfl rfl rfl rfl rfl rfl ?_|refine zU.nil ?_|refine zU.one rfl rfl rfl rfl rfl ?_))
  exact FW.ret ⟨.inl rfl,.sh (.cons (ya rfl rfl rfl rfl rfl rfl (by decide)) (.cons (.tmp 3 rfl rfl) .nil)) rfl rfl⟩
end Go.Proofs.Ytmnmakhpjgjdaaa
