/-
  Some texts as one: FmCp1, FmCp2, CauPrf, FmCp3, FmCp4, FmCp5.
-/
import Derived.Test.YtmnmakhpjgjdaaaZFmCauE
import Derived.Test.YtmnmakhpjgjdaaaZR
import Derived.Test.YtmnmakhpjgjdaaaZM
import Derived.Test.YtmnmakhpjgjdaaaZOrderPlain
namespace Go.Proofs.Ytmnmakhpjgjdaaa
set_option linter.unusedVariables false
set_option maxHeartbeats 16000000
open Go.RowKit
def YP (l:List OpV) (a b w:Nat):Bool:=if w=1 then decide ((nth l a).p=(nth l b).p) && decide (a<b)
 else decide (w=2) && decide ((nth l a).k=1) && decide ((nth l b).k=0) && (nth l b).done && decide ((nth l a).key=(nth l b).key) && decide ((nth l a).arg=(nth l b).res)
theorem zdd (l:List OpV) (a b w:Nat) (ha:a<l.length) (hb:b<l.length) (hl:l.length≤1000000000):zU Try.prog 41 [.list 8 (l.map OpV.fv),.agg (EdC.fv (a,b,w))] .fr (.bool (YP l a b w)):=by
 unfold EdC.fv
 obtain ⟨n,hn⟩:∃ n,l.length=n:=⟨_,rfl⟩
 obtain ⟨o,ho⟩:∃ o,nth l a=o:=⟨_,rfl⟩
 obtain ⟨q,hq⟩:∃ q,nth l b=q:=⟨_,rfl⟩
 have hB:YP l a b w=if w=1 then decide (o.p=q.p) && decide (a<b) else decide (w=2) && decide (o.k=1) && decide (q.k=0) && q.done && decide (o.key=q.key) && decide (o.arg=q.res):=by unfold YP;rw [ho,hq]
 rw [hB]
 clear hB
 refine zU.of_body (c:=(xT Try.prog zE zt 85)) ⟨Try.func41,rfl,Try.ntmps41,by kernel_rfl⟩ zL zw rfl ?_
 change FW _ _ _ ⟨[(0,.list 8 (l.map OpV.fv)),(1,.agg [.int .i64 a,.int .i64 b,.int .i64 w])],[]⟩
 refine zb ?_
 refine zN (fun h=>by simp at h;omega) (fun h=>?_)
 refine zb ?_
 refine FW.cond rfl (fun h=>by simp at h;omega) (fun h=>?_)
 refine zb ?_
 rw [ho]
 skip
 rw [hq]
 skip
 refine FW.cond rfl (fun h=>?_) (fun h=>?_)
 ·rw [if_pos (by simp at h;omega)]
  refine zb ?_
  refine zN (fun h1=>?_) (fun h1=>?_)
  ·have h1:decide (o.p=q.p)=true:=h1
   rw [h1,Bool.true_and,show decide (a<b)=decide ((a:Int)<(b:Int)) from decide_eq_decide.2 za]
   refine zb ?_
   exact FW.ret ⟨.inl rfl,zK rfl rfl rfl rfl⟩
  ·have h1:decide (o.p=q.p)=false:=h1
   rw [h1,Bool.false_and]
   refine zb ?_
   exact FW.ret ⟨.inl rfl,zK rfl rfl rfl rfl⟩
 ·rw [if_neg (by simp at h;omega)]
  rw [show decide (w=2)=decide ((w:Int)=2) from decide_eq_decide.2 za]
  refine zb ?_
  refine zN (fun h1=>?_) (fun h1=>?_)
  ·have h1:decide ((w:Int)=2)=true:=h1
   rw [h1,Bool.true_and]
   refine zb ?_
   refine zN (fun h2=>?_) (fun h2=>?_)
   ·have h2:decide (o.k=1)=true:=h2
    rw [h2,Bool.true_and]
    refine zb ?_
    refine zN (fun h3=>?_) (fun h3=>?_)
    ·have h3:decide (q.k=0)=true:=h3
     rw [h3,Bool.true_and]
     refine zb ?_
     refine zN (fun h4=>?_) (fun h4=>?_)
     ·have h4:q.done=true:=h4
      rw [h4,Bool.true_and]
      refine zb ?_
      refine zN (fun h5=>?_) (fun h5=>?_)
      ·have h5:decide (o.key=q.key)=true:=h5
       rw [h5,Bool.true_and]
       refine zb ?_
       exact FW.ret ⟨.inl rfl,zK rfl rfl rfl rfl⟩
      ·have h5:decide (o.key=q.key)=false:=h5
       rw [h5,Bool.false_and]
       refine zb ?_
       exact FW.ret ⟨.inl rfl,zK rfl rfl rfl rfl⟩
     ·have h4:q.done=false:=h4
      rw [h4,Bool.false_and,Bool.false_and]
      refine zb ?_
      exact FW.ret ⟨.inl rfl,zK rfl rfl rfl rfl⟩
    ·have h3:decide (q.k=0)=false:=h3
     rw [h3,Bool.false_and,Bool.false_and,Bool.false_and]
     refine zb ?_
     exact FW.ret ⟨.inl rfl,zK rfl rfl rfl rfl⟩
   ·have h2:decide (o.k=1)=false:=h2
    rw [h2,Bool.false_and,Bool.false_and,Bool.false_and,Bool.false_and]
    refine zb ?_
    exact FW.ret ⟨.inl rfl,zK rfl rfl rfl rfl⟩
  ·have h1:decide ((w:Int)=2)=false:=h1
   rw [h1,Bool.false_and,Bool.false_and,Bool.false_and,Bool.false_and,Bool.false_and]
   refine zb ?_
   exact FW.ret ⟨.inl rfl,zK rfl rfl rfl rfl⟩
def WJ (l:List OpV):List EdC→Nat→Nat→Prop
 | [], x, y => x=y
 | e :: r, x, y => e.1=x ∧ e.1<l.length ∧ e.2.1<l.length ∧ YP l e.1 e.2.1 e.2.2=true ∧ WJ l r e.2.1 y
theorem Vg (l:List OpV) (E:List EdC) (x y:Nat) (h:WJ l E x y) (hne:E≠[]) (hl:l.length≤1000000000) (hE:E.length≤1000000):zU Try.prog 21 [.list 8 (l.map OpV.fv),.list 3 (E.map EdC.fv),.int .i64 x,.int .i64 y] .fr (.bool true):=by
 have hbs:=fun a b w ha hb=>zdd l a b w ha hb hl
 obtain ⟨n,hn⟩:∃ n,E.length=n:=⟨_,rfl⟩
 have hpos:0<n:=by rw [← hn];cases E with
  | nil => exact absurd rfl hne
  | cons _ _ => simp
 refine zU.of_body (c:=(xT Try.prog zE zt 45)) ⟨Try.func21,rfl,Try.ntmps21,by kernel_rfl⟩ zL zw rfl ?_
 change FW _ _ _ ⟨[(0,.list 8 (l.map OpV.fv)),(1,.list 3 (E.map EdC.fv)),(2,.int .i64 x),(3,.int .i64 y)],[]⟩
 refine zb ?_
 refine FW.loop (fun s:Nat×Nat=>⟨[(0,.list 8 (l.map OpV.fv)),(1,.list 3 (E.map EdC.fv)),(2,.int .i64 s.2),(3,.int .i64 y),(9,.int .i64 s.1)],[]⟩) (fun s=>s.1≤n∧WJ l (E.drop s.1) s.2 y) (fun s=>n - s.1) (0,x) ⟨Nat.zero_le _,h⟩ (FLe.cv [] yK (by repeat (first|exact .nil|refine .cons (.plain rfl rfl rfl) ?_))) ?_
 rintro ⟨j,z⟩ ⟨hj,hlk⟩
 dsimp only at hj hlk ⊢
 refine zb ?_
 refine FW.cond rfl (fun hc=>?_) (fun hc=>?_)
 ·have hlt:j<E.length:=by simpa using hc
  clear hc
  rw [List.drop_eq_getElem_cons hlt,← nth_eq hlt] at hlk
  obtain ⟨⟨a,b,w⟩,he⟩:∃ e,nth E j=e:=⟨_,rfl⟩
  rw [he] at hlk
  obtain ⟨rfl,h2,h3,h4,h5⟩:=hlk
  have hB:=hbs a b w h2 h3
  rw [h4] at hB
  refine zb ?_
  rw [he]
  refine yu hB (by repeat (first|exact zA.nil|refine zA.cons zy ?_)) rfl rfl ?_
  refine zb ?_
  rw [he]
  refine FW.cond rfl (fun hc=>absurd rfl (of_decide_eq_true hc)) (fun hc=>?_)
  refine zb ?_
  rw [he]
  refine ⟨(j+1,b),⟨by dsimp only;omega,h5⟩,by dsimp only;omega,(FLe.cv [] yK (by repeat (first|exact .nil|refine .cons (.plain rfl rfl rfl) ?_)))⟩
 ·have e:j=n:=by simp at hc;omega
  subst e
  rw [← hn,List.drop_length] at hlk
  have hlk:z=y:=hlk
  subst hlk
  refine zb ?_
  refine zN (fun hc=>?_) (fun hc=>?_)
  ·refine zb ?_
   refine FW.ret ⟨.inl rfl,zK rfl rfl ?_ rfl⟩
   simp;rfl
  ·have hc:=of_decide_eq_false hc
   omega
def VG (n:Nat) (O:List Int):Nat→List Int
 | 0 => List.replicate n 0
 | j+1 => (VG n O j).set (nth O j).toNat ((j:Int)+1)
theorem Uh (n:Nat) (O:List Int):∀ j,(VG n O j).length=n
 | 0 => by simp [VG]
 | j+1 => by simp [VG, Uh n O j]
theorem zh2 {n:Nat} {O:List Int}:∀ j,j≤1000000→∀ x∈VG n O j,0≤x∧x≤1000000
 | 0, _, x, hx => by
  have:=List.eq_of_mem_replicate hx
  omega
 | j+1, hj, x, hx => by
  rcases Vr (show x∈(VG n O j).set _ _ from hx) with h|h
  ·exact zh2 j za x h
  ·omega
theorem zdu (l:List OpV) (O:List Int) (hl:l.length≤14) (hOl:O.length≤14)
  (hO:∀ j,j<O.length→∃ x:Nat,nth O j=x∧x<l.length) (hnd:∀ j,j<O.length→zgO (O.drop (j+1)) (nth O j)=false)
  (hdone:∀ i,i<l.length→(nth l i).done=true→nth (VG l.length O O.length) i≠0)
  (hpos:∀ i k,i<l.length→k<l.length→(YP l i k 1 || YP l i k 2)=true→0<nth (VG l.length O O.length) i→0<nth (VG l.length O O.length) k→nth (VG l.length O O.length) i<nth (VG l.length O O.length) k) :
  zU Try.prog 20 [.list 8 (l.map OpV.fv),.list 1 (O.map zp)] .fr (.bool true):=by
 have hbs:=fun a b w ha hb=>zdd l a b w ha hb za
 have hhas:=fun j=>zkw (O.drop (j+1)) (nth O j) (by rw [List.length_drop];omega)
 obtain ⟨n,hn⟩:∃ n,l.length=n:=⟨_,rfl⟩
 obtain ⟨m,hm⟩:∃ m,O.length=m:=⟨_,rfl⟩
 rw [hn] at hl hO hdone hpos hbs
 rw [hm] at hOl hO hnd hdone hpos
 have hAl:=Uh n O
 have hAs:∀ j,VG n O (j+1)=(VG n O j).set (nth O j).toNat ((j:Int)+1):=fun _=>rfl
 have hA0:VG n O 0=List.replicate n 0:=rfl
 have hAi:=fun j hj=>zh2 (n:=n) (O:=O) j hj
 generalize VG n O=A at *
 refine zU.of_body (c:=(xT Try.prog zE zt 131)) ⟨Try.func20,rfl,Try.ntmps20,by kernel_rfl⟩ zL zw rfl ?_
 change FW _ _ _ ⟨[(0,.list 8 (l.map OpV.fv)),(1,.list 1 (O.map zp))],[]⟩
 refine zb ?_
 rw [hn]
 refine FW.loop (fun j:Nat=>⟨[(0,.list 8 (l.map OpV.fv)),(1,.list 1 (O.map zp)),(5,.own 105 0 0 n),(6,.int .i64 j)],[(105,⟨0,.own,3,1,(A j).map zp⟩)]⟩) (fun j=>j≤m) (fun j=>m - j) 0 (Nat.zero_le _) ?_ ?_
 ·rw [hA0,List.map_replicate]
  exact (FLe.cv [⟨105,some 16,0+1,⟨0,.own,3,1,List.replicate n (zp 0)⟩⟩] (by repeat (first|exact .nil|refine .old rfl zc rfl ?_)) (by repeat (first|exact .nil|refine .cons (.plain rfl rfl rfl) ?_|refine .cons (.own rfl (.head _) rfl rfl) ?_)))
 intro j hj
 have hAj:=hAl j
 have hAsj:=hAs j
 refine zb ?_
 refine FW.cond rfl (fun h=>?_) (fun h=>?_)
 ·have hlt:j<m:=by simp at h;omega
  clear h
  have hltO:j<O.length:=by omega
  obtain ⟨x,hx,hxn⟩:=hO j hlt
  have hh:=hhas j
  rw [hnd j hlt] at hh
  have hnx:=hx
  obtain ⟨v,hv⟩:∃ v,nth O j=v:=⟨_,rfl⟩
  rw [hv] at hnx hAsj
  have hcut:List.map zp (List.drop (j+1) O)=List.take ((List.map zp O).length - (j+1)) (List.drop (j+1) (List.map zp O)):=by
   rw [← List.map_drop,List.take_of_length_le];simp
  rw [hcut] at hh
  refine zY ?_
  refine xv (fun h=>absurd (of_decide_eq_true h) za) (fun h=>?_)
  clear h
  refine zD ?_
  refine xv (fun h=>absurd (of_decide_eq_true h) za) (fun h=>?_)
  clear h
  refine zD ?_
  refine Vw hh (by repeat (first|exact zA.nil|refine zA.cons zy ?_)) rfl ⟨_,_,rfl,rfl,rfl⟩ ?_
  refine zD ?_
  refine ⟨by kernel_rfl,?_⟩
  refine zb ?_
  refine ⟨j+1,by omega,by omega,?_⟩
  rw [hAsj,List.map_set,← hv]
  exact (FLe.cv [⟨105,some 105,0,⟨0,.own,3,1,((A j).map zp).set (nth O j).toNat (zp ((j:Int)+1))⟩⟩] (by repeat (first|exact .nil|refine .old rfl zc rfl ?_)) (by repeat (first|exact .nil|refine .cons (.plain rfl rfl rfl) ?_|refine .cons (.own rfl (.head _) rfl rfl) ?_)))
 ·have hjm:j=m:=by simp at h;omega
  clear h
  subst hjm
  have hAm:=hAi j za
  obtain ⟨B,hB⟩:∃ B,A j=B:=⟨_,rfl⟩
  rw [hB] at hAj hAm hdone hpos ⊢
  clear hAsj
  have hBx:∀ i,i<n→0≤nth B i∧nth B i≤1000000:=fun i hi=>hAm _ (zu za)
  refine FW.le ?_ (FLe.share 5 rfl rfl (by rw [List.length_map,hAj]))
  refine zb ?_
  refine FW.loop (fun s:Nat×List (Nat×Nat)=>⟨[(0,.list 8 (l.map OpV.fv)),(5,.list 1 (B.map zp)),(7,.own 107 0 0 s.2.length),(8,.int .i64 s.1)],[(107,⟨0,.own,75,2,s.2.map edf⟩)]⟩) (fun s=>s.1≤n∧s.2.length≤s.1 * n∧∀ e∈s.2,e.1<n∧e.2<n∧nth B e.1<nth B e.2) (fun s=>n - s.1) (0,[]) ⟨Nat.zero_le _,by simp,fun e he=>by cases he⟩ (FLe.cv [⟨107,none,0,⟨0,.own,75,2,[]⟩⟩] (by repeat (first|exact .nil|refine .new ?_)) (by repeat (first|exact .nil|refine .cons (.plain rfl rfl rfl) ?_|refine .cons (.nil rfl (.head _) rfl) ?_))) ?_
  rintro ⟨i,X⟩ ⟨hi,hXl,hX⟩
  dsimp only at hi hXl hX ⊢
  obtain ⟨x,hx⟩:∃ x,X.length=x:=⟨_,rfl⟩
  rw [hx] at hXl ⊢
  refine zb ?_
  refine FW.cond rfl (fun h=>?_) (fun h=>?_)
  ·have hlt:i<n:=by simp at h;omega
   clear h
   have hil:i<l.length:=by omega
   have hiB:i<B.length:=by omega
   obtain ⟨o,ho⟩:∃ o,nth l i=o:=⟨_,rfl⟩
   have hdn:=hdone i hlt
   rw [ho] at hdn
   refine FW.skip ?_
   refine FW.seq ?_
   refine FW.block ?_
   refine FW.seq ?_
   refine FW.join (fun _:Unit=>⟨[(0,.list 8 (l.map OpV.fv)),(5,.list 1 (B.map zp)),(7,.own 107 0 0 x),(8,.int .i64 i)],[(107,⟨0,.own,75,2,X.map edf⟩)]⟩) (fun _=>True) ?_ ?_
   ·refine zb ?_
    rw [ho]
    skip
    refine zN (fun h=>?_) (fun h=>?_)
    ·refine zb ?_
     refine FW.cond rfl (fun h2=>absurd (of_decide_eq_true h2) (hdn h)) (fun h2=>?_)
     refine zb ?_
     exact ⟨rfl,(),trivial,(FLe.cv [⟨107,some 107,0,⟨0,.own,75,2,X.map edf⟩⟩] (by repeat (first|exact .nil|refine .old rfl zc rfl ?_)) (by repeat (first|exact .nil|refine .cons (.plain rfl rfl rfl) ?_|refine .cons (.own rfl (.head _) rfl rfl) ?_)))⟩
    ·refine zb ?_
     exact ⟨rfl,(),trivial,(FLe.cv [⟨107,some 107,0,⟨0,.own,75,2,X.map edf⟩⟩] (by repeat (first|exact .nil|refine .old rfl zc rfl ?_)) (by repeat (first|exact .nil|refine .cons (.plain rfl rfl rfl) ?_|refine .cons (.own rfl (.head _) rfl rfl) ?_)))⟩
   rintro _ _
   refine zb ?_
   refine FW.loop (fun s:Nat×List (Nat×Nat)=>⟨[(0,.list 8 (l.map OpV.fv)),(5,.list 1 (B.map zp)),(7,.own 107 0 0 s.2.length),(8,.int .i64 i),(9,.int .i64 s.1)],[(107,⟨0,.own,75,2,s.2.map edf⟩)]⟩) (fun s=>s.1≤n∧s.2.length≤i * n+s.1∧∀ e∈s.2,e.1<n∧e.2<n∧nth B e.1<nth B e.2) (fun s=>n - s.1) (0,X) ⟨Nat.zero_le _,by dsimp only;omega,hX⟩ ?_ ?_
   ·dsimp only
    rw [hx]
    exact (FLe.cv [⟨107,some 107,0,⟨0,.own,75,2,X.map edf⟩⟩] (by repeat (first|exact .nil|refine .old rfl zc rfl ?_)) (by repeat (first|exact .nil|refine .cons (.plain rfl rfl rfl) ?_|refine .cons (.own rfl (.head _) rfl rfl) ?_)))
   clear hX hx hXl
   rintro ⟨k,X⟩ ⟨hk,hXl,hX⟩
   dsimp only at hk hXl hX ⊢
   obtain ⟨x,hx⟩:∃ x,X.length=x:=⟨_,rfl⟩
   rw [hx] at hXl ⊢
   refine zb ?_
   refine FW.cond rfl (fun h=>?_) (fun h=>?_)
   ·have hlk:k<n:=by simp at h;omega
    clear h
    have hkB:k<B.length:=by omega
    have hXb:X.length≤1000:=by
     have:=Nat.mul_le_mul (show i≤14 by omega) hl
     omega
    have hb1:=hbs i k 1 hlt hlk
    have hb2:=hbs i k 2 hlt hlk
    have hps:=hpos i k hlt hlk
    generalize YP l i k 1=b1 at *
    generalize YP l i k 2=b2 at *
    refine zb ?_
    refine yu hb1 (by repeat (first|exact zA.nil|refine zA.cons zy ?_)) rfl rfl ?_
    refine zb ?_
    refine yu hb2 (by repeat (first|exact zA.nil|refine zA.cons zy ?_)) rfl rfl ?_
    cases b1 with
    | true=>
     refine zb ?_
     refine zN (fun h1=>?_) (fun h1=>?_)
     ·have h1:=of_decide_eq_true h1
      refine zb ?_
      refine FW.cond rfl (fun h2=>?_) (fun h2=>?_)
      ·have h2:=of_decide_eq_true h2
       have hlt2:=hps (Bool.true_or _) h1 h2
       refine zY ?_
       refine ⟨by kernel_rfl,?_⟩
       skip
       refine FW.cond rfl (fun h3=>absurd (of_decide_eq_true h3) za) (fun h3=>?_)
       refine zb ?_
       refine ⟨(k+1,X++[(i,k)]),⟨by dsimp only;omega,by dsimp only;rw [List.length_append,hx];simp;omega,fun e he=>?_⟩,by dsimp only;omega,?_⟩
       ·rcases List.mem_append.1 he with h4|h4
        ·exact hX e h4
        ·rw [List.mem_singleton.1 h4];exact ⟨hlt,hlk,hlt2⟩
       dsimp only
       rw [show (X++[(i,k)]).length=x+1 by simp [hx],show (List.map edf X++[[FV.int .i64 (i:Int),FV.int .i64 (k:Int)]]).length=x+1 by simp [hx],List.map_append]
       exact (FLe.cv [⟨107,some 113,0+1,⟨0,.own,75,2,X.map edf++[(i,k)].map edf⟩⟩] (by repeat (first|exact .nil|refine .old rfl zc rfl ?_)) (by repeat (first|exact .nil|refine .cons (.plain rfl rfl rfl) ?_|refine .cons (.own rfl (.head _) rfl rfl) ?_)))
      ·refine zb ?_
       refine ⟨(k+1,X),⟨by dsimp only;omega,by dsimp only;omega,hX⟩,by dsimp only;omega,?_⟩
       dsimp only
       rw [hx]
       exact (FLe.cv [⟨107,some 107,0,⟨0,.own,75,2,X.map edf⟩⟩] (by repeat (first|exact .nil|refine .old rfl zc rfl ?_)) (by repeat (first|exact .nil|refine .cons (.plain rfl rfl rfl) ?_|refine .cons (.own rfl (.head _) rfl rfl) ?_)))
     ·refine zb ?_
      refine ⟨(k+1,X),⟨by dsimp only;omega,by dsimp only;omega,hX⟩,by dsimp only;omega,?_⟩
      dsimp only
      rw [hx]
      exact (FLe.cv [⟨107,some 107,0,⟨0,.own,75,2,X.map edf⟩⟩] (by repeat (first|exact .nil|refine .old rfl zc rfl ?_)) (by repeat (first|exact .nil|refine .cons (.plain rfl rfl rfl) ?_|refine .cons (.own rfl (.head _) rfl rfl) ?_)))
    | false=>
     cases b2 with
     | true=>
      refine zb ?_
      refine zN (fun h1=>?_) (fun h1=>?_)
      ·have h1:=of_decide_eq_true h1
       refine zb ?_
       refine FW.cond rfl (fun h2=>?_) (fun h2=>?_)
       ·have h2:=of_decide_eq_true h2
        have hlt2:=hps rfl h1 h2
        refine zY ?_
        refine ⟨by kernel_rfl,?_⟩
        skip
        refine FW.cond rfl (fun h3=>absurd (of_decide_eq_true h3) za) (fun h3=>?_)
        refine zb ?_
        refine ⟨(k+1,X++[(i,k)]),⟨by dsimp only;omega,by dsimp only;rw [List.length_append,hx];simp;omega,fun e he=>?_⟩,by dsimp only;omega,?_⟩
        ·rcases List.mem_append.1 he with h4|h4
         ·exact hX e h4
         ·rw [List.mem_singleton.1 h4];exact ⟨hlt,hlk,hlt2⟩
        dsimp only
        rw [show (X++[(i,k)]).length=x+1 by simp [hx],show (List.map edf X++[[FV.int .i64 (i:Int),FV.int .i64 (k:Int)]]).length=x+1 by simp [hx],List.map_append]
        exact (FLe.cv [⟨107,some 113,0+1,⟨0,.own,75,2,X.map edf++[(i,k)].map edf⟩⟩] (by repeat (first|exact .nil|refine .old rfl zc rfl ?_)) (by repeat (first|exact .nil|refine .cons (.plain rfl rfl rfl) ?_|refine .cons (.own rfl (.head _) rfl rfl) ?_)))
       ·refine zb ?_
        refine ⟨(k+1,X),⟨by dsimp only;omega,by dsimp only;omega,hX⟩,by dsimp only;omega,?_⟩
        dsimp only
        rw [hx]
        exact (FLe.cv [⟨107,some 107,0,⟨0,.own,75,2,X.map edf⟩⟩] (by repeat (first|exact .nil|refine .old rfl zc rfl ?_)) (by repeat (first|exact .nil|refine .cons (.plain rfl rfl rfl) ?_|refine .cons (.own rfl (.head _) rfl rfl) ?_)))
      ·refine zb ?_
       refine ⟨(k+1,X),⟨by dsimp only;omega,by dsimp only;omega,hX⟩,by dsimp only;omega,?_⟩
       dsimp only
       rw [hx]
       exact (FLe.cv [⟨107,some 107,0,⟨0,.own,75,2,X.map edf⟩⟩] (by repeat (first|exact .nil|refine .old rfl zc rfl ?_)) (by repeat (first|exact .nil|refine .cons (.plain rfl rfl rfl) ?_|refine .cons (.own rfl (.head _) rfl rfl) ?_)))
     | false =>
      refine zb ?_
      refine ⟨(k+1,X),⟨by dsimp only;omega,by dsimp only;omega,hX⟩,by dsimp only;omega,?_⟩
      dsimp only
      rw [hx]
      exact (FLe.cv [⟨107,some 107,0,⟨0,.own,75,2,X.map edf⟩⟩] (by repeat (first|exact .nil|refine .old rfl zc rfl ?_)) (by repeat (first|exact .nil|refine .cons (.plain rfl rfl rfl) ?_|refine .cons (.own rfl (.head _) rfl rfl) ?_)))
   ·have hkn:k=n:=by simp at h;omega
    clear h
    refine zb ?_
    refine ⟨(i+1,X),⟨by dsimp only;omega,?_,hX⟩,by dsimp only;omega,?_⟩
    ·dsimp only
     rw [Nat.succ_mul,hx];omega
    ·dsimp only
     rw [hx]
     exact (FLe.cv [⟨107,some 107,0,⟨0,.own,75,2,X.map edf⟩⟩] (by repeat (first|exact .nil|refine .old rfl zc rfl ?_)) (by repeat (first|exact .nil|refine .cons (.plain rfl rfl rfl) ?_|refine .cons (.own rfl (.head _) rfl rfl) ?_)))
  ·have hin:i=n:=by simp at h;omega
   clear h
   subst hin
   have hii:=Nat.mul_le_mul hl hl
   have hrk:=zhX (n:=i) (E:=X) (fun e he=>⟨(hX e he).1,(hX e he).2.1⟩) (fun v=>(nth B v).toNat) fun e he=>by
    obtain ⟨g1,g2,g3⟩:=hX e he
    have:=hBx e.1 g1
    have:=hBx e.2 g2
    show (nth B e.1).toNat<(nth B e.2).toNat
    omega
   have hT:=zhJ i X za za fun e he=>⟨(hX e he).1,(hX e he).2.1⟩
   rw [hrk.1] at hT
   generalize zV i X=T0 at hT
   unfold zm9 at hT
   refine FW.le ?_ (FLe.share 7 rfl rfl (by rw [List.length_map,hx]))
   refine zb ?_
   rw [hn]
   refine yL hT (by repeat (first|exact zA.nil|refine zA.cons zy ?_)) rfl rfl ?_
   refine zb ?_
   exact FW.ret ⟨.inl rfl,zK rfl rfl rfl rfl⟩
theorem zdc {l:List OpV} {a b:Nat} (h:(a,b)∈edC l):a<l.length∧b<l.length∧YP l a b (zhU l a b)=true:=by
 refine ⟨(zbt l _ h).1,(zbt l _ h).2,?_⟩
 obtain ⟨h1,h2,h3⟩:=Vi.1 h
 rw [zlz h]
 by_cases hn:yd l (zI l l.length) a=some b
 ·rw [if_pos hn]
  obtain ⟨_,g2,g3⟩:=Xx hn
  unfold YP
  rw [if_pos rfl,decide_eq_true g3.symm,decide_eq_true g2];rfl
 ·rw [if_neg hn]
  have h4:=h3.resolve_left hn
  obtain ⟨e1,_,e3,e4,e5,e6,_⟩:=zdA h4 (xA.1 h2).2
  unfold YP
  rw [if_neg zc,decide_eq_true e4,decide_eq_true e1,e3,decide_eq_true e5,decide_eq_true e6];rfl
theorem zfS {l:List OpV} {y:Nat}:∀ (L:List Nat) (x:Nat),Chn (edC l) L→L.head? = some x→L.getLast? = some y→WJ l (xt (zhU l) L) x y
 | [], _, _, h, _ => by cases h
 | [a], x, _, h1, h2 => by
  have h1:a=x:=by simpa using h1
  have h2:a=y:=by simpa using h2
  show x=y
  rw [← h1,h2]
 | a :: b :: r, x, hc, h1, h2 => by
  have h1:a=x:=by simpa using h1
  subst h1
  obtain ⟨g1,g2,g3⟩:=zdc hc.1
  exact ⟨rfl,g1,g2,g3,zfS (b::r) b hc.2 rfl (by rw [← h2,List.getLast?_cons_cons])⟩
theorem WK {l:List OpV} {x y:Nat} (h:ZN l x y≠[]):WJ l (ZN l x y) x y:=by
 have hp:=zi1.1 h
 cases hd:dsV (edC l) y l.length x with
 | none => exact absurd (zlH.2 hd) hp
 | some m =>
  obtain ⟨_,hw,_⟩:=Uk hd
  obtain ⟨c1,c2,c3,_⟩:=ziJ (n:=l.length) (fun e he=>(zbt l e he).2) _ _ hw
  have hpt:ZN l x y=xt (zhU l) (lwV (edC l) y l.length (m+1) x):=by unfold ZN ptV;rw [hd]
  rw [hpt]
  exact zfS _ _ c1 c2 c3
theorem zah {l:List OpV} {z y:Nat} {E2:List EdC} (h2:WJ l E2 z y):∀ (E1:List EdC) (x:Nat),WJ l E1 x z→WJ l (E1++E2) x y
 | [], x, h => by have h:x=z := h; subst h; exact h2
 | e :: r, x, ⟨h3, h4, h5, h6, h7⟩ => ⟨h3, h4, h5, h6, zah h2 r _ h7⟩
theorem zdW {l:List OpV} {z:Nat}:∀ (E1:List EdC) (x:Nat),WJ l E1 x z→E1≠[]→∃ e∈E1,e.2.1=z
 | [], _, _, h => absurd rfl h
 | [e], x, ⟨_, _, _, _, h7⟩, _ => ⟨e, List.mem_singleton_self _, h7⟩
 | e :: e' :: r, x, ⟨_, _, _, _, h7⟩, _ => by
  obtain ⟨q,hq,h⟩:=zdW (e'::r) _ h7 (List.cons_ne_nil _ _)
  exact ⟨q,List.mem_cons_of_mem _ hq,h⟩
theorem zbH {l:List OpV} (f:Nat→EdC) (m:Nat) (hv:∀ i,i<m→(f i).1<l.length∧(f i).2.1<l.length∧YP l (f i).1 (f i).2.1 (f i).2.2=true) (hs:∀ i,i+1<m→(f i).2.1=(f (i+1)).1):∀ (k s:Nat),s+(k+1)=m→WJ l ((List.range' s (k+1)).map f) (f s).1 (f (m - 1)).2.1
 | 0, s, h => by
  obtain ⟨h1,h2,h3⟩:=hv s za
  refine ⟨rfl,h1,h2,h3,?_⟩
  show (f s).2.1=(f (m - 1)).2.1
  rw [show m - 1=s by omega]
 | k+1, s, h => by
  obtain ⟨h1,h2,h3⟩:=hv s za
  rw [List.range'_succ,List.map_cons]
  refine ⟨rfl,h1,h2,h3,?_⟩
  rw [hs s za]
  exact zbH f m hv hs k (s+1) za
theorem zgW {l:List OpV} (h:YI l≠[]):∃ x,WJ l (YJ l (YI l) (YI l).length) x x∧YJ l (YI l) (YI l).length≠[]:=by
 have hce:=zdn (Yt l) h
 change ∀ i,i<(YI l).length→∃ a b:Nat,nth (YI l) i=a∧nth (YI l) ((i+1) % (YI l).length)=b∧(a,b)∈edC l at hce
 generalize YI l=c at *
 obtain ⟨m,hm⟩:∃ m,c.length=m+1:=by cases c with
  | nil => exact absurd rfl h
  | cons _ r => exact ⟨r.length, rfl⟩
 rw [hm] at hce
 have hv:∀ i,i<m+1→(nth c i).toNat<l.length∧(nth c ((i+1) % (m+1))).toNat<l.length∧YP l (nth c i).toNat (nth c ((i+1) % (m+1))).toNat (zhU l (nth c i).toNat (nth c ((i+1) % (m+1))).toNat)=true:=fun i hi=>by
  obtain ⟨a,b,h1,h2,h3⟩:=hce i hi
  rw [h1,h2]
  exact zdc h3
 have hl:=zbH (l:=l) (fun i=>((nth c i).toNat,(nth c ((i+1) % (m+1))).toNat,zhU l (nth c i).toNat (nth c ((i+1) % (m+1))).toNat)) (m+1) hv (fun i hi=>by dsimp only;rw [Nat.mod_eq_of_lt hi]) m 0 za
 refine ⟨(nth c 0).toNat,?_,?_⟩
 ·unfold YJ
  rw [hm,List.range_eq_range']
  have e:(nth c ((m+1 - 1+1) % (m+1))).toNat=(nth c 0).toNat:=by rw [show m+1 - 1+1=m+1 by omega,Nat.mod_self]
  dsimp only at hl
  rw [e] at hl
  exact hl
 ·unfold YJ
  rw [hm];simp
theorem zlW {l:List OpV} {i:Nat} (h:zbk l=some i):i<l.length∧(nth l i).k=0∧(nth l i).done=true∧(nth l i).res≠0∧∀ j,j<l.length→¬ ((nth l j).k=1∧(nth l j).key=(nth l i).key∧(nth l j).arg=(nth l i).res):=by
 have hi:i∈zI l l.length:=List.mem_of_find?_eq_some h
 obtain ⟨i1,i2⟩:=xA.1 hi
 have hb:=List.find?_some h
 unfold WZ at hb
 simp only [Bool.and_eq_true,decide_eq_true_eq] at hb
 have hd:=Vo hb.1.1 i2
 refine ⟨i1,hb.1.1,hd,hb.1.2,fun j hj hw=>?_⟩
 have hf:=hb.2
 unfold xu at hf
 rw [if_neg (by simp [hb.1.1,hb.1.2])] at hf
 have hinc:xf l j=true:=by
  unfold xf
  simp only [Bool.or_eq_true,Bool.and_eq_true,zh1]
  exact .inr ⟨decide_eq_true hw.1,i,i1,zf2.2 ⟨hb.1.1,hd,hw.2.1.symm,hw.2.2.symm⟩⟩
 cases hc:cIx l (nth l i).key (nth l i).res with
 | none =>
  have:=zck hc j hj hinc
  rw [ZJ.2 hw] at this;cases this
 | some w => rw [hc] at hf; cases hf
/-! ### the order of a history that holds -/
theorem zch {n:Nat} {O:List Int} (hO:∀ j,j<O.length→0≤nth O j):∀ (m x:Nat),m≤O.length→x<n→nth (VG n O m) x≠0→∃ j,j<m∧nth O j=(x:Int)∧nth (VG n O m) x=(j:Int)+1
 | 0, x, _, hx, h => by
  exfalso
  apply h
  show nth (List.replicate n 0) x=0
  rw [nth_eq (by simpa using hx)];simp
 | m+1,x,hm,hx,h=>by
  have hset:∀ y,nth (VG n O (m+1)) y=nth ((VG n O m).set (nth O m).toNat ((m:Int)+1)) y:=fun _=>rfl
  by_cases e:(nth O m).toNat=x
  ·refine ⟨m,by omega,by have:=hO m za;omega,?_⟩
   rw [hset,e,zF (by rw [Uh];exact hx)]
  ·rw [hset,zJ e] at h ⊢
   obtain ⟨j,h1,h2,h3⟩:=zch hO m x za hx h
   exact ⟨j,by omega,h2,h3⟩
theorem zh3 {n:Nat} {O:List Int} {x:Nat} (hx:x<n):∀ (m j:Nat),j<m→nth O j=(x:Int)→nth (VG n O m) x≠0
 | 0, j, h, _ => absurd h (Nat.not_lt_zero _)
 | m+1,j,h,e=>by
  show nth ((VG n O m).set (nth O m).toNat ((m:Int)+1)) x≠0
  by_cases e2:(nth O m).toNat=x
  ·rw [e2,zF (by rw [Uh];exact hx)];omega
  ·rw [zJ e2]
   have hjm:j≠m:=fun h3=>e2 (by rw [← h3,e];rfl)
   exact zh3 hx m j za e
theorem zfY {n:Nat} {E:List (Nat×Nat)} {T:List Int} (hT:Ord n E T) (hE:∀ e∈E,e.1<n∧e.2<n) {t j:Nat} (hj:j<n) (ht:nth T j=(t:Int)):∀ {m x i:Nat},wkB E t (m+1) x=true→i<n→nth T i=(x:Int)→i<j
 | 0, x, i, h, hi, hx => by
  obtain ⟨y,h1,h2⟩:=xV.1 h
  rw [ZT] at h2
  subst h2
  exact hT.fwd _ h1 i j hi hj hx ht
 | m+1, x, i, h, hi, hx => by
  obtain ⟨y,h1,h2⟩:=xV.1 h
  obtain ⟨q,hq,e⟩:=hT.pos (hE _ h1).2
  have h3:=zfY hT hE hj ht h2 hq e
  have h4:=hT.fwd _ h1 i q hi hq hx e
  omega
theorem zkC {l:List OpV} (W:WFH l) (D:YK l) (hc:YI l=[]) :
  (YM l).length≤l.length∧(∀ j,j<(YM l).length→∃ x:Nat,nth (YM l) j=x∧x<l.length)∧(∀ j,j<(YM l).length→zgO ((YM l).drop (j+1)) (nth (YM l) j)=false)∧
  (∀ i,i<l.length→(nth l i).done=true→nth (VG l.length (YM l) (YM l).length) i≠0)∧
  (∀ i k,i<l.length→k<l.length→(YP l i k 1 || YP l i k 2)=true→0<nth (VG l.length (YM l) (YM l).length) i→0<nth (VG l.length (YM l) (YM l).length) k→nth (VG l.length (YM l) (YM l).length) i<nth (VG l.length (YM l) (YM l).length) k):=by
 have hT:=(Yz (Yt l) hc).2
 have hmem:∀ v:Nat,(v:Int)∈YM l↔v<l.length∧xf l v=true:=fun v=>by
  unfold YM xj
  rw [List.mem_filter]
  simp only [Bool.not_not,Int.toNat_natCast]
  refine and_congr_left fun _=>⟨fun h=>by have:=hT.rng _ h;omega,fun h=>?_⟩
  obtain ⟨p,hp,e⟩:=hT.pos h
  rw [← e];exact zu (by rw [hT.len];exact hp)
 have hrg:∀ j,j<(YM l).length→∃ x:Nat,nth (YM l) j=x∧x<l.length:=fun j hj=>by
  have h1:nth (YM l) j∈zV l.length (edC l):=(List.mem_filter.1 (show nth (YM l) j∈(zV l.length (edC l)).filter (fun x=>!(!xf l x.toNat)) from zu hj)).1
  have h2:=hT.rng _ h1
  exact ⟨(nth (YM l) j).toNat,by omega,by omega⟩
 have hnd:(YM l).Nodup:=hT.nd.filter _
 have hlen:(YM l).length≤l.length:=by rw [← hT.len];exact List.length_filter_le _ _
 have hpw:(YM l).Pairwise fun a b=>∃ p q,p<q∧q<l.length∧nth (zV l.length (edC l)) p=a∧nth (zV l.length (edC l)) q=b:=by
  refine List.Pairwise.filter _ (List.pairwise_iff_getElem.2 fun i j hi hj hij=>?_)
  exact ⟨i,j,hij,by rw [← hT.len];exact hj,nth_eq hi,nth_eq hj⟩
 have hnn:∀ j,j<(YM l).length→0≤nth (YM l) j:=fun j hj=>by
  obtain ⟨x,e,_⟩:=hrg j hj
  omega
 refine ⟨hlen,hrg,fun j hj=>?_,fun i hi hd=>?_,fun i k hi hk hb h1 h2=>?_⟩
 ·unfold zgO
  refine decide_eq_false fun hm=>?_
  have h3:(YM l).drop j=(YM l)[j]::(YM l).drop (j+1):=List.drop_eq_getElem_cons hj
  have h4:((YM l).drop j).Nodup:=hnd.sublist (List.drop_sublist _ _)
  rw [h3,List.nodup_cons] at h4
  exact h4.1 (by rw [← nth_eq hj];exact hm)
 ·have hm:=(hmem i).2 ⟨hi,zgQ hd⟩
  obtain ⟨j,hj,e⟩:=List.getElem_of_mem hm
  exact zh3 hi _ j hj (by rw [nth_eq hj];exact e)
 ·obtain ⟨j1,a1,a2,a3⟩:=zch hnn _ i (Nat.le_refl _) hi za
  obtain ⟨j2,b1,b2,b3⟩:=zch hnn _ k (Nat.le_refl _) hk za
  rw [a3,b3]
  have ii:i∈zI l l.length:=xA.2 ((hmem i).1 (by rw [← a2];exact zu a1))
  have ik:k∈zI l l.length:=xA.2 ((hmem k).1 (by rw [← b2];exact zu b1))
  have hwk:∃ m,wkB (edC l) k (m+1) i=true:=by
   rw [Bool.or_eq_true] at hb
   rcases hb with hb|hb
   ·unfold YP at hb
    rw [if_pos rfl,Bool.and_eq_true,decide_eq_true_eq,decide_eq_true_eq] at hb
    exact zey ik _ i (Nat.le_refl _) ii hb.2 hb.1
   ·unfold YP at hb
    rw [if_neg zc] at hb
    simp only [Bool.and_eq_true,decide_eq_true_eq] at hb
    obtain ⟨⟨⟨⟨⟨_,c2⟩,c3⟩,c4⟩,c5⟩,c6⟩:=hb
    have hr:(nth l k).res≠0:=fun e=>D.arg hi c2 (c6.trans e)
    have hf:xu l k=some i:=by
     unfold xu
     rw [if_neg (by simp [c3,hr])]
     exact zke D hi (ZJ.2 ⟨c2,c5,c6⟩) (xA.1 ii).2
    exact ⟨0,xV.2 ⟨k,Vi.2 ⟨ii,ik,.inr hf⟩,ZT.2 rfl⟩⟩
  obtain ⟨m,hm⟩:=hwk
  have hidx:∀ p q,p<l.length→q<l.length→nth (zV l.length (edC l)) p=(i:Int)→nth (zV l.length (edC l)) q=(k:Int)→p<q:=fun p q hp hq e1 e2=>zfY hT (zbt l) hq e2 hm hp e1
  rcases Nat.lt_trichotomy j1 j2 with h|h|h
  ·omega
  ·exfalso
   rw [h] at a2
   obtain ⟨p,hp,e⟩:=hT.pos hi
   have:=hidx p p hp hp e (by rw [e,← a2,b2])
   omega
  ·exfalso
   have h3:=List.pairwise_iff_getElem.1 hpw j2 j1 b1 a1 h
   obtain ⟨p,q,h4,h5,h6,h7⟩:=h3
   rw [← nth_eq b1,b2] at h6
   rw [← nth_eq a1,a2] at h7
   have:=hidx q p h5 za h7 h6
   omega
theorem zg7 (l:List Int) (hl:∀ x∈l,I64 x) (hlen:l.length≤9223372036854775807) (H:List OpV) (hC:zU Try.prog 10 [.list 1 (l.map zp),.int .i64 14] (.ow 43 8) (.list 8 (H.map OpV.fv))) (hn:H.length≤14) (O:List Int)
  (h1:zU Try.prog 18 [.list 8 (H.map OpV.fv)] .sh (.tup [.agg (zfr.fv ⟨5,0,0,O,[]⟩),.int .i64 0]))
  (hx:zU Try.prog 20 [.list 8 (H.map OpV.fv),.list 1 (O.map zp)] .fr (.bool true)):zU Try.prog 7 [.list 1 (l.map zp)] .fr (.bool true):=by
 have hlv:=Zd
 obtain ⟨X,hX⟩:∃ X,O.map zp=X:=⟨_,rfl⟩
 change zU _ _ _ _ (.tup [.agg [.int .i64 5,.int .i64 0,.int .i64 0,.list 1 (O.map zp),.list 3 []],.int .i64 0]) at h1
 rw [hX] at h1 hx
 refine zU.of_body (c:=(xT Try.prog zE zt 311)) ⟨Try.func7,rfl,Try.ntmps7,by kernel_rfl⟩ zL zw rfl ?_
 change FW _ _ _ ⟨[(0,.list 1 (l.map zp))],[]⟩
 refine zb ?_
 refine ZS hC (by repeat (first|exact zA.nil|refine zA.cons zy ?_)) (List.length_map _) rfl rfl rfl ?_
 refine zn.le ?_ (FLe.share 15 rfl rfl (by rw [List.length_map]))
 refine zb ?_
 refine yL h1 (by repeat (first|exact zA.nil|refine zA.cons zy ?_)) rfl rfl ?_
 refine zb ?_
 refine yu hx (by repeat (first|exact zA.nil|refine zA.cons zy ?_)) rfl rfl ?_
 refine zb ?_
 refine yu hlv Wj rfl ⟨_,_,rfl,rfl,rfl⟩ ?_
 refine zb ?_
 exact FW.ret ⟨.inl rfl,zK rfl rfl rfl rfl⟩
theorem zha (l:List Int) (hl:∀ x∈l,I64 x) (hlen:l.length≤9223372036854775807) (H:List OpV) (hC:zU Try.prog 10 [.list 1 (l.map zp),.int .i64 14] (.ow 43 8) (.list 8 (H.map OpV.fv))) (hn:H.length≤14) (i:Nat)
  (h1:zU Try.prog 18 [.list 8 (H.map OpV.fv)] .sh (.tup [.agg (zfr.fv ⟨5,2,(nth H i).key,za4 [i],[]⟩),.int .i64 0]))
  (hi:i<H.length) (h0:(nth H i).k=0) (hd:(nth H i).done=true) (hr:(nth H i).res≠0) (hno:∀ j,j<H.length→¬ ((nth H j).k=1∧(nth H j).key=(nth H i).key∧(nth H j).arg=(nth H i).res)):zU Try.prog 7 [.list 1 (l.map zp)] .fr (.bool true):=by
 have hlv:=Zd
 obtain ⟨n,hnn⟩:∃ n,H.length=n:=⟨_,rfl⟩
 obtain ⟨o,ho⟩:∃ o,nth H i=o:=⟨_,rfl⟩
 rw [ho] at h1 h0 hd hr hno
 change zU _ _ _ _ (.tup [.agg [.int .i64 5,.int .i64 2,.int .i64 o.key,.list 1 [[.int .i64 (i:Int)]],.list 3 []],.int .i64 0]) at h1
 refine zU.of_body (c:=(xT Try.prog zE zt 311)) ⟨Try.func7,rfl,Try.ntmps7,by kernel_rfl⟩ zL zw rfl ?_
 change FW _ _ _ ⟨[(0,.list 1 (l.map zp))],[]⟩
 refine zb ?_
 refine ZS hC (by repeat (first|exact zA.nil|refine zA.cons zy ?_)) (List.length_map _) rfl rfl rfl ?_
 refine zn.le ?_ (FLe.share 15 rfl rfl (by rw [List.length_map]))
 refine zb ?_
 refine yL h1 (by repeat (first|exact zA.nil|refine zA.cons zy ?_)) rfl rfl ?_
 refine zb ?_
 refine FW.cond rfl (fun h=>absurd (of_decide_eq_true h) za) (fun h=>?_)
 clear h
 refine zb ?_
 rw [ho]
 skip
 refine FW.loop (fun j:Nat=>⟨[(3,.list 8 (H.map OpV.fv)),(4,.ptr 104 0 0 0),(7,.ptr 107 0 0 0),(8,.int .i64 j)],[(104,⟨0,.own,36,5,[[.int .i64 5,.int .i64 2,.int .i64 o.key,.list 1 [[.int .i64 (i:Int)]],.list 3 []]]⟩),(107,⟨0,.own,43,8,[o.fv]⟩)]⟩) (fun j=>j≤n) (fun j=>n - j) 0 (Nat.zero_le _) (FLe.cv [⟨104,some 4,0+1,⟨0,.own,36,5,[[.int .i64 5,.int .i64 2,.int .i64 o.key,.list 1 [[.int .i64 (i:Int)]],.list 3 []]]⟩⟩,⟨107,some 7,0+1,⟨0,.own,43,8,[o.fv]⟩⟩] (by repeat (first|exact .nil|refine .old rfl zc rfl ?_)) (by repeat (first|exact .nil|refine .cons (.plain rfl rfl rfl) ?_|refine .cons (.ptr rfl (.head _) rfl) ?_|refine .cons (.ptr rfl (.tail _ (.head _)) rfl) ?_))) ?_
 intro j hj
 refine zb ?_
 refine FW.cond rfl (fun h=>?_) (fun h=>?_)
 ·have hlt:j<H.length:=by simpa using h
  clear h
  have hnj:=hno j hlt
  obtain ⟨q,hq⟩:∃ q,nth H j=q:=⟨_,rfl⟩
  rw [hq] at hnj
  refine zY ?_
  refine xv (fun g1=>?_) (fun g1=>?_)
  ·have g1:q.k=1:=by rw [← hq];exact of_decide_eq_true g1
   refine zD ?_
   refine xv (fun g2=>?_) (fun g2=>?_)
   ·have g2:q.key=o.key:=by rw [← hq];exact of_decide_eq_true g2
    refine zD ?_
    refine ⟨by kernel_rfl,?_⟩
    skip
    refine FW.cond rfl (fun g3=>absurd ⟨g1,g2,by rw [← hq];exact of_decide_eq_true g3⟩ hnj) (fun g3=>?_)
    refine zb ?_
    exact ⟨j+1,by omega,by omega,(FLe.cv [⟨104,some 104,0,⟨0,.own,36,5,[[.int .i64 5,.int .i64 2,.int .i64 o.key,.list 1 [[.int .i64 (i:Int)]],.list 3 []]]⟩⟩,⟨107,some 107,0,⟨0,.own,43,8,[o.fv]⟩⟩] (by repeat (first|exact .nil|refine .old rfl zc rfl ?_)) (by repeat (first|exact .nil|refine .cons (.plain rfl rfl rfl) ?_|refine .cons (.ptr rfl (.head _) rfl) ?_|refine .cons (.ptr rfl (.tail _ (.head _)) rfl) ?_)))⟩
   ·refine zD ?_
    refine ⟨by kernel_rfl,?_⟩
    refine zb ?_
    exact ⟨j+1,by omega,by omega,(FLe.cv [⟨104,some 104,0,⟨0,.own,36,5,[[.int .i64 5,.int .i64 2,.int .i64 o.key,.list 1 [[.int .i64 (i:Int)]],.list 3 []]]⟩⟩,⟨107,some 107,0,⟨0,.own,43,8,[o.fv]⟩⟩] (by repeat (first|exact .nil|refine .old rfl zc rfl ?_)) (by repeat (first|exact .nil|refine .cons (.plain rfl rfl rfl) ?_|refine .cons (.ptr rfl (.head _) rfl) ?_|refine .cons (.ptr rfl (.tail _ (.head _)) rfl) ?_)))⟩
  ·refine zD ?_
   refine ⟨by kernel_rfl,?_⟩
   refine zb ?_
   exact ⟨j+1,by omega,by omega,(FLe.cv [⟨104,some 104,0,⟨0,.own,36,5,[[.int .i64 5,.int .i64 2,.int .i64 o.key,.list 1 [[.int .i64 (i:Int)]],.list 3 []]]⟩⟩,⟨107,some 107,0,⟨0,.own,43,8,[o.fv]⟩⟩] (by repeat (first|exact .nil|refine .old rfl zc rfl ?_)) (by repeat (first|exact .nil|refine .cons (.plain rfl rfl rfl) ?_|refine .cons (.ptr rfl (.head _) rfl) ?_|refine .cons (.ptr rfl (.tail _ (.head _)) rfl) ?_)))⟩
 ·clear h
  refine zb ?_
  refine zN (fun h=>?_) (fun h=>absurd h0 (of_decide_eq_false h))
  refine zb ?_
  refine zN (fun h=>?_) (fun h=>absurd hd (by rw [show o.done=false from h];decide))
  refine zb ?_
  refine zN (fun h=>?_) (fun h=>absurd hr (of_decide_eq_false h))
  refine zb ?_
  rw [show decide (o.key=o.key)=true from decide_eq_true rfl]
  refine yu hlv Wj rfl ⟨_,_,rfl,rfl,rfl⟩ ?_
  refine zb ?_
  exact FW.ret ⟨.inl rfl,zK rfl rfl rfl rfl⟩
theorem zi0 (l:List Int) (hl:∀ x∈l,I64 x) (hlen:l.length≤9223372036854775807) (H:List OpV) (hC:zU Try.prog 10 [.list 1 (l.map zp),.int .i64 14] (.ow 43 8) (.list 8 (H.map OpV.fv))) (hn:H.length≤14) (E:List EdC) (x:Nat)
  (h1:zU Try.prog 18 [.list 8 (H.map OpV.fv)] .sh (.tup [.agg (zfr.fv ⟨5,6,0,[],E⟩),.int .i64 0]))
  (hk:WJ H E x x) (hne:E≠[]) (hEl:E.length≤1000):zU Try.prog 7 [.list 1 (l.map zp)] .fr (.bool true):=by
 have hlv:=Zd
 have hch:=Vg H E x x hk hne za za
 obtain ⟨e,r,rfl⟩:∃ e r,E=e::r:=by
  cases E with
  | nil => exact absurd rfl hne
  | cons e r => exact ⟨e, r, rfl⟩
 obtain rfl:=hk.1
 obtain ⟨E,hE⟩:∃ E,E=List.map EdC.fv (e::r):=⟨_,rfl⟩
 have hEn:E.length=r.length+1:=by rw [hE];simp
 have hE1:0<E.length:=by omega
 have hE0:E.getD 0 []=e.fv:=by rw [hE];rfl
 change zU _ _ _ _ (.tup [.agg [.int .i64 5,.int .i64 6,.int .i64 0,.list 1 [],.list 3 (List.map EdC.fv (e::r))],.int .i64 0]) at h1
 rw [← hE] at h1 hch
 clear hE
 refine zU.of_body (c:=(xT Try.prog zE zt 311)) ⟨Try.func7,rfl,Try.ntmps7,by kernel_rfl⟩ zL zw rfl ?_
 change FW _ _ _ ⟨[(0,.list 1 (l.map zp))],[]⟩
 refine zb ?_
 refine ZS hC (by repeat (first|exact zA.nil|refine zA.cons zy ?_)) (List.length_map _) rfl rfl rfl ?_
 refine zn.le ?_ (FLe.share 15 rfl rfl (by rw [List.length_map]))
 refine zb ?_
 refine yL h1 (by repeat (first|exact zA.nil|refine zA.cons zy ?_)) rfl rfl ?_
 refine zb ?_
 refine FW.cond rfl (fun h=>absurd (of_decide_eq_true h) za) (fun h=>?_)
 clear h
 refine zY ?_
 refine xg rfl rfl rfl hE1 hE0 rfl rfl rfl rfl ?_
 refine zD ?_
 refine xg rfl rfl rfl hE1 hE0 rfl rfl rfl rfl ?_
 skip
 refine Vw hch (by repeat (first|exact zA.nil|refine zA.cons zy ?_)) rfl rfl ?_
 refine zD ?_
 refine Vw hlv Wj rfl ⟨_,_,rfl,rfl,rfl⟩ ?_
 refine zD ?_
 refine ⟨by kernel_rfl,?_⟩
 skip
 exact FW.ret ⟨.inl rfl,zK rfl rfl rfl rfl⟩
def zlk (E:List EdC) (b j:Nat):Bool:=(E.take j).any fun e=>decide (e.2.1=b)
theorem zjX {E:List EdC} {b j:Nat} (hj:j<E.length):zlk E b (j+1)=(zlk E b j || decide ((nth E j).2.1=b)):=by
 unfold zlk
 rw [List.take_succ_eq_append_getElem hj,List.any_append,nth_eq hj]
 simp
theorem zg9 (l:List Int) (hl:∀ x∈l,I64 x) (hlen:l.length≤9223372036854775807) (H:List OpV) (hC:zU Try.prog 10 [.list 1 (l.map zp),.int .i64 14] (.ow 43 8) (.list 8 (H.map OpV.fv))) (hn:H.length≤14) (a b c:Nat) (key:Int) (E:List EdC)
  (h1:zU Try.prog 18 [.list 8 (H.map OpV.fv)] .sh (.tup [.agg (zfr.fv ⟨5,7,key,za4 [a,b,c],E⟩),.int .i64 0]))
  (hO:∀ j,j<3→nth [a,b,c] j<H.length∧(nth H (nth [a,b,c] j)).key=key∧((nth H (nth [a,b,c] j)).k=0↔j=2))
  (hk:WJ H E a c) (hne:E≠[]) (hEl:E.length≤1000) (hdn:(nth H c).done=true) (hth:∃ e∈E,e.2.1=b) (hres:(nth H c).res=(nth H a).arg) (hab:a≠b):zU Try.prog 7 [.list 1 (l.map zp)] .fr (.bool true):=by
 have hlv:=Zd
 have hch:=Vg H E a c hk hne za za
 obtain ⟨N,hN⟩:∃ N,N=[a,b,c]:=⟨_,rfl⟩
 have hNl:N.length=3:=by rw [hN];rfl
 rw [← hN] at hO
 change zU _ _ _ _ (.tup [.agg [.int .i64 5,.int .i64 7,.int .i64 key,.list 1 ([a,b,c].map ym),.list 3 (E.map EdC.fv)],.int .i64 0]) at h1
 rw [← hN] at h1
 refine zU.of_body (c:=(xT Try.prog zE zt 311)) ⟨Try.func7,rfl,Try.ntmps7,by kernel_rfl⟩ zL zw rfl ?_
 change FW _ _ _ ⟨[(0,.list 1 (l.map zp))],[]⟩
 refine zb ?_
 refine ZS hC (by repeat (first|exact zA.nil|refine zA.cons zy ?_)) (List.length_map _) rfl rfl rfl ?_
 refine zn.le ?_ (FLe.share 15 rfl rfl (by rw [List.length_map]))
 refine zb ?_
 refine yL h1 (by repeat (first|exact zA.nil|refine zA.cons zy ?_)) rfl rfl ?_
 refine zb ?_
 rw [hNl]
 refine zb ?_
 refine FW.loop (fun j:Nat=>⟨[(3,.list 8 (H.map OpV.fv)),(4,.ptr 104 0 0 0),(6,.ptr 106 0 0 0),(9,.int .i64 (3:Nat)),(10,.int .i64 j)],[(104,⟨0,.own,36,5,[[.int .i64 5,.int .i64 7,.int .i64 key,.list 1 (N.map ym),.list 3 (E.map EdC.fv)]]⟩),(106,⟨0,.own,34,2,[[.list 1 (N.map ym),.list 3 (E.map EdC.fv)]]⟩)]⟩) (fun j=>j≤3) (fun j=>3 - j) 0 zc (FLe.cv [⟨104,some 4,0+1,⟨0,.own,36,5,[[.int .i64 5,.int .i64 7,.int .i64 key,.list 1 (N.map ym),.list 3 (E.map EdC.fv)]]⟩⟩,⟨106,some 6,0+1,⟨0,.own,34,2,[[.list 1 (N.map ym),.list 3 (E.map EdC.fv)]]⟩⟩] (by repeat (first|exact .nil|refine .old rfl zc rfl ?_)) (by repeat (first|exact .nil|refine .cons (.plain rfl rfl rfl) ?_|refine .cons (.ptr rfl (.head _) rfl) ?_|refine .cons (.ptr rfl (.tail _ (.head _)) rfl) ?_))) ?_
 intro j hj
 refine zb ?_
 refine FW.cond rfl (fun h=>?_) (fun h=>?_)
 ·have hlt:j<3:=by simp at h;omega
  clear h
  have hjN:j<N.length:=by omega
  obtain ⟨g1,g2,g3⟩:=hO j hlt
  refine zY ?_
  refine xv (fun h=>absurd (of_decide_eq_true h) za) (fun h=>?_)
  clear h
  refine zD ?_
  refine xv (fun h=>absurd g2 (of_decide_eq_true h)) (fun h=>?_)
  clear h
  refine zD ?_
  refine ⟨by kernel_rfl,?_⟩
  skip
  refine FW.cond rfl (fun h=>?_) (fun h=>?_)
  ·exfalso
   have h:=of_decide_eq_true h
   apply h
   refine decide_eq_decide.2 ⟨fun q=>?_,fun q=>g3.2 ?_⟩
   ·have:=g3.1 q
    subst this;rfl
   ·have q:(j:Int)=3 - 1:=q
    omega
  ·refine zb ?_
   exact ⟨j+1,by omega,by omega,(FLe.cv [⟨104,some 104,0,⟨0,.own,36,5,[[.int .i64 5,.int .i64 7,.int .i64 key,.list 1 (N.map ym),.list 3 (E.map EdC.fv)]]⟩⟩,⟨106,some 106,0,⟨0,.own,34,2,[[.list 1 (N.map ym),.list 3 (E.map EdC.fv)]]⟩⟩] (by repeat (first|exact .nil|refine .old rfl zc rfl ?_)) (by repeat (first|exact .nil|refine .cons (.plain rfl rfl rfl) ?_|refine .cons (.ptr rfl (.head _) rfl) ?_|refine .cons (.ptr rfl (.tail _ (.head _)) rfl) ?_)))⟩
 ·clear h hj
  have q0:=(hO 0 zc).1
  have q1:=(hO 1 zc).1
  have q2:=(hO 2 zc).1
  have n0:nth N 0=a:=by rw [hN];rfl
  have n1:nth N 1=b:=by rw [hN];rfl
  have n2:nth N 2=c:=by rw [hN];rfl
  have s0:(N.map ym).getD 0 []=ym a:=by rw [hN];rfl
  have s1:(N.map ym).getD 1 []=ym b:=by rw [hN];rfl
  have l0:0<(N.map ym).length:=by rw [List.length_map,hNl];decide
  have l1:1<(N.map ym).length:=by rw [List.length_map,hNl];decide
  obtain ⟨o,ho⟩:∃ o,nth H c=o:=⟨_,rfl⟩
  rw [ho] at hdn hres
  have n2' : nth N (3 - Nat.succ 0)=c:=n2
  rw [← n2'] at hch
  have hE:E.any (fun e=>decide (e.2.1=b))=true:=by
   obtain ⟨e,h1,h2⟩:=hth
   exact List.any_eq_true.2 ⟨e,h1,decide_eq_true h2⟩
  refine zb ?_
  rw [show nth N (3 - Nat.succ 0)=c from n2,ho]
  refine zY ?_
  refine xg rfl rfl rfl l0 s0 rfl rfl rfl rfl ?_
  refine zD ?_
  refine Vw hch (by repeat (first|exact zA.nil|refine zA.cons zy ?_)) rfl rfl ?_
  refine zD ?_
  refine ⟨by kernel_rfl,?_⟩
  skip
  refine FW.cond rfl (fun h=>absurd hdn (by simpa using h)) (fun h=>?_)
  clear h
  refine zb ?_
  refine FW.loop (fun j:Nat=>⟨[(3,.list 8 (H.map OpV.fv)),(6,.ptr 106 0 0 0),(11,.ptr 111 0 0 0),(12,.bool (zlk E b j)),(13,.int .i64 j)],[(106,⟨0,.own,34,2,[[.list 1 (N.map ym),.list 3 (E.map EdC.fv)]]⟩),(111,⟨0,.own,43,8,[o.fv]⟩)]⟩) (fun j=>j≤E.length) (fun j=>E.length - j) 0 (Nat.zero_le _) ?_ ?_
  ·rw [show zlk E b 0=false from rfl]
   exact (FLe.cv [⟨106,some 106,0,⟨0,.own,34,2,[[.list 1 (N.map ym),.list 3 (E.map EdC.fv)]]⟩⟩,⟨111,some 11,0+1,⟨0,.own,43,8,[o.fv]⟩⟩] (by repeat (first|exact .nil|refine .old rfl zc rfl ?_)) (by repeat (first|exact .nil|refine .cons (.plain rfl rfl rfl) ?_|refine .cons (.ptr rfl (.head _) rfl) ?_|refine .cons (.ptr rfl (.tail _ (.head _)) rfl) ?_)))
  intro j hj
  refine zb ?_
  refine FW.cond rfl (fun h=>?_) (fun h=>?_)
  ·have hlt:j<E.length:=by simpa using h
   clear h
   have hsu:=zjX (b:=b) hlt
   obtain ⟨B,hB⟩:∃ B,zlk E b j=B:=⟨_,rfl⟩
   rw [hB] at hsu ⊢
   cases B with
   | true =>
    rw [Bool.true_or] at hsu
    refine zY ?_
    refine ⟨by kernel_rfl,?_⟩
    refine zb ?_
    refine ⟨j+1,by omega,by omega,?_⟩
    rw [hsu]
    exact (FLe.cv [⟨106,some 106,0,⟨0,.own,34,2,[[.list 1 (N.map ym),.list 3 (E.map EdC.fv)]]⟩⟩,⟨111,some 111,0,⟨0,.own,43,8,[o.fv]⟩⟩] (by repeat (first|exact .nil|refine .old rfl zc rfl ?_)) (by repeat (first|exact .nil|refine .cons (.plain rfl rfl rfl) ?_|refine .cons (.ptr rfl (.head _) rfl) ?_|refine .cons (.ptr rfl (.tail _ (.head _)) rfl) ?_)))
   | false =>
    rw [Bool.false_or] at hsu
    refine zY ?_
    refine xg rfl rfl rfl l1 s1 rfl rfl rfl ⟨_,_,rfl,rfl,rfl⟩ ?_
    refine zD ?_
    refine ⟨by kernel_rfl,?_⟩
    refine zb ?_
    refine ⟨j+1,by omega,by omega,?_⟩
    rw [hsu,show decide ((nth E j).2.1=b)=decide (((nth E j).2.1:Int)=(b:Int)) from decide_eq_decide.2 za]
    exact (FLe.cv [⟨106,some 106,0,⟨0,.own,34,2,[[.list 1 (N.map ym),.list 3 (E.map EdC.fv)]]⟩⟩,⟨111,some 111,0,⟨0,.own,43,8,[o.fv]⟩⟩] (by repeat (first|exact .nil|refine .old rfl zc rfl ?_)) (by repeat (first|exact .nil|refine .cons (.plain rfl rfl rfl) ?_|refine .cons (.ptr rfl (.head _) rfl) ?_|refine .cons (.ptr rfl (.tail _ (.head _)) rfl) ?_)))
  ·have hj:j=E.length:=by simp at h;omega
   clear h
   rw [hj,show zlk E b E.length=true by unfold zlk;rw [List.take_length];exact hE]
   have qa:a<H.length:=by rw [← n0];exact q0
   refine zY ?_
   refine xg rfl rfl rfl l0 s0 rfl rfl rfl ⟨_,_,rfl,rfl,rfl⟩ ?_
   refine zD ?_
   refine xv (fun h=>?_) (fun h=>absurd hres (of_decide_eq_false h))
   refine zD ?_
   refine xg rfl rfl rfl l0 s0 rfl rfl rfl ⟨_,_,rfl,rfl,rfl⟩ ?_
   refine zD ?_
   refine xg rfl rfl rfl l1 s1 rfl rfl rfl ⟨_,_,rfl,rfl,rfl⟩ ?_
   refine zD ?_
   refine xv (fun h=>?_) (fun h=>absurd (of_decide_eq_false h) za)
   skip
   refine Vw hlv Wj rfl ⟨_,_,rfl,rfl,rfl⟩ ?_
   refine zD ?_
   refine ⟨by kernel_rfl,?_⟩
   skip
   exact FW.ret ⟨.inl rfl,zK rfl rfl rfl rfl⟩
theorem zg8 (l:List Int) (hl:∀ x∈l,I64 x) (hlen:l.length≤9223372036854775807) (H:List OpV) (hC:zU Try.prog 10 [.list 1 (l.map zp),.int .i64 14] (.ow 43 8) (.list 8 (H.map OpV.fv))) (hn:H.length≤14) (a c:Nat) (key:Int) (E:List EdC)
  (h1:zU Try.prog 18 [.list 8 (H.map OpV.fv)] .sh (.tup [.agg (zfr.fv ⟨5,8,key,za4 [a,c],E⟩),.int .i64 0]))
  (hO:∀ j,j<2→nth [a,c] j<H.length∧(nth H (nth [a,c] j)).key=key∧((nth H (nth [a,c] j)).k=0↔j=1))
  (hk:WJ H E a c) (hne:E≠[]) (hEl:E.length≤1000) (hdn:(nth H c).done=true) (hres:(nth H c).res=0):zU Try.prog 7 [.list 1 (l.map zp)] .fr (.bool true):=by
 have hlv:=Zd
 have hch:=Vg H E a c hk hne za za
 obtain ⟨N,hN⟩:∃ N,N=[a,c]:=⟨_,rfl⟩
 have hNl:N.length=2:=by rw [hN];rfl
 rw [← hN] at hO
 change zU _ _ _ _ (.tup [.agg [.int .i64 5,.int .i64 8,.int .i64 key,.list 1 ([a,c].map ym),.list 3 (E.map EdC.fv)],.int .i64 0]) at h1
 rw [← hN] at h1
 refine zU.of_body (c:=(xT Try.prog zE zt 311)) ⟨Try.func7,rfl,Try.ntmps7,by kernel_rfl⟩ zL zw rfl ?_
 change FW _ _ _ ⟨[(0,.list 1 (l.map zp))],[]⟩
 refine zb ?_
 refine ZS hC (by repeat (first|exact zA.nil|refine zA.cons zy ?_)) (List.length_map _) rfl rfl rfl ?_
 refine zn.le ?_ (FLe.share 15 rfl rfl (by rw [List.length_map]))
 refine zb ?_
 refine yL h1 (by repeat (first|exact zA.nil|refine zA.cons zy ?_)) rfl rfl ?_
 refine zb ?_
 rw [hNl]
 refine zb ?_
 refine FW.loop (fun j:Nat=>⟨[(3,.list 8 (H.map OpV.fv)),(4,.ptr 104 0 0 0),(6,.ptr 106 0 0 0),(9,.int .i64 (2:Nat)),(10,.int .i64 j)],[(104,⟨0,.own,36,5,[[.int .i64 5,.int .i64 8,.int .i64 key,.list 1 (N.map ym),.list 3 (E.map EdC.fv)]]⟩),(106,⟨0,.own,34,2,[[.list 1 (N.map ym),.list 3 (E.map EdC.fv)]]⟩)]⟩) (fun j=>j≤2) (fun j=>2 - j) 0 zc (FLe.cv [⟨104,some 4,0+1,⟨0,.own,36,5,[[.int .i64 5,.int .i64 8,.int .i64 key,.list 1 (N.map ym),.list 3 (E.map EdC.fv)]]⟩⟩,⟨106,some 6,0+1,⟨0,.own,34,2,[[.list 1 (N.map ym),.list 3 (E.map EdC.fv)]]⟩⟩] (by repeat (first|exact .nil|refine .old rfl zc rfl ?_)) (by repeat (first|exact .nil|refine .cons (.plain rfl rfl rfl) ?_|refine .cons (.ptr rfl (.head _) rfl) ?_|refine .cons (.ptr rfl (.tail _ (.head _)) rfl) ?_))) ?_
 intro j hj
 refine zb ?_
 refine FW.cond rfl (fun h=>?_) (fun h=>?_)
 ·have hlt:j<2:=by simp at h;omega
  clear h
  have hjN:j<N.length:=by omega
  obtain ⟨g1,g2,g3⟩:=hO j hlt
  refine zY ?_
  refine xv (fun h=>absurd (of_decide_eq_true h) za) (fun h=>?_)
  clear h
  refine zD ?_
  refine xv (fun h=>absurd g2 (of_decide_eq_true h)) (fun h=>?_)
  clear h
  refine zD ?_
  refine ⟨by kernel_rfl,?_⟩
  skip
  refine FW.cond rfl (fun h=>?_) (fun h=>?_)
  ·exfalso
   have h:=of_decide_eq_true h
   apply h
   refine decide_eq_decide.2 ⟨fun q=>?_,fun q=>g3.2 ?_⟩
   ·have:=g3.1 q
    subst this;rfl
   ·have q:(j:Int)=2 - 1:=q
    omega
  ·refine zb ?_
   exact ⟨j+1,by omega,by omega,(FLe.cv [⟨104,some 104,0,⟨0,.own,36,5,[[.int .i64 5,.int .i64 8,.int .i64 key,.list 1 (N.map ym),.list 3 (E.map EdC.fv)]]⟩⟩,⟨106,some 106,0,⟨0,.own,34,2,[[.list 1 (N.map ym),.list 3 (E.map EdC.fv)]]⟩⟩] (by repeat (first|exact .nil|refine .old rfl zc rfl ?_)) (by repeat (first|exact .nil|refine .cons (.plain rfl rfl rfl) ?_|refine .cons (.ptr rfl (.head _) rfl) ?_|refine .cons (.ptr rfl (.tail _ (.head _)) rfl) ?_)))⟩
 ·clear h hj
  have q0:=(hO 0 zc).1
  have q1:=(hO 1 zc).1
  have n0:nth N 0=a:=by rw [hN];rfl
  have n2:nth N 1=c:=by rw [hN];rfl
  have s0:(N.map ym).getD 0 []=ym a:=by rw [hN];rfl
  have l0:0<(N.map ym).length:=by rw [List.length_map,hNl];decide
  obtain ⟨o,ho⟩:∃ o,nth H c=o:=⟨_,rfl⟩
  rw [ho] at hdn hres
  have n2' : nth N (2 - Nat.succ 0)=c:=n2
  rw [← n2'] at hch
  refine zb ?_
  rw [show nth N (2 - Nat.succ 0)=c from n2,ho]
  refine zY ?_
  refine xg rfl rfl rfl l0 s0 rfl rfl rfl rfl ?_
  refine zD ?_
  refine Vw hch (by repeat (first|exact zA.nil|refine zA.cons zy ?_)) rfl rfl ?_
  refine zD ?_
  refine ⟨by kernel_rfl,?_⟩
  skip
  refine FW.cond rfl (fun h=>absurd hdn (by simpa using h)) (fun h=>?_)
  clear h
  refine zb ?_
  refine zN (fun h=>?_) (fun h=>absurd hres (of_decide_eq_false h))
  skip
  refine yu hlv Wj rfl ⟨_,_,rfl,rfl,rfl⟩ ?_
  refine zb ?_
  exact FW.ret ⟨.inl rfl,zK rfl rfl rfl rfl⟩
end Go.Proofs.Ytmnmakhpjgjdaaa
