/-
  Some texts as one: FmRef03, TopoRef, FmWalks, CycRef, FmLives03, EdgeCongr, FmCau9.
-/
import Derived.Test.YtmnmakhpjgjdaaaZR
import Derived.Test.YtmnmakhpjgjdaaaZK
import Derived.Test.YtmnmakhpjgjdaaaZL
import Derived.Test.YtmnmakhpjgjdaaaZFmCyc2
import Derived.Test.YtmnmakhpjgjdaaaZFmCau6
/-
 The graphs of layer 3 and what its reference asks of them.
-/
namespace Go.Proofs.Ytmnmakhpjgjdaaa
set_option linter.unusedVariables false
open Go.RowKit

def zad (E:List (Nat×Nat)) (a b:Int):Bool:=E.any fun e=>decide ((e.1:Int)=a) && decide ((e.2:Int)=b)
def zmw (e:Nat×Nat):Nat×Nat:=(min e.1 e.2,max e.1 e.2)
def zkK (E:List (Nat×Nat)):Nat→List (Nat×Nat)
 | 0 => E
 | k+1 => if k % 7=6 then zkK E k else (zkK E k).set k (zmw (nth (zkK E k) k))
def zbN (E:List (Nat×Nat)) (v:Int) (out:List Int):Bool:=E.all fun e=>!decide ((e.2:Int)=v) || zef out e.1
def zkP (p:Nat→Bool) (n:Nat):Nat→Int
 | 0 => -1
 | k+1 => if p (n - (k+1))=true then ((n - (k+1):Nat):Int) else zkP p n k
def zcq (E:List (Nat×Nat)) (out:List Int) (v:Nat):Bool:=!zef out v && zbN E v out
def rtK (E:List (Nat×Nat)) (n:Nat):Nat→List Int→Option (List Int)
 | 0, out => some out
 | k+1, out => if zkP (zcq E out) n n<0 then none else rtK E n k (out ++ [zkP (zcq E out) n n])
end Go.Proofs.Ytmnmakhpjgjdaaa
/-
 graph.Topo and the reference take the same vertices in the same order.
-/
namespace Go.Proofs.Ytmnmakhpjgjdaaa
set_option linter.unusedVariables false

theorem zdF (p:Nat→Bool) (n:Nat):∀ k,k≤n→(zkP p n k = -1∧∀ v,n - k≤v→v<n→p v=false)∨∃ v,zkP p n k=(v:Nat)∧n - k≤v∧v<n∧p v=true∧∀ u,n - k≤u→u<v→p u=false
 | 0, _ => .inl ⟨rfl, fun v h1 h2 => by omega⟩
 | k+1,hk=>by
  have ih:=zdF p n k (by omega)
  unfold zkP
  by_cases hp:p (n - (k+1))=true
  ·rw [if_pos hp]
   exact .inr ⟨_,rfl,Nat.le_refl _,by omega,hp,fun u h1 h2=>by omega⟩
  ·rw [if_neg hp]
   have hp' : p (n - (k+1))=false:=by simpa using hp
   rcases ih with ⟨e,h⟩|⟨v,e,h1,h2,h3,h4⟩
   ·refine .inl ⟨e,fun v q1 q2=>?_⟩
    by_cases hv:v=n - (k+1)
    ·subst hv;exact hp'
    ·exact h v (by omega) q2
   ·refine .inr ⟨v,e,by omega,h2,h3,fun u q1 q2=>?_⟩
    by_cases hv:u=n - (k+1)
    ·subst hv;exact hp'
    ·exact h4 u (by omega) q2
theorem ziJ {n:Nat} {E:List (Nat×Nat)} (h:InN n E) (out:List Int) (v:Nat):zbN E v out=true↔zee n E out v=0:=by
 unfold zbN zee
 rw [List.all_eq_true,List.countP_eq_zero]
 constructor
 ·intro hr u hu hc
  simp only [Bool.and_eq_true,decide_eq_true_eq] at hc
  obtain ⟨e,he,h1,h2⟩:=xn.1 hc.2
  have:=hr e he
  subst h1
  have h3:((e.2:Nat):Int)=(v:Int):=h2
  rw [h3] at this
  unfold zef at this
  simp at this
  exact hc.1 this
 ·intro hc e he
  have hin:=h e he
  by_cases hv:((e.2:Nat):Int)=v
  ·have:=hc e.1 (List.mem_range.2 hin.1)
   simp only [Bool.and_eq_true,decide_eq_true_eq,not_and] at this
   unfold zef
   by_cases hm:((e.1:Nat):Int)∈out
   ·simp [hm]
   ·exact absurd (xn.2 ⟨e,he,rfl,hv⟩) (this hm)
  ·simp [hv]
theorem TI.next {n:Nat} {E:List (Nat×Nat)} (hE:InN n E) {s:zcN} (h:TI n E s) (v:Nat) (hv:v<n):zcq E s.out v=true↔(v:Int)∈s.h:=by
 rw [h.hM,Int.toNat_natCast,h.cnt v hv]
 unfold zcq zef
 rw [Bool.and_eq_true,ziJ hE]
 constructor
 ·rintro ⟨h1,h2⟩
  exact ⟨by omega,by simpa using h1,by omega⟩
 ·rintro ⟨_,h1,h2⟩
  exact ⟨by simpa using h1,by omega⟩
theorem zfQ {n:Nat} {E:List (Nat×Nat)} (hE:InN n E):∀ (k f:Nat) (s:zcN),TI n E s→s.out.length+k=n→n<s.out.length+f→rtK E n k s.out=if (yb E f s).out.length<n then none else some (yb E f s).out
 | k, 0, s, h, _, hf => by have := h.le; omega
 | k, f+1,s,h,hk,hf=>by
  have hl:=zdF (zcq E s.out) n n (Nat.le_refl _)
  by_cases h0:s.h=[]
  ·rw [Vg E (f+1) s h0]
   cases k with
   | zero =>
    rw [if_neg (by omega)];rfl
   | succ k=>
    rw [if_pos (by omega)]
    unfold rtK
    rcases hl with ⟨e,_⟩|⟨v,e,_,h2,h3,_⟩
    ·rw [if_pos (by omega)]
    ·have:=(h.next hE v h2).1 h3
     rw [h0] at this;cases this
  ·obtain ⟨q,hq⟩:∃ q,s.h.length=q+1:=⟨s.h.length - 1,by have:=List.length_pos_iff.2 h0;omega⟩
   obtain ⟨v,hv,hvn,hvo,hm0,hmin,hD,hN,hR⟩:=h.first hq
   have hvh:(v:Int)∈s.h:=by
    rw [h.hM];exact ⟨by omega,hvo,by rw [Int.toNat_natCast];exact hm0⟩
   have hso:(yV E s).out=s.out++[(v:Int)]:=by
    unfold yV
    dsimp only
    rw [show s.h.length - 1=q by omega,hv]
   have e1:yb E (f+1) s=yb E f (yV E s):=if_neg h0
   cases k with
   | zero =>
    have:=Yo hN hR
    simp at this
    omega
   | succ k=>
    have hlv:zkP (zcq E s.out) n n=v:=by
     rcases hl with ⟨_,hno⟩|⟨u,e,_,h2,h3,h4⟩
     ·have:=hno v (by omega) hvn
      rw [(h.next hE v hvn).2 hvh] at this;cases this
     ·have hu:=(h.next hE u h2).1 h3
      have hle:=hmin _ hu
      rcases Nat.lt_or_ge v u with hlt|hge
      ·have:=h4 v (by omega) hlt
       rw [(h.next hE v hvn).2 hvh] at this;cases this
      ·rw [e];omega
    unfold rtK
    rw [hlv,if_neg (by omega),← hso,e1]
    exact zfQ hE k f (yV E s) (h.step hE h0) (by rw [Xs];omega) (by rw [Xs];omega)
theorem zlc {n:Nat} {E:List (Nat×Nat)} (hE:InN n E):rtK E n n []=if (yU n E).length<n then none else some (yU n E):=
 zfQ hE n (n+1) (yv n E) (TI.start hE) (Nat.zero_add n) (by show n<0+(n+1);omega)
end Go.Proofs.Ytmnmakhpjgjdaaa
/-
 The reference's walks and its Cycle.
-/
namespace Go.Proofs.Ytmnmakhpjgjdaaa
set_option linter.unusedVariables false
open Go.RowKit

def zjN:List Int→List Int→Bool
 | x :: a, y :: b => if x=y then zjN a b else decide (x<y)
 | [], b => decide (0<b.length)
 | _ :: _, [] => false
def Xu (out:List (List Int)) (tg ab k v w:Nat):List Int:=if k=1 then (if w=tg then [(v:Int)] else []) else if ab<w∧nth out w≠[] then (v:Int)::nth out w else []
def zjc (E:List (Nat×Nat)) (out:List (List Int)) (tg ab k v:Nat) (cur:List Int) (w:Nat):List Int:=
 if zad E v w=true∧Xu out tg ab k v w≠[]∧(cur=[]∨zjN (Xu out tg ab k v w) cur=true) then Xu out tg ab k v w else cur
def zjj (E:List (Nat×Nat)) (out:List (List Int)) (tg ab k v j:Nat):List Int:=(List.range j).foldl (zjc E out tg ab k v) []
def zbE (E:List (Nat×Nat)) (out:List (List Int)) (tg ab k n i:Nat):List (List Int):=(List.range n).map fun v=>if v<i then zjj E out tg ab k v n else []
def yy (E:List (Nat×Nat)) (tg ab n:Nat):Nat→List (List Int)
 | 0 => List.replicate n []
 | k+1 => zbE E (yy E tg ab n k) tg ab (k+1) n n
theorem zgE (E:List (Nat×Nat)) (out:List (List Int)) (tg ab k n i:Nat):(zbE E out tg ab k n i).length=n:=by simp [zbE]
theorem ze9 (E:List (Nat×Nat)) (tg ab n:Nat):∀ k,(yy E tg ab n k).length=n
 | 0 => by simp [yy]
 | k+1 => zgE _ _ _ _ _ _ _
theorem zhD (E:List (Nat×Nat)) (out:List (List Int)) (tg ab k v j:Nat):zjj E out tg ab k v (j+1)=zjc E out tg ab k v (zjj E out tg ab k v j) j:=by
 unfold zjj
 rw [List.range_succ,List.foldl_append];rfl
def XQ (E:List (Nat×Nat)) (n len s:Nat):List Int:=nth (yy E s s n len) s
def ZX (E:List (Nat×Nat)) (n len:Nat):Nat→Nat→List Int
 | 0, _ => []
 | k+1, s => if XQ E n len s=[] then ZX E n len k (s+1) else XQ E n len s
def Xb (E:List (Nat×Nat)) (n:Nat):Nat→Nat→List Int
 | 0, _ => []
 | k+1, len => if ZX E n len n 0=[] then Xb E n k (len+1) else ZX E n len n 0
def xO (E:List (Nat×Nat)) (n:Nat):List Int:=Xb E n n 1
end Go.Proofs.Ytmnmakhpjgjdaaa
/-
 graph.Cycle and the reference find the same shortest cycle.
-/
namespace Go.Proofs.Ytmnmakhpjgjdaaa
set_option linter.unusedVariables false

theorem zgy {E:List (Nat×Nat)} {a b:Nat}:zad E a b=true↔(b:Int)∈zt E a:=by
 unfold zad
 rw [List.any_eq_true,xn]
 constructor
 ·rintro ⟨e,he,h⟩
  simp only [Bool.and_eq_true,decide_eq_true_eq] at h
  exact ⟨e,he,by omega,h.2⟩
 ·rintro ⟨e,he,h1,h2⟩
  exact ⟨e,he,by simp only [Bool.and_eq_true,decide_eq_true_eq];omega⟩
def Wx (n:Nat) (E:List (Nat×Nat)) (s:Nat):Nat→Nat→Prop
 | 0, _ => False
 | 1, v => (s:Int) ∈ zt E v
 | k+2, v => ∃ w:Nat, w<n ∧ (w:Int) ∈ zt E v ∧ s<w ∧ Wx n E s (k+1) w
def zkh (E:List (Nat×Nat)) (O:List (List Int)) (tg ab k v w:Nat):Prop:=zad E v w=true∧Xu O tg ab k v w≠[]
theorem Xz {E:List (Nat×Nat)} {O:List (List Int)} {s k v:Nat} (hh:∀ w,nth O w≠[]→∃ r,nth O w=(w:Int)::r):∀ j,(zjj E O s s k v j=[]∧∀ w,w<j→¬ zkh E O s s k v w)∨∃ w,w<j∧zkh E O s s k v w∧(∀ u,u<w→¬ zkh E O s s k v u)∧zjj E O s s k v j=Xu O s s k v w
 | 0 => .inl ⟨rfl, fun w hw => by omega⟩
 | j + 1=>by
  rw [zhD]
  rcases Xz (E:=E) (O:=O) (s:=s) (k:=k) (v:=v) hh j with ⟨e,h⟩|⟨w,h1,h2,h3,e⟩
  ·rw [e]
   unfold zjc
   by_cases hc:zkh E O s s k v j
   ·rw [if_pos ⟨hc.1,hc.2,.inl rfl⟩]
    exact .inr ⟨j,Nat.lt_succ_self _,hc,fun u hu=>h u hu,rfl⟩
   ·rw [if_neg (fun q=>hc ⟨q.1,q.2.1⟩)]
    refine .inl ⟨rfl,fun w hw=>?_⟩
    by_cases hwj:w=j
    ·subst hwj;exact hc
    ·exact h w (by omega)
  ·rw [e]
   refine .inr ⟨w,by omega,h2,h3,?_⟩
   unfold zjc
   refine if_neg fun q=>?_
   obtain ⟨q1,q2,q3⟩:=q
   rcases q3 with q3|q3
   ·exact h2.2 q3
   ·have hw2:=h2.2
    unfold Xu at q2 q3 hw2
    by_cases hk:k=1
    ·rw [if_pos hk] at q2 hw2
     rw [if_pos hk,if_pos hk] at q3
     by_cases e1:j=s
     ·by_cases e2:w=s
      ·omega
      ·rw [if_neg e2] at hw2;exact hw2 rfl
     ·rw [if_neg e1] at q2;exact q2 rfl
    ·rw [if_neg hk] at q2 hw2
     rw [if_neg hk,if_neg hk] at q3
     by_cases e1:s<j∧nth O j≠[]
     ·by_cases e2:s<w∧nth O w≠[]
      ·rw [if_pos e1,if_pos e2] at q3
       obtain ⟨r1,f1⟩:=hh j e1.2
       obtain ⟨r2,f2⟩:=hh w e2.2
       rw [f1,f2] at q3
       unfold zjN at q3
       rw [if_pos rfl] at q3
       unfold zjN at q3
       rw [if_neg (by omega)] at q3
       simp at q3
       omega
      ·rw [if_neg e2] at hw2;exact hw2 rfl
     ·rw [if_neg e1] at q2;exact q2 rfl
theorem zaS {E:List (Nat×Nat)} {s n k v:Nat} (hv:v<n):nth (yy E s s n (k+1)) v=zjj E (yy E s s n k) s s (k+1) v n:=by
 have e:yy E s s n (k+1)=(List.range n).map fun v=>if v<n then zjj E (yy E s s n k) s s (k+1) v n else []:=rfl
 rw [e,nth_eq (by simpa using hv)]
 simp [hv]
theorem VG {E:List (Nat×Nat)} {s n:Nat}:∀ (k w:Nat),nth (yy E s s n k) w≠[]→w<n∧∃ r,nth (yy E s s n k) w=(w:Int)::r
 | 0, w, h => by
  refine absurd ?_ h
  rcases Nat.lt_or_ge w n with hw|hw
  ·rw [nth_eq (by simpa [yy] using hw)];simp [yy]
  ·unfold nth;rw [List.getD_eq_getElem?_getD,List.getElem?_eq_none (by simpa [yy] using hw)];rfl
 | k + 1,w,h=>by
  have hw:w<n:=by
   rcases Nat.lt_or_ge w n with hw|hw
   ·exact hw
   ·refine absurd ?_ h
    unfold nth;rw [List.getD_eq_getElem?_getD,List.getElem?_eq_none (by rw [ze9];exact hw)];rfl
  refine ⟨hw,?_⟩
  rw [zaS hw] at h ⊢
  rcases Xz (E:=E) (s:=s) (k:=k+1) (v:=w) (fun u hu=>(VG k u hu).2) n with ⟨e,_⟩|⟨u,_,hc,_,e⟩
  ·exact absurd e h
  ·rw [e]
   have h2:=hc.2
   unfold Xu at h2 ⊢
   split at h2
   ·split at h2
    ·rename_i h3 h4
     rw [if_pos h3,if_pos h4];exact ⟨_,rfl⟩
    ·exact absurd rfl h2
   ·split at h2
    ·rename_i h3 h4
     rw [if_neg h3,if_pos h4];exact ⟨_,rfl⟩
    ·exact absurd rfl h2
theorem Xw {E:List (Nat×Nat)} {s n k v w:Nat}:zkh E (yy E s s n k) s s (k+1) v w↔(w:Int)∈zt E v∧if k=0 then w=s else s<w∧nth (yy E s s n k) w≠[]:=by
 unfold zkh
 rw [zgy]
 refine and_congr Iff.rfl ?_
 unfold Xu
 by_cases hk:k=0
 ·subst hk
  rw [if_pos rfl,if_pos rfl]
  by_cases e:w=s
  ·rw [if_pos e];simp [e]
  ·rw [if_neg e];simp [e]
 ·rw [if_neg (by omega),if_neg hk]
  by_cases e:s<w∧nth (yy E s s n k) w≠[]
  ·rw [if_pos e];simp [e.1,e.2]
  ·rw [if_neg e]
   constructor
   ·intro q;exact absurd rfl q
   ·intro q;exact absurd q e
theorem Yy {n:Nat} {E:List (Nat×Nat)} (h:InN n E) {s:Nat} (hs:s<n):∀ (k v:Nat),v<n→(nth (yy E s s n (k+1)) v≠[]↔Wx n E s (k+1) v)
 | k,v,hv=>by
  rw [zaS hv]
  have hex:zjj E (yy E s s n k) s s (k+1) v n≠[]↔∃ w,w<n∧zkh E (yy E s s n k) s s (k+1) v w:=by
   rcases Xz (E:=E) (s:=s) (k:=k+1) (v:=v) (fun u hu=>(VG k u hu).2) n with ⟨e,hno⟩|⟨u,h1,hc,_,e⟩
   ·constructor
    ·intro q;exact absurd e q
    ·rintro ⟨w,h1,h2⟩;exact absurd h2 (hno w h1)
   ·constructor
    ·intro _;exact ⟨u,h1,hc⟩
    ·intro _;rw [e];exact hc.2
  rw [hex]
  cases k with
  | zero=>
   constructor
   ·rintro ⟨w,_,hc⟩
    obtain ⟨c1,c2⟩:=Xw.1 hc
    rw [if_pos rfl] at c2
    subst c2;exact c1
   ·intro hm
    exact ⟨s,hs,Xw.2 ⟨hm,by rw [if_pos rfl]⟩⟩
  | succ k=>
   constructor
   ·rintro ⟨w,hw,hc⟩
    obtain ⟨c1,c2⟩:=Xw.1 hc
    rw [if_neg (by omega)] at c2
    exact ⟨w,hw,c1,c2.1,(Yy h hs k w hw).1 c2.2⟩
   ·rintro ⟨w,hw,hm,hsw,hx⟩
    exact ⟨w,hw,Xw.2 ⟨hm,by rw [if_neg (by omega)];exact ⟨hsw,(Yy h hs k w hw).2 hx⟩⟩⟩
section
variable {n:Nat} {E:List (Nat×Nat)} (h:InN n E) {s:Nat} (hs:s<n)
include h hs
theorem Wx.dist:∀ (k w:Nat),w<n→s<w→Wx n E s (k+1) w→0≤nth (zP n E s) w∧nth (zP n E s) w≤(k+1:Nat)
 | 0, w, hw, hsw, hx => by
  have h0:=zfl h hs
  have:=Vn h hs hs hw (show (s:Int)∈zt E w from hx) hsw (by omega)
  omega
 | k+1, w, hw, hsw, hx => by
  obtain ⟨u,hu,hm,hsu,hxu⟩:=hx
  have h1:=Wx.dist k u hu hsu hxu
  have:=Vn h hs hu hw hm hsw h1.1
  omega
theorem zcb:∀ (k w:Nat),w<n→nth (zP n E s) w=(k+1:Nat)→s<w∧Wx n E s (k+1) w
 | 0, w, hw, hd => by
  refine ⟨WE h hs hw (by omega),?_⟩
  obtain ⟨u,hu,hm,hdu⟩:=UA h hs hw (by omega)
  have:u=s:=zbi h hs hu (by omega)
  subst this;exact hm
 | k+1, w, hw, hd => by
  refine ⟨WE h hs hw (by omega),?_⟩
  obtain ⟨u,hu,hm,hdu⟩:=UA h hs hw (by omega)
  obtain ⟨h1,h2⟩:=zcb k u hu (by omega)
  exact ⟨u,hu,hm,h1,h2⟩
end
theorem zaK (d:List Int) (st:Int):∀ (row:List Int) (len:Int),0≤len→(0<len→row.foldl (ym d st) len≤len∧0<row.foldl (ym d st) len)∧∀ w∈row,st≤w→0≤nth d w.toNat→0<row.foldl (ym d st) len∧row.foldl (ym d st) len≤nth d w.toNat+1
 | [], len, _ => ⟨fun h => ⟨Int.le_refl _, h⟩, fun w hw => by cases hw⟩
 | x::row,len,h0=>by
  rw [List.foldl_cons]
  have hs:0≤ym d st len x∧(0<len→ym d st len x≤len∧0<ym d st len x)∧(st≤x→0≤nth d x.toNat→0<ym d st len x∧ym d st len x≤nth d x.toNat+1):=by
   unfold ym
   split <;> rename_i hc
   ·refine ⟨by omega,fun _=>?_,fun _ _=>by omega⟩
    rcases hc.2 with h|h <;> omega
   ·refine ⟨h0,fun _=>by omega,fun h1 h2=>?_⟩
    have:¬ (len=0∨nth d x.toNat+1<len):=fun q=>hc ⟨⟨h1,h2⟩,q⟩
    omega
  obtain ⟨i1,i2⟩:=zaK d st row (ym d st len x) hs.1
  refine ⟨fun h=>?_,fun w hw h1 h2=>?_⟩
  ·have:=hs.2.1 h
   have:=i1 this.2
   omega
  ·rcases List.mem_cons.1 hw with rfl|hw
   ·have h3:=hs.2.2 h1 h2
    have:=i1 h3.1
    omega
   ·exact i2 w hw h1 h2
theorem Wh {d:List Int} {st:Int} {row:List Int} {w:Int} (hw:w∈row) (h1:st≤w) (h2:0≤nth d w.toNat):0<xf d st row∧xf d st row≤nth d w.toNat+1:=(zaK d st row 0 (Int.le_refl _)).2 w hw h1 h2
theorem VO (p:Int→Bool) (r:List Int):∀ (k i j:Nat),YS p r k i=(j:Int)→∀ q,i≤q→q<j→p (nth r q)=false
 | 0, i, j, h, q, _, _ => by
  have:(-1:Int)=j:=h
  omega
 | k+1,i,j,h,q,h1,h2=>by
  unfold YS at h
  by_cases hp:p (nth r i)=true
  ·rw [if_pos hp] at h;omega
  ·rw [if_neg hp] at h
   by_cases e:q=i
   ·subst e;simpa using hp
   ·exact VO p r k (i+1) j h q (by omega) h2
section
variable {n:Nat} {E:List (Nat×Nat)} (h:InN n E) {s:Nat} (hs:s<n)
include h hs
theorem zbB {L:Nat} (hx:Wx n E s (L+1) s):0<xf (zP n E s) s (zt E s)∧xf (zP n E s) s (zt E s)≤(L+1:Nat):=by
 cases L with
 | zero =>
  have h0:=zfl h hs
  have:=Wh (d:=zP n E s) (st:=s) (show (s:Int)∈zt E s from hx) (Int.le_refl _) (by rw [Int.toNat_natCast];omega)
  rw [Int.toNat_natCast] at this
  omega
 | succ L =>
  obtain ⟨w,hw,hm,hsw,hxw⟩:=hx
  have hd:=Wx.dist h hs L w hw hsw hxw
  have:=Wh (d:=zP n E s) (st:=s) hm (by omega) (by rw [Int.toNat_natCast];omega)
  rw [Int.toNat_natCast] at this
  omega
theorem zb0 {L:Nat} (hL:xf (zP n E s) s (zt E s)=(L+1:Nat)):Wx n E s (L+1) s:=by
 rcases Vv (zP n E s) s (zt E s) with e|⟨w,hw,h1,h2,h3⟩
 ·omega
 ·have hin:=yx h hw
  obtain ⟨w,rfl⟩:∃ w' : Nat,w=w':=⟨w.toNat,by omega⟩
  rw [Int.toNat_natCast] at h2 h3
  cases L with
  | zero =>
   have:w=s:=zbi h hs (by omega) (by omega)
   subst this;exact hw
  | succ L =>
   obtain ⟨k1,k2⟩:=zcb h hs L w (by omega) (by omega)
   exact ⟨w,by omega,hw,k1,k2⟩
theorem zfT:∀ (k v:Nat),v<n→Wx n E s (k+1) v→(∀ w:Nat,(w:Int)∈zt E v→s<w→0≤nth (zP n E s) w→(k:Int)≤nth (zP n E s) w)→nth (yy E s s n (k+1)) v=(v:Int)::ZU E (zP n E s) s k v
 | k, v, hv,hx,hmin=>by
  have hne:=(Yy h hs k v hv).2 hx
  rw [zaS hv] at hne ⊢
  rcases Xz (E:=E) (s:=s) (k:=k+1) (v:=v) (fun u hu=>(VG k u hu).2) n with ⟨e,_⟩|⟨u,hu,hc,hfirst,e⟩
  ·exact absurd e hne
  ·rw [e]
   obtain ⟨c1,c2⟩:=Xw.1 hc
   cases k with
   | zero =>
    rw [if_pos rfl] at c2
    unfold Xu
    rw [if_pos rfl,if_pos c2];rfl
   | succ k=>
    rw [if_neg (by omega)] at c2
    have hxu:=(Yy h hs k u hu).1 c2.2
    have hdu:=Wx.dist h hs k u hu c2.1 hxu
    have hmu:=hmin u c1 c2.1 hdu.1
    have hdu' : nth (zP n E s) u=(k+1:Nat):=by omega
    have hon:Wi (zP n E s) s (k+1:Nat) u=true:=by
     unfold Wi
     rw [decide_eq_true_eq,Int.toNat_natCast]
     exact ⟨by omega,hdu'⟩
    obtain ⟨j,hj,hfx,hpj⟩:=Wd c1 hon
    have hin:=yx h (zC hj)
    obtain ⟨x,hxn⟩:∃ x:Nat,nth (zt E v) j=x:=⟨(nth (zt E v) j).toNat,by omega⟩
    have hux:u=x:=by
     rw [hxn] at hpj hin
     unfold Wi at hpj
     rw [decide_eq_true_eq,Int.toNat_natCast] at hpj
     have hxm:(x:Int)∈zt E v:=by rw [← hxn];exact zC hj
     obtain ⟨_,hwx⟩:=zcb h hs k x (by omega) hpj.2
     have hcx:zkh E (yy E s s n (k+1)) s s (k+1+1) v x:=Xw.2 ⟨hxm,by rw [if_neg (by omega)];exact ⟨by omega,(Yy h hs k x (by omega)).2 hwx⟩⟩
     rcases Nat.lt_trichotomy u x with hlt|heq|hgt
     ·-- u stands ahead of x in the row,and VP takes the first
      obtain ⟨q,hq,hqu⟩:=List.getElem_of_mem c1
      have hqj:q<j:=by
       rcases Nat.lt_or_ge q j with q1|q1
       ·exact q1
       ·have hasc:=List.pairwise_iff_getElem.1 (zec E v)
        rcases Nat.lt_or_ge j q with q2|q2
        ·have:=hasc j q hj hq q2
         rw [← nth_eq hj,hxn,hqu] at this
         omega
        ·obtain rfl:q=j:=by omega
         rw [nth_eq hq,hqu] at hxn
         omega
      have:=VO (Wi (zP n E s) s (k+1:Nat)) (zt E v) (zt E v).length 0 j hfx q (Nat.zero_le _) hqj
      rw [nth_eq hq,hqu] at this
      rw [hon] at this;cases this
     ·exact heq
     ·exact absurd hcx (hfirst x hgt)
    have hstep:xE E (zP n E s) s (k+1:Nat) v=u:=by
     unfold xE
     rw [hfx,Int.toNat_natCast,hxn,hux,Int.toNat_natCast]
    show Xu (yy E s s n (k+1)) s s (k+1+1) v u=(v:Int)::ZU E (zP n E s) s (k+1) v
    unfold Xu
    rw [if_neg (by omega),if_pos c2]
    have ih:=zfT k u hu hxu fun w hw hsw h0=>by
     have hwin:=yx h hw
     have:=Vn h hs (u:=w) (v:=u) (by omega) hu hw c2.1 h0
     omega
    rw [ih]
    show _=(v:Int)::((xE E (zP n E s) s (k+1:Nat) v:Nat):Int)::ZU E (zP n E s) s k (xE E (zP n E s) s (k+1:Nat) v)
    rw [hstep]
end
theorem zgA (d:List Int) (st:Int) (row:List Int):0≤xf d st row:=by
 rcases Vv d st row with e|⟨w,_,_,h2,h3⟩ <;> omega
def lenOf (n:Nat) (E:List (Nat×Nat)) (s:Nat):Int:=xf (zP n E s) s (zt E s)
section
variable {n:Nat} {E:List (Nat×Nat)} (h:InN n E)
include h
theorem zcm {s:Nat} (hs:s<n) (h0:lenOf n E s≠0):∃ K:Nat,lenOf n E s=(K+1:Nat)∧K<n∧XQ E n (K+1) s=(s:Int)::ZU E (zP n E s) s K s:=by
 obtain ⟨K,hK,hKn,_⟩:=YK h hs h0
 refine ⟨K,hK,hKn,zfT h hs K s hs (zb0 h hs hK) fun w hw hsw hd=>?_⟩
 have:=Wh (d:=zP n E s) (st:=s) hw (by omega) (by rw [Int.toNat_natCast];exact hd)
 rw [Int.toNat_natCast,hK] at this
 omega
theorem zcL {s L:Nat} (hs:s<n) (h0:XQ E n (L+1) s≠[]):0<lenOf n E s∧lenOf n E s≤(L+1:Nat):=zbB h hs ((Yy h hs L s hs).1 h0)
theorem Uh:∀ i,i≤n→(zcP n E i=[]∧∀ s,s<i→lenOf n E s=0)∨∃ s0 K,s0<i∧lenOf n E s0=((K+1:Nat):Int)∧zcP n E i=(s0:Int)::ZU E (zP n E s0) s0 K s0∧(∀ s,s<i→lenOf n E s≠0→((K+1:Nat):Int)≤lenOf n E s)∧∀ s,s<s0→lenOf n E s≠0→((K+1:Nat):Int)<lenOf n E s
 | 0, _ => .inl ⟨rfl, fun s hs => by omega⟩
 | i + 1,hi=>by
  rw [UB]
  have hL:xf (zP n E i) i (zt E i)=lenOf n E i:=rfl
  have hnn:0≤lenOf n E i:=zgA _ _ _
  unfold XZ
  dsimp only
  rw [hL]
  rcases Uh i (by omega) with ⟨e,hz⟩|⟨s0,K,h1,h2,e,h4,h5⟩
  ·rw [e]
   by_cases h0:lenOf n E i=0
   ·rw [if_pos (.inl h0)]
    refine .inl ⟨rfl,fun s hs=>?_⟩
    by_cases hsi:s=i
    ·subst hsi;exact h0
    ·exact hz s (by omega)
   ·rw [if_neg (by rintro (q|q);exact h0 q;exact q.1 rfl)]
    obtain ⟨K,hK,_,_⟩:=zcm h (by omega) h0
    refine .inr ⟨i,K,Nat.lt_succ_self _,hK,by rw [hK,Int.toNat_natCast];rfl,fun s hs hne=>?_,fun s hs hne=>absurd (hz s hs) hne⟩
    by_cases hsi:s=i
    ·subst hsi;omega
    ·exact absurd (hz s (by omega)) hne
  ·have hlen:(zcP n E i).length=K+1:=by rw [e,List.length_cons,Vi]
   by_cases hc:lenOf n E i=0∨(zcP n E i≠[]∧((zcP n E i).length:Int)≤lenOf n E i)
   ·rw [if_pos hc]
    refine .inr ⟨s0,K,by omega,h2,e,fun s hs hne=>?_,h5⟩
    by_cases hsi:s=i
    ·subst hsi
     rcases hc with q|q
     ·exact absurd q hne
     ·rw [hlen] at q;exact q.2
    ·exact h4 s (by omega) hne
   ·rw [if_neg hc]
    have h0:lenOf n E i≠0:=fun q=>hc (.inl q)
    have hlt:lenOf n E i<((K+1:Nat):Int):=by
     have:¬ ((zcP n E i).length:Int)≤lenOf n E i:=fun q=>hc (.inr ⟨by rw [e];exact List.cons_ne_nil _ _,q⟩)
     rw [hlen] at this;omega
    obtain ⟨K',hK,_,_⟩:=zcm h (by omega) h0
    refine .inr ⟨i,K',Nat.lt_succ_self _,hK,by rw [hK,Int.toNat_natCast];rfl,fun s hs hne=>?_,fun s hs hne=>?_⟩
    ·by_cases hsi:s=i
     ·subst hsi;omega
     ·have:=h4 s (by omega) hne;omega
    ·have:=h4 s hs hne;omega
end
theorem Vo {E:List (Nat×Nat)} {n len:Nat}:∀ (k s:Nat),(∀ u,s≤u→u<s+k→XQ E n len u=[])→ZX E n len k s=[]
 | 0, _, _ => rfl
 | k+1, s, h => by
  unfold ZX
  rw [if_pos (h s (Nat.le_refl _) (by omega))]
  exact Vo k (s+1) fun u h1 h2=>h u (by omega) (by omega)
theorem VL {E:List (Nat×Nat)} {n len s0:Nat} (h0:XQ E n len s0≠[]):∀ (k s:Nat),s≤s0→s0<s+k→(∀ u,s≤u→u<s0→XQ E n len u=[])→ZX E n len k s=XQ E n len s0
 | 0, s, h1, h2, _ => by omega
 | k+1,s,h1,h2,h=>by
  unfold ZX
  by_cases e:s=s0
  ·subst e;rw [if_neg h0]
  ·rw [if_pos (h s (Nat.le_refl _) (by omega))]
   exact VL h0 k (s+1) (by omega) (by omega) fun u q1 q2=>h u (by omega) q2
theorem UC {E:List (Nat×Nat)} {n:Nat}:∀ (k len:Nat),(∀ l,len≤l→l<len+k→ZX E n l n 0=[])→Xb E n k len=[]
 | 0, _, _ => rfl
 | k+1, len, h => by
  unfold Xb
  rw [if_pos (h len (Nat.le_refl _) (by omega))]
  exact UC k (len+1) fun u h1 h2=>h u (by omega) (by omega)
theorem WG {E:List (Nat×Nat)} {n l0:Nat} (h0:ZX E n l0 n 0≠[]):∀ (k len:Nat),len≤l0→l0<len+k→(∀ l,len≤l→l<l0→ZX E n l n 0=[])→Xb E n k len=ZX E n l0 n 0
 | 0, len, h1, h2, _ => by omega
 | k+1,len,h1,h2,h=>by
  unfold Xb
  by_cases e:len=l0
  ·subst e;rw [if_neg h0]
  ·rw [if_pos (h len (Nat.le_refl _) (by omega))]
   exact WG h0 k (len+1) (by omega) (by omega) fun u q1 q2=>h u (by omega) q2
theorem Ui {n:Nat} {E:List (Nat×Nat)} (h:InN n E):zdg n E=xO E n:=by
 rcases Uh h n (Nat.le_refl _) with ⟨e,hz⟩|⟨s0,K,h1,h2,e,h4,h5⟩
 ·show zcP n E n=_
  rw [e]
  refine (UC n 1 fun l hl1 hl2=>Vo n 0 fun u _ hu=>?_).symm
  obtain ⟨l,rfl⟩:∃ l',l=l'+1:=⟨l - 1,by omega⟩
  by_cases hc:XQ E n (l+1) u=[]
  ·exact hc
  ·have:=zcL h (by omega) hc
   have:=hz u (by omega)
   omega
 ·show zcP n E n=_
  rw [e]
  obtain ⟨K',hK',hKn,hw⟩:=zcm h h1 (by omega)
  obtain rfl:K'=K:=by omega
  have hne:XQ E n (K'+1) s0≠[]:=by rw [hw];exact List.cons_ne_nil _ _
  have hrow:ZX E n (K'+1) n 0=XQ E n (K'+1) s0:=VL hne n 0 (Nat.zero_le _) (by omega) fun u _ hu=>by
   by_cases hc:XQ E n (K'+1) u=[]
   ·exact hc
   ·have q:=zcL h (by omega) hc
    have:=h5 u hu (by omega)
    omega
  unfold xO
  rw [WG (l0:=K'+1) (by rw [hrow];exact hne) n 1 (by omega) (by omega) fun l hl1 hl2=>Vo n 0 fun u _ hu=>?_,hrow,hw]
  obtain ⟨l,rfl⟩:∃ l',l=l'+1:=⟨l - 1,by omega⟩
  by_cases hc:XQ E n (l+1) u=[]
  ·exact hc
  ·have q:=zcL h (by omega) hc
   have:=h4 u (by omega) (by omega)
   omega
end Go.Proofs.Ytmnmakhpjgjdaaa
/-
 The examples of layer 3;graph.Topo and graph.Cycle as the reference has them.
-/
namespace Go.Proofs.Ytmnmakhpjgjdaaa
set_option linter.unusedVariables false
open Go.RowKit

theorem zey (n:Nat) (E:List (Nat×Nat)) (hn:n≤14) (hE:E.length≤1000) (hin:InN n E):yn Try.prog 56 [.int .i64 n,.list 2 (E.map edf)] .sh (.list 1 ((xO E n).map zy)):=by
 rw [← Ui hin];exact zf7 n E hn hE hin
end Go.Proofs.Ytmnmakhpjgjdaaa
/-
 The reference's answers about a graph depend on the set of its edges alone.
-/
namespace Go.Proofs.Ytmnmakhpjgjdaaa
set_option linter.unusedVariables false

section
variable {E E' : List (Nat×Nat)} (h:∀ e,e∈E↔e∈E')
include h
theorem zeR:zad E=zad E':=by
 funext a b
 unfold zad
 rw [Bool.eq_iff_iff,List.any_eq_true,List.any_eq_true]
 exact ⟨fun ⟨e,he,hp⟩=>⟨e,(h e).1 he,hp⟩,fun ⟨e,he,hp⟩=>⟨e,(h e).2 he,hp⟩⟩
theorem ze1:zbN E=zbN E':=by
 funext a b
 unfold zbN
 rw [Bool.eq_iff_iff,List.all_eq_true,List.all_eq_true]
 exact ⟨fun H e he=>H e ((h e).2 he),fun H e he=>H e ((h e).1 he)⟩
theorem zaR (tg ab n:Nat):∀ k,yy E tg ab n k=yy E' tg ab n k
 | 0 => rfl
 | k+1 => by
  show zbE E _ _ _ _ _ _=zbE E' _ _ _ _ _ _
  rw [zaR tg ab n k]
  unfold zbE zjj zjc
  rw [zeR h]
theorem zet (n len s:Nat):XQ E n len s=XQ E' n len s:=by unfold XQ;rw [zaR h]
theorem VK (n len:Nat):∀ k s,ZX E n len k s=ZX E' n len k s
 | 0, _ => rfl
 | k+1, s => by
  show (if _ then _ else _)=(if _ then _ else _)
  rw [zet h,VK n len k]
theorem WF (n:Nat):∀ k len,Xb E n k len=Xb E' n k len
 | 0, _ => rfl
 | k+1, len => by
  show (if _ then _ else _)=(if _ then _ else _)
  rw [VK h,WF n k]
theorem VU (n:Nat):xO E n=xO E' n:=WF h n n 1
theorem zd6 (n:Nat):∀ k out,rtK E n k out=rtK E' n k out
 | 0, _ => rfl
 | k+1, out => by
  have e:zcq E out=zcq E' out:=by funext v;unfold zcq;rw [ze1 h]
  show (if _ then _ else _)=(if _ then _ else _)
  rw [e,zd6 n k]
end
end Go.Proofs.Ytmnmakhpjgjdaaa
/-
 The patterns of package causal at plain values: thin.
-/
namespace Go.Proofs.Ytmnmakhpjgjdaaa
set_option linter.unusedVariables false
open Go.RowKit

def zkS (sz:Nat):List (List FV)→FV
 | [] => .nil
 | e :: es => .list sz (e :: es)
def VW (ck cls arg:Int) (ord:List Nat) (ed:List EdC):List FV:=[.int .i64 ck,.int .i64 cls,.int .i64 arg,zkS 1 (ord.map yK),zkS 3 (ed.map EdC.fv)]
def zdW (l:List OpV):FV:=zgU l (.list 1 ((zE l l.length).map yK)) (.list 1 ((List.range l.length).map fun q=>[xk (KC l q)]))
def zhf (l:List OpV):FV:=match Ug l with
 | some i => .tup [.agg (VW 0 2 (nth l i).key [i] []), .bool true]
 | none => .tup [.agg (VW 0 0 0 [] []), .bool false]
theorem Xd {α:Type} [Inhabited α] {p:α→Bool} {l:List α} {j:Nat} (h:∀ i,i<j→p (nth l i)=false) (hj:j<l.length) (hp:p (nth l j)=true):l.find? p=some (nth l j):=by
 rw [nth_eq hj] at hp ⊢
 have:l=l.take j++l[j]::l.drop (j+1):=by rw [← List.drop_eq_getElem_cons hj,List.take_append_drop]
 rw [List.find?_eq_some_iff_append]
 refine ⟨hp,l.take j,l.drop (j+1),this,fun a ha=>?_⟩
 obtain ⟨i,hi,rfl⟩:=List.getElem_of_mem ha
 have hij:i<j:=by rw [List.length_take] at hi;omega
 have:=h i hij
 rw [nth_eq (by omega)] at this
 rw [List.getElem_take,this];rfl
theorem Vs {α:Type} [Inhabited α] {p:α→Bool} {l:List α} (h:∀ i,i<l.length→p (nth l i)=false):l.find? p=none:=by
 rw [List.find?_eq_none]
 intro x hx
 obtain ⟨i,hi,rfl⟩:=List.getElem_of_mem hx
 have:=h i hi
 rw [nth_eq hi] at this
 simp [this]
set_option maxHeartbeats 4000000 in
theorem zje (l:List OpV) (hl:l.length≤1000) (hin:∀ o∈l,zaW o):yn Try.prog 32 [zdW l] .sh (zhf l):=by
 obtain ⟨F3,hF3⟩:∃ F3,F3=FV.list 1 ((List.range l.length).map fun q=>[xk (KC l q)]):=⟨_,rfl⟩
 obtain ⟨I,hI⟩:∃ I,I=zE l l.length:=⟨_,rfl⟩
 have hfr:=fun i hi=>UL l (.list 1 (I.map yK)) F3 rfl (by rw [hF3];rfl) i hi (by omega) hin
 have hIl:I.length≤l.length:=by rw [hI];exact Yi l l.length
 have hIm:∀ j,j<I.length→nth I j<l.length:=fun j hj=>by have:=zC hj;rw [hI] at this ⊢;exact yT this
 unfold zdW
 rw [← hF3,← hI]
 obtain ⟨R,hR⟩:∃ R,zhf l=R:=⟨_,rfl⟩
 have hRh:R.hand=none:=by rw [← hR];unfold zhf;split <;> rfl
 rw [hR]
 have hyes:∀ j,j<I.length→(∀ i,i<j→XW l (nth I i)=false)→XW l (nth I j)=true→R=.tup [.agg (VW 0 2 (nth l (nth I j)).key [nth I j] []),.bool true]:=fun j h1 h2 h3=>by
  rw [← hR];unfold zhf Ug;rw [← hI,Xd h2 h1 h3]
 have hno:(∀ i,i<I.length→XW l (nth I i)=false)→R=.tup [.agg (VW 0 0 0 [] []),.bool false]:=fun h=>by
  rw [← hR];unfold zhf Ug;rw [← hI,Vs h]
 clear hR
 refine yn.of_body (c:=(ZO Try.prog zI zA 51)) ⟨Try.func32,rfl,Try.ntmps32,by kernel_rfl⟩ (by simp [FV.hand,zgU]) (by exact Nat.le_of_ble_eq_true rfl) hRh ?_
 unfold zgU at hfr ⊢
 change FW _ _ _ ⟨[(0,.eptr 4 [[.list 8 (l.map OpV.fv),.list 1 (I.map yK),.smap (yE l l.length),F3]] 0 0)],[]⟩
 (repeat (first|refine FW.seq ?_|refine FW.region ?_|refine FW.block ?_|refine zc.nil ?_|refine zD rfl rfl rfl rfl rfl rfl rfl ?_|refine zb rfl rfl rfl ?_|refine za rfl rfl rfl ?_|refine yP rfl rfl rfl ?_|refine zQ rfl rfl rfl rfl rfl rfl rfl ?_|refine zj rfl rfl rfl (by simp;done) rfl rfl rfl rfl rfl ?_|refine zp rfl rfl (by first|exact List.length_map _|rfl|(simp;done)) rfl rfl ?_))
 refine FW.loop (fun j:Nat=>⟨[(0,.eptr 4 [[.list 8 (l.map OpV.fv),.list 1 (I.map yK),.smap (yE l l.length),F3]] 0 0),(2,.ptr 102 0 0 0),(12,.list 1 (I.map yK)),(13,.int .i64 I.length),(14,.int .i64 j)],[(102,⟨0,.own,36,5,[[.int .i64 0,.int .i64 0,.int .i64 0,.nil,.nil]]⟩)]⟩) (fun j=>j≤I.length∧∀ i,i<j→XW l (nth I i)=false) (fun j=>I.length - j) 0 ⟨Nat.zero_le _,fun i hi=>absurd hi (Nat.not_lt_zero _)⟩ ?_ ?_
 ·exact (FLe.cv [⟨102,some 2,0+1,⟨0,.own,36,5,[[.int .i64 0,.int .i64 0,.int .i64 0,.nil,.nil]]⟩⟩] (by repeat (first|exact .nil|refine .old rfl (by decide) rfl ?_)) (by repeat (first|exact .nil|refine .cons (.plain rfl rfl rfl) ?_|refine .cons (.ptr rfl (.head _) rfl) ?_)))
 rintro j ⟨hj,hpre⟩
 (repeat (first|refine FW.seq ?_|refine FW.region ?_|refine zc.nil ?_|refine zX rfl rfl rfl rfl ?_))
 refine FW.cond rfl (fun h=>?_) (fun h=>?_)
 ·have hjl:j<I.length:=by simpa using h
  clear h
  have hyes:=hyes j hjl hpre
  have hnext:XW l (nth I j)=false→∀ i,i<j+1→XW l (nth I i)=false:=fun h i hi=>by
   rcases Nat.lt_succ_iff_lt_or_eq.1 hi with h'|rfl
   ·exact hpre i h'
   ·exact h
  have hii:=hIm j hjl
  obtain ⟨i,hi⟩:∃ i,nth I j=i:=⟨_,rfl⟩
  rw [hi] at hii hyes hnext
  have hfr:=hfr i hii
  have htb:XW l i=(decide ((nth l i).k=0) && decide ((nth l i).res≠0) && (xh l i).isNone):=rfl
  unfold zgf at hfr
  obtain ⟨o,ho⟩:∃ o,nth l i=o:=⟨_,rfl⟩
  rw [ho] at htb hyes
  generalize xh l i=C at hfr htb
  (repeat (first|refine FW.seq ?_|refine FW.region ?_|refine FW.block ?_|refine FW.skip ?_|refine zc.nil ?_|refine zD rfl rfl rfl rfl rfl rfl rfl ?_|refine zb rfl rfl rfl ?_|refine za rfl rfl rfl ?_|refine yP rfl rfl rfl ?_|refine zQ rfl rfl rfl rfl rfl rfl rfl ?_|refine zj rfl rfl rfl (by first|(simp;omega)|(simp;done)) (by first|exact zf (by omega)|rfl) rfl rfl rfl rfl ?_|refine yO rfl rfl rfl (by decide) (by first|(simp;omega)|(simp;done)) (by first|exact zf (by omega)|rfl) rfl rfl rfl ?_|refine zn rfl rfl rfl rfl rfl rfl (by first|(simp;omega)|(simp;done)) rfl rfl ?_|refine zm rfl rfl rfl rfl rfl rfl rfl rfl rfl ?_))
  rw [hi]
  skip
  rw [ho]
  skip
  refine yu hfr (by repeat (first|exact zG.nil|refine zG.cons (by exact Zq.plain rfl rfl) ?_)) rfl rfl ?_
  (repeat (first|refine FW.seq ?_|refine FW.region ?_|refine zc.nil ?_|refine zb rfl rfl rfl ?_|refine za rfl rfl rfl ?_|refine zi rfl rfl rfl rfl rfl rfl (by decide) rfl rfl ?_|refine zq rfl rfl rfl rfl rfl (by simp;done) rfl rfl rfl rfl rfl ?_|refine zw rfl rfl rfl rfl rfl ?_|refine yG rfl rfl rfl rfl ?_))
  refine yc (fun h1=>?_) (fun h1=>?_)
  ·(repeat (first|refine za rfl rfl rfl ?_|refine zJ rfl rfl rfl rfl ?_|refine zi rfl rfl rfl rfl rfl rfl (by decide) rfl ⟨_,_,rfl,rfl,rfl⟩ ?_|refine zq rfl rfl rfl rfl rfl (by simp;done) rfl rfl rfl rfl ⟨_,_,rfl,rfl,rfl⟩ ?_|refine xt rfl rfl rfl ⟨_,_,rfl,rfl,rfl⟩ ?_))
   refine yc (fun h2=>?_) (fun h2=>?_)
   ·(repeat (first|refine zc.nil ?_|refine zJ rfl rfl rfl rfl ?_|refine za rfl rfl ⟨_,_,rfl,rfl,rfl⟩ ?_|refine Xn rfl rfl ⟨_,_,rfl,rfl,rfl⟩ ?_))
    refine FW.cond rfl (fun h3=>?_) (fun h3=>?_)
    ·have hCn:C.isNone=true:=by cases C with|none=>rfl|some w=>cases h3
     rw [hyes (by rw [htb,h1,h2,hCn];rfl)]
     (repeat (first|refine FW.seq ?_|refine FW.region ?_|refine za rfl rfl rfl ?_|refine zi rfl rfl rfl rfl rfl rfl (by decide) rfl rfl ?_|refine zq rfl rfl rfl rfl rfl (by simp;done) rfl rfl rfl rfl rfl ?_|refine xq rfl rfl rfl rfl rfl rfl rfl rfl ?_))
     refine zc.le ?_ (FLe.share 46 rfl rfl rfl)
     (repeat (first|refine zc.nil ?_|refine zb rfl rfl rfl ?_|refine zm rfl rfl rfl rfl rfl rfl rfl rfl rfl ?_|refine zT rfl rfl rfl rfl ?_|refine zV.nil ?_|refine zV.one rfl rfl rfl rfl rfl ?_|refine zV.agg rfl rfl rfl rfl (List.cons_ne_nil _ _) rfl ?_))
     exact FW.ret ⟨.inl rfl,.sh (.cons (ye rfl rfl rfl rfl rfl rfl (by decide)) (.cons (.tmp 3 rfl rfl) .nil)) rfl rfl⟩
    ·have hCn:C.isNone=false:=by cases C with|none=>cases h3|some w=>rfl
     (repeat (first|refine FW.region ?_|refine FW.skip ?_|refine zc.nil ?_|refine za rfl rfl rfl ?_|refine zu rfl rfl (by omega) rfl rfl ?_))
     refine ⟨j+1,⟨by omega,hnext ?_⟩,by omega,(FLe.cv [⟨102,some 102,0,⟨0,.own,36,5,[[.int .i64 0,.int .i64 0,.int .i64 0,.nil,.nil]]⟩⟩] (by repeat (first|exact .nil|refine .old rfl (by decide) rfl ?_)) (by repeat (first|exact .nil|refine .cons (.plain rfl rfl rfl) ?_|refine .cons (.ptr rfl (.head _) rfl) ?_)))⟩
     rw [htb,hCn,Bool.and_false]
   ·(repeat (first|refine FW.region ?_|refine FW.skip ?_|refine FW.condF rfl ?_|refine zc.nil ?_|refine za rfl rfl rfl ?_|refine zK rfl rfl rfl rfl ?_|refine zu rfl rfl (by omega) rfl rfl ?_|refine yd rfl rfl ⟨_,_,rfl,rfl,rfl⟩ ?_))
    refine ⟨j+1,⟨by omega,hnext ?_⟩,by omega,(FLe.cv [⟨102,some 102,0,⟨0,.own,36,5,[[.int .i64 0,.int .i64 0,.int .i64 0,.nil,.nil]]⟩⟩] (by repeat (first|exact .nil|refine .old rfl (by decide) rfl ?_)) (by repeat (first|exact .nil|refine .cons (.plain rfl rfl rfl) ?_|refine .cons (.ptr rfl (.head _) rfl) ?_)))⟩
    rw [htb,h2,Bool.and_false,Bool.false_and]
  ·(repeat (first|refine FW.region ?_|refine FW.skip ?_|refine FW.condF rfl ?_|refine zc.nil ?_|refine za rfl rfl rfl ?_|refine zK rfl rfl rfl rfl ?_|refine zu rfl rfl (by omega) rfl rfl ?_|refine yd rfl rfl ⟨_,_,rfl,rfl,rfl⟩ ?_))
   refine ⟨j+1,⟨by omega,hnext ?_⟩,by omega,(FLe.cv [⟨102,some 102,0,⟨0,.own,36,5,[[.int .i64 0,.int .i64 0,.int .i64 0,.nil,.nil]]⟩⟩] (by repeat (first|exact .nil|refine .old rfl (by decide) rfl ?_)) (by repeat (first|exact .nil|refine .cons (.plain rfl rfl rfl) ?_|refine .cons (.ptr rfl (.head _) rfl) ?_)))⟩
   rw [htb,h1,Bool.false_and,Bool.false_and]
 ·have hje:j=I.length:=by simp at h;omega
  subst hje
  rw [hno hpre]
  (repeat (first|refine FW.seq ?_|refine FW.region ?_|refine FW.exit ?_|refine zc.nil ?_|refine zb rfl rfl rfl ?_|refine zm rfl rfl rfl rfl rfl rfl rfl rfl rfl ?_|refine zT rfl rfl rfl rfl ?_|refine zV.nil ?_))
  exact FW.ret ⟨.inl rfl,.sh (.cons (ye rfl rfl rfl rfl rfl rfl (by decide)) (.cons (.tmp 3 rfl rfl) .nil)) rfl rfl⟩
end Go.Proofs.Ytmnmakhpjgjdaaa
