/-
  Some texts as one: FmRef03, TopoRef, FmWalks, CycRef, FmLives03, EdgeCongr, FmCau9.
-/
import Derived.Test.YtmnmakhpjgjdaaaZR
import Derived.Test.YtmnmakhpjgjdaaaZK
import Derived.Test.YtmnmakhpjgjdaaaZL
import Derived.Test.YtmnmakhpjgjdaaaZFmCyc2
import Derived.Test.YtmnmakhpjgjdaaaZFmCau6
/-
 The graphs of layer 3 and what its reference asks of them.
-/
namespace Go.Proofs.Ytmnmakhpjgjdaaa
set_option linter.unusedVariables false
open Go.RowKit

def zai (E:List (Nat×Nat)) (a b:Int):Bool:=E.any fun e=>decide ((e.1:Int)=a) && decide ((e.2:Int)=b)
def zmv (e:Nat×Nat):Nat×Nat:=(min e.1 e.2,max e.1 e.2)
def zkP (E:List (Nat×Nat)):Nat→List (Nat×Nat)
 | 0 => E
 | k+1 => if k % 7=6 then zkP E k else (zkP E k).set k (zmv (nth (zkP E k) k))
def zbQ (E:List (Nat×Nat)) (v:Int) (out:List Int):Bool:=E.all fun e=>!decide ((e.2:Int)=v) || zlF out e.1
def zkT (p:Nat→Bool) (n:Nat):Nat→Int
 | 0 => -1
 | k+1 => if p (n - (k+1))=true then ((n - (k+1):Nat):Int) else zkT p n k
def zcx (E:List (Nat×Nat)) (out:List Int) (v:Nat):Bool:=!zlF out v && zbQ E v out
def rtK (E:List (Nat×Nat)) (n:Nat):Nat→List Int→Option (List Int)
 | 0, out => some out
 | k+1, out => if zkT (zcx E out) n n<0 then none else rtK E n k (out ++ [zkT (zcx E out) n n])
end Go.Proofs.Ytmnmakhpjgjdaaa
/-
 graph.Topo and the reference take the same vertices in the same order.
-/
namespace Go.Proofs.Ytmnmakhpjgjdaaa
set_option linter.unusedVariables false

theorem zdL (p:Nat→Bool) (n:Nat):∀ k,k≤n→(zkT p n k = -1∧∀ v,n - k≤v→v<n→p v=false)∨∃ v,zkT p n k=(v:Nat)∧n - k≤v∧v<n∧p v=true∧∀ u,n - k≤u→u<v→p u=false
 | 0, _ => .inl ⟨rfl, fun v h1 h2 => by omega⟩
 | k+1,hk=>by
  have ih:=zdL p n k (by omega)
  unfold zkT
  by_cases hp:p (n - (k+1))=true
  ·rw [if_pos hp]
   exact .inr ⟨_,rfl,Nat.le_refl _,by omega,hp,fun u h1 h2=>by omega⟩
  ·rw [if_neg hp]
   have hp' : p (n - (k+1))=false:=by simpa using hp
   rcases ih with ⟨e,h⟩|⟨v,e,h1,h2,h3,h4⟩
   ·refine .inl ⟨e,fun v q1 q2=>?_⟩
    by_cases hv:v=n - (k+1)
    ·subst hv;exact hp'
    ·exact h v (by omega) q2
   ·refine .inr ⟨v,e,by omega,h2,h3,fun u q1 q2=>?_⟩
    by_cases hv:u=n - (k+1)
    ·subst hv;exact hp'
    ·exact h4 u (by omega) q2
theorem ziR {n:Nat} {E:List (Nat×Nat)} (h:InN n E) (out:List Int) (v:Nat):zbQ E v out=true↔zei n E out v=0:=by
 unfold zbQ zei
 rw [List.all_eq_true,List.countP_eq_zero]
 constructor
 ·intro hr u hu hc
  simp only [Bool.and_eq_true,decide_eq_true_eq] at hc
  obtain ⟨e,he,h1,h2⟩:=yO.1 hc.2
  have:=hr e he
  subst h1
  have h3:((e.2:Nat):Int)=(v:Int):=h2
  rw [h3] at this
  unfold zlF at this
  simp at this
  exact hc.1 this
 ·intro hc e he
  have hin:=h e he
  by_cases hv:((e.2:Nat):Int)=v
  ·have:=hc e.1 (List.mem_range.2 hin.1)
   simp only [Bool.and_eq_true,decide_eq_true_eq,not_and] at this
   unfold zlF
   by_cases hm:((e.1:Nat):Int)∈out
   ·simp [hm]
   ·exact absurd (yO.2 ⟨e,he,rfl,hv⟩) (this hm)
  ·simp [hv]
theorem TI.next {n:Nat} {E:List (Nat×Nat)} (hE:InN n E) {s:zcU} (h:TI n E s) (v:Nat) (hv:v<n):zcx E s.out v=true↔(v:Int)∈s.h:=by
 rw [h.hM,Int.toNat_natCast,h.cnt v hv]
 unfold zcx zlF
 rw [Bool.and_eq_true,ziR hE]
 constructor
 ·rintro ⟨h1,h2⟩
  exact ⟨by omega,by simpa using h1,by omega⟩
 ·rintro ⟨_,h1,h2⟩
  exact ⟨by simpa using h1,by omega⟩
theorem zfT {n:Nat} {E:List (Nat×Nat)} (hE:InN n E):∀ (k f:Nat) (s:zcU),TI n E s→s.out.length+k=n→n<s.out.length+f→rtK E n k s.out=if (yb E f s).out.length<n then none else some (yb E f s).out
 | k, 0, s, h, _, hf => by have := h.le; omega
 | k, f+1,s,h,hk,hf=>by
  have hl:=zdL (zcx E s.out) n n (Nat.le_refl _)
  by_cases h0:s.h=[]
  ·rw [Vi E (f+1) s h0]
   cases k with
   | zero =>
    rw [if_neg (by omega)];rfl
   | succ k=>
    rw [if_pos (by omega)]
    unfold rtK
    rcases hl with ⟨e,_⟩|⟨v,e,_,h2,h3,_⟩
    ·rw [if_pos (by omega)]
    ·have:=(h.next hE v h2).1 h3
     rw [h0] at this;cases this
  ·obtain ⟨q,hq⟩:∃ q,s.h.length=q+1:=⟨s.h.length - 1,by have:=List.length_pos_iff.2 h0;omega⟩
   obtain ⟨v,hv,hvn,hvo,hm0,hmin,hD,hN,hR⟩:=h.first hq
   have hvh:(v:Int)∈s.h:=by
    rw [h.hM];exact ⟨by omega,hvo,by rw [Int.toNat_natCast];exact hm0⟩
   have hso:(yT E s).out=s.out++[(v:Int)]:=by
    unfold yT
    dsimp only
    rw [show s.h.length - 1=q by omega,hv]
   have e1:yb E (f+1) s=yb E f (yT E s):=if_neg h0
   cases k with
   | zero =>
    have:=Yr hN hR
    simp at this
    omega
   | succ k=>
    have hlv:zkT (zcx E s.out) n n=v:=by
     rcases hl with ⟨_,hno⟩|⟨u,e,_,h2,h3,h4⟩
     ·have:=hno v (by omega) hvn
      rw [(h.next hE v hvn).2 hvh] at this;cases this
     ·have hu:=(h.next hE u h2).1 h3
      have hle:=hmin _ hu
      rcases Nat.lt_or_ge v u with hlt|hge
      ·have:=h4 v (by omega) hlt
       rw [(h.next hE v hvn).2 hvh] at this;cases this
      ·rw [e];omega
    unfold rtK
    rw [hlv,if_neg (by omega),← hso,e1]
    exact zfT hE k f (yT E s) (h.step hE h0) (by rw [Xz];omega) (by rw [Xz];omega)
theorem zld {n:Nat} {E:List (Nat×Nat)} (hE:InN n E):rtK E n n []=if (xc n E).length<n then none else some (xc n E):=
 zfT hE n (n+1) (yu n E) (TI.start hE) (Nat.zero_add n) (by show n<0+(n+1);omega)
end Go.Proofs.Ytmnmakhpjgjdaaa
/-
 The reference's walks and its Cycle.
-/
namespace Go.Proofs.Ytmnmakhpjgjdaaa
set_option linter.unusedVariables false
open Go.RowKit

def zjU:List Int→List Int→Bool
 | x :: a, y :: b => if x=y then zjU a b else decide (x<y)
 | [], b => decide (0<b.length)
 | _ :: _, [] => false
def XB (out:List (List Int)) (tg ab k v w:Nat):List Int:=if k=1 then (if w=tg then [(v:Int)] else []) else if ab<w∧nth out w≠[] then (v:Int)::nth out w else []
def zjg (E:List (Nat×Nat)) (out:List (List Int)) (tg ab k v:Nat) (cur:List Int) (w:Nat):List Int:=
 if zai E v w=true∧XB out tg ab k v w≠[]∧(cur=[]∨zjU (XB out tg ab k v w) cur=true) then XB out tg ab k v w else cur
def zjo (E:List (Nat×Nat)) (out:List (List Int)) (tg ab k v j:Nat):List Int:=(List.range j).foldl (zjg E out tg ab k v) []
def zbI (E:List (Nat×Nat)) (out:List (List Int)) (tg ab k n i:Nat):List (List Int):=(List.range n).map fun v=>if v<i then zjo E out tg ab k v n else []
def yx (E:List (Nat×Nat)) (tg ab n:Nat):Nat→List (List Int)
 | 0 => List.replicate n []
 | k+1 => zbI E (yx E tg ab n k) tg ab (k+1) n n
theorem zgH (E:List (Nat×Nat)) (out:List (List Int)) (tg ab k n i:Nat):(zbI E out tg ab k n i).length=n:=by simp [zbI]
theorem zfc (E:List (Nat×Nat)) (tg ab n:Nat):∀ k,(yx E tg ab n k).length=n
 | 0 => by simp [yx]
 | k+1 => zgH _ _ _ _ _ _ _
theorem zhI (E:List (Nat×Nat)) (out:List (List Int)) (tg ab k v j:Nat):zjo E out tg ab k v (j+1)=zjg E out tg ab k v (zjo E out tg ab k v j) j:=by
 unfold zjo
 rw [List.range_succ,List.foldl_append];rfl
def XX (E:List (Nat×Nat)) (n len s:Nat):List Int:=nth (yx E s s n len) s
def Yc (E:List (Nat×Nat)) (n len:Nat):Nat→Nat→List Int
 | 0, _ => []
 | k+1, s => if XX E n len s=[] then Yc E n len k (s+1) else XX E n len s
def Xh (E:List (Nat×Nat)) (n:Nat):Nat→Nat→List Int
 | 0, _ => []
 | k+1, len => if Yc E n len n 0=[] then Xh E n k (len+1) else Yc E n len n 0
def xF (E:List (Nat×Nat)) (n:Nat):List Int:=Xh E n n 1
end Go.Proofs.Ytmnmakhpjgjdaaa
/-
 graph.Cycle and the reference find the same shortest cycle.
-/
namespace Go.Proofs.Ytmnmakhpjgjdaaa
set_option linter.unusedVariables false

theorem zgB {E:List (Nat×Nat)} {a b:Nat}:zai E a b=true↔(b:Int)∈zn E a:=by
 unfold zai
 rw [List.any_eq_true,yO]
 constructor
 ·rintro ⟨e,he,h⟩
  simp only [Bool.and_eq_true,decide_eq_true_eq] at h
  exact ⟨e,he,by omega,h.2⟩
 ·rintro ⟨e,he,h1,h2⟩
  exact ⟨e,he,by simp only [Bool.and_eq_true,decide_eq_true_eq];omega⟩
def Wx (n:Nat) (E:List (Nat×Nat)) (s:Nat):Nat→Nat→Prop
 | 0, _ => False
 | 1, v => (s:Int) ∈ zn E v
 | k+2, v => ∃ w:Nat, w<n ∧ (w:Int) ∈ zn E v ∧ s<w ∧ Wx n E s (k+1) w
def zkn (E:List (Nat×Nat)) (O:List (List Int)) (tg ab k v w:Nat):Prop:=zai E v w=true∧XB O tg ab k v w≠[]
theorem XG {E:List (Nat×Nat)} {O:List (List Int)} {s k v:Nat} (hh:∀ w,nth O w≠[]→∃ r,nth O w=(w:Int)::r):∀ j,(zjo E O s s k v j=[]∧∀ w,w<j→¬ zkn E O s s k v w)∨∃ w,w<j∧zkn E O s s k v w∧(∀ u,u<w→¬ zkn E O s s k v u)∧zjo E O s s k v j=XB O s s k v w
 | 0 => .inl ⟨rfl, fun w hw => by omega⟩
 | j + 1=>by
  rw [zhI]
  rcases XG (E:=E) (O:=O) (s:=s) (k:=k) (v:=v) hh j with ⟨e,h⟩|⟨w,h1,h2,h3,e⟩
  ·rw [e]
   unfold zjg
   by_cases hc:zkn E O s s k v j
   ·rw [if_pos ⟨hc.1,hc.2,.inl rfl⟩]
    exact .inr ⟨j,Nat.lt_succ_self _,hc,fun u hu=>h u hu,rfl⟩
   ·rw [if_neg (fun q=>hc ⟨q.1,q.2.1⟩)]
    refine .inl ⟨rfl,fun w hw=>?_⟩
    by_cases hwj:w=j
    ·subst hwj;exact hc
    ·exact h w (by omega)
  ·rw [e]
   refine .inr ⟨w,by omega,h2,h3,?_⟩
   unfold zjg
   refine if_neg fun q=>?_
   obtain ⟨q1,q2,q3⟩:=q
   rcases q3 with q3|q3
   ·exact h2.2 q3
   ·have hw2:=h2.2
    unfold XB at q2 q3 hw2
    by_cases hk:k=1
    ·rw [if_pos hk] at q2 hw2
     rw [if_pos hk,if_pos hk] at q3
     by_cases e1:j=s
     ·by_cases e2:w=s
      ·omega
      ·rw [if_neg e2] at hw2;exact hw2 rfl
     ·rw [if_neg e1] at q2;exact q2 rfl
    ·rw [if_neg hk] at q2 hw2
     rw [if_neg hk,if_neg hk] at q3
     by_cases e1:s<j∧nth O j≠[]
     ·by_cases e2:s<w∧nth O w≠[]
      ·rw [if_pos e1,if_pos e2] at q3
       obtain ⟨r1,f1⟩:=hh j e1.2
       obtain ⟨r2,f2⟩:=hh w e2.2
       rw [f1,f2] at q3
       unfold zjU at q3
       rw [if_pos rfl] at q3
       unfold zjU at q3
       rw [if_neg (by omega)] at q3
       simp at q3
       omega
      ·rw [if_neg e2] at hw2;exact hw2 rfl
     ·rw [if_neg e1] at q2;exact q2 rfl
theorem zaY {E:List (Nat×Nat)} {s n k v:Nat} (hv:v<n):nth (yx E s s n (k+1)) v=zjo E (yx E s s n k) s s (k+1) v n:=by
 have e:yx E s s n (k+1)=(List.range n).map fun v=>if v<n then zjo E (yx E s s n k) s s (k+1) v n else []:=rfl
 rw [e,nth_eq (by simpa using hv)]
 simp [hv]
theorem VJ {E:List (Nat×Nat)} {s n:Nat}:∀ (k w:Nat),nth (yx E s s n k) w≠[]→w<n∧∃ r,nth (yx E s s n k) w=(w:Int)::r
 | 0, w, h => by
  refine absurd ?_ h
  rcases Nat.lt_or_ge w n with hw|hw
  ·rw [nth_eq (by simpa [yx] using hw)];simp [yx]
  ·unfold nth;rw [List.getD_eq_getElem?_getD,List.getElem?_eq_none (by simpa [yx] using hw)];rfl
 | k + 1,w,h=>by
  have hw:w<n:=by
   rcases Nat.lt_or_ge w n with hw|hw
   ·exact hw
   ·refine absurd ?_ h
    unfold nth;rw [List.getD_eq_getElem?_getD,List.getElem?_eq_none (by rw [zfc];exact hw)];rfl
  refine ⟨hw,?_⟩
  rw [zaY hw] at h ⊢
  rcases XG (E:=E) (s:=s) (k:=k+1) (v:=w) (fun u hu=>(VJ k u hu).2) n with ⟨e,_⟩|⟨u,_,hc,_,e⟩
  ·exact absurd e h
  ·rw [e]
   have h2:=hc.2
   unfold XB at h2 ⊢
   split at h2
   ·split at h2
    ·rename_i h3 h4
     rw [if_pos h3,if_pos h4];exact ⟨_,rfl⟩
    ·exact absurd rfl h2
   ·split at h2
    ·rename_i h3 h4
     rw [if_neg h3,if_pos h4];exact ⟨_,rfl⟩
    ·exact absurd rfl h2
theorem XD {E:List (Nat×Nat)} {s n k v w:Nat}:zkn E (yx E s s n k) s s (k+1) v w↔(w:Int)∈zn E v∧if k=0 then w=s else s<w∧nth (yx E s s n k) w≠[]:=by
 unfold zkn
 rw [zgB]
 refine and_congr Iff.rfl ?_
 unfold XB
 by_cases hk:k=0
 ·subst hk
  rw [if_pos rfl,if_pos rfl]
  by_cases e:w=s
  ·rw [if_pos e];simp [e]
  ·rw [if_neg e];simp [e]
 ·rw [if_neg (by omega),if_neg hk]
  by_cases e:s<w∧nth (yx E s s n k) w≠[]
  ·rw [if_pos e];simp [e.1,e.2]
  ·rw [if_neg e]
   constructor
   ·intro q;exact absurd rfl q
   ·intro q;exact absurd q e
theorem ZU {n:Nat} {E:List (Nat×Nat)} (h:InN n E) {s:Nat} (hs:s<n):∀ (k v:Nat),v<n→(nth (yx E s s n (k+1)) v≠[]↔Wx n E s (k+1) v)
 | k,v,hv=>by
  rw [zaY hv]
  have hex:zjo E (yx E s s n k) s s (k+1) v n≠[]↔∃ w,w<n∧zkn E (yx E s s n k) s s (k+1) v w:=by
   rcases XG (E:=E) (s:=s) (k:=k+1) (v:=v) (fun u hu=>(VJ k u hu).2) n with ⟨e,hno⟩|⟨u,h1,hc,_,e⟩
   ·constructor
    ·intro q;exact absurd e q
    ·rintro ⟨w,h1,h2⟩;exact absurd h2 (hno w h1)
   ·constructor
    ·intro _;exact ⟨u,h1,hc⟩
    ·intro _;rw [e];exact hc.2
  rw [hex]
  cases k with
  | zero=>
   constructor
   ·rintro ⟨w,_,hc⟩
    obtain ⟨c1,c2⟩:=XD.1 hc
    rw [if_pos rfl] at c2
    subst c2;exact c1
   ·intro hm
    exact ⟨s,hs,XD.2 ⟨hm,by rw [if_pos rfl]⟩⟩
  | succ k=>
   constructor
   ·rintro ⟨w,hw,hc⟩
    obtain ⟨c1,c2⟩:=XD.1 hc
    rw [if_neg (by omega)] at c2
    exact ⟨w,hw,c1,c2.1,(ZU h hs k w hw).1 c2.2⟩
   ·rintro ⟨w,hw,hm,hsw,hx⟩
    exact ⟨w,hw,XD.2 ⟨hm,by rw [if_neg (by omega)];exact ⟨hsw,(ZU h hs k w hw).2 hx⟩⟩⟩
section
variable {n:Nat} {E:List (Nat×Nat)} (h:InN n E) {s:Nat} (hs:s<n)
include h hs
theorem Wx.dist:∀ (k w:Nat),w<n→s<w→Wx n E s (k+1) w→0≤nth (zP n E s) w∧nth (zP n E s) w≤(k+1:Nat)
 | 0, w, hw, hsw, hx => by
  have h0:=zfn h hs
  have:=Vo h hs hs hw (show (s:Int)∈zn E w from hx) hsw (by omega)
  omega
 | k+1, w, hw, hsw, hx => by
  obtain ⟨u,hu,hm,hsu,hxu⟩:=hx
  have h1:=Wx.dist k u hu hsu hxu
  have:=Vo h hs hu hw hm hsw h1.1
  omega
theorem zcf:∀ (k w:Nat),w<n→nth (zP n E s) w=(k+1:Nat)→s<w∧Wx n E s (k+1) w
 | 0, w, hw, hd => by
  refine ⟨WG h hs hw (by omega),?_⟩
  obtain ⟨u,hu,hm,hdu⟩:=UH h hs hw (by omega)
  have:u=s:=zbp h hs hu (by omega)
  subst this;exact hm
 | k+1, w, hw, hd => by
  refine ⟨WG h hs hw (by omega),?_⟩
  obtain ⟨u,hu,hm,hdu⟩:=UH h hs hw (by omega)
  obtain ⟨h1,h2⟩:=zcf k u hu (by omega)
  exact ⟨u,hu,hm,h1,h2⟩
end
theorem zaS (d:List Int) (st:Int):∀ (row:List Int) (len:Int),0≤len→(0<len→row.foldl (yl d st) len≤len∧0<row.foldl (yl d st) len)∧∀ w∈row,st≤w→0≤nth d w.toNat→0<row.foldl (yl d st) len∧row.foldl (yl d st) len≤nth d w.toNat+1
 | [], len, _ => ⟨fun h => ⟨Int.le_refl _, h⟩, fun w hw => by cases hw⟩
 | x::row,len,h0=>by
  rw [List.foldl_cons]
  have hs:0≤yl d st len x∧(0<len→yl d st len x≤len∧0<yl d st len x)∧(st≤x→0≤nth d x.toNat→0<yl d st len x∧yl d st len x≤nth d x.toNat+1):=by
   unfold yl
   split <;> rename_i hc
   ·refine ⟨by omega,fun _=>?_,fun _ _=>by omega⟩
    rcases hc.2 with h|h <;> omega
   ·refine ⟨h0,fun _=>by omega,fun h1 h2=>?_⟩
    have:¬ (len=0∨nth d x.toNat+1<len):=fun q=>hc ⟨⟨h1,h2⟩,q⟩
    omega
  obtain ⟨i1,i2⟩:=zaS d st row (yl d st len x) hs.1
  refine ⟨fun h=>?_,fun w hw h1 h2=>?_⟩
  ·have:=hs.2.1 h
   have:=i1 this.2
   omega
  ·rcases List.mem_cons.1 hw with rfl|hw
   ·have h3:=hs.2.2 h1 h2
    have:=i1 h3.1
    omega
   ·exact i2 w hw h1 h2
theorem Wp {d:List Int} {st:Int} {row:List Int} {w:Int} (hw:w∈row) (h1:st≤w) (h2:0≤nth d w.toNat):0<xb d st row∧xb d st row≤nth d w.toNat+1:=(zaS d st row 0 (Int.le_refl _)).2 w hw h1 h2
theorem VS (p:Int→Bool) (r:List Int):∀ (k i j:Nat),YY p r k i=(j:Int)→∀ q,i≤q→q<j→p (nth r q)=false
 | 0, i, j, h, q, _, _ => by
  have:(-1:Int)=j:=h
  omega
 | k+1,i,j,h,q,h1,h2=>by
  unfold YY at h
  by_cases hp:p (nth r i)=true
  ·rw [if_pos hp] at h;omega
  ·rw [if_neg hp] at h
   by_cases e:q=i
   ·subst e;simpa using hp
   ·exact VS p r k (i+1) j h q (by omega) h2
section
variable {n:Nat} {E:List (Nat×Nat)} (h:InN n E) {s:Nat} (hs:s<n)
include h hs
theorem zbG {L:Nat} (hx:Wx n E s (L+1) s):0<xb (zP n E s) s (zn E s)∧xb (zP n E s) s (zn E s)≤(L+1:Nat):=by
 cases L with
 | zero =>
  have h0:=zfn h hs
  have:=Wp (d:=zP n E s) (st:=s) (show (s:Int)∈zn E s from hx) (Int.le_refl _) (by rw [Int.toNat_natCast];omega)
  rw [Int.toNat_natCast] at this
  omega
 | succ L =>
  obtain ⟨w,hw,hm,hsw,hxw⟩:=hx
  have hd:=Wx.dist h hs L w hw hsw hxw
  have:=Wp (d:=zP n E s) (st:=s) hm (by omega) (by rw [Int.toNat_natCast];omega)
  rw [Int.toNat_natCast] at this
  omega
theorem zb3 {L:Nat} (hL:xb (zP n E s) s (zn E s)=(L+1:Nat)):Wx n E s (L+1) s:=by
 rcases Vx (zP n E s) s (zn E s) with e|⟨w,hw,h1,h2,h3⟩
 ·omega
 ·have hin:=yw h hw
  obtain ⟨w,rfl⟩:∃ w' : Nat,w=w':=⟨w.toNat,by omega⟩
  rw [Int.toNat_natCast] at h2 h3
  cases L with
  | zero =>
   have:w=s:=zbp h hs (by omega) (by omega)
   subst this;exact hw
  | succ L =>
   obtain ⟨k1,k2⟩:=zcf h hs L w (by omega) (by omega)
   exact ⟨w,by omega,hw,k1,k2⟩
theorem zfW:∀ (k v:Nat),v<n→Wx n E s (k+1) v→(∀ w:Nat,(w:Int)∈zn E v→s<w→0≤nth (zP n E s) w→(k:Int)≤nth (zP n E s) w)→nth (yx E s s n (k+1)) v=(v:Int)::ZZ E (zP n E s) s k v
 | k, v, hv,hx,hmin=>by
  have hne:=(ZU h hs k v hv).2 hx
  rw [zaY hv] at hne ⊢
  rcases XG (E:=E) (s:=s) (k:=k+1) (v:=v) (fun u hu=>(VJ k u hu).2) n with ⟨e,_⟩|⟨u,hu,hc,hfirst,e⟩
  ·exact absurd e hne
  ·rw [e]
   obtain ⟨c1,c2⟩:=XD.1 hc
   cases k with
   | zero =>
    rw [if_pos rfl] at c2
    unfold XB
    rw [if_pos rfl,if_pos c2];rfl
   | succ k=>
    rw [if_neg (by omega)] at c2
    have hxu:=(ZU h hs k u hu).1 c2.2
    have hdu:=Wx.dist h hs k u hu c2.1 hxu
    have hmu:=hmin u c1 c2.1 hdu.1
    have hdu' : nth (zP n E s) u=(k+1:Nat):=by omega
    have hon:Wr (zP n E s) s (k+1:Nat) u=true:=by
     unfold Wr
     rw [decide_eq_true_eq,Int.toNat_natCast]
     exact ⟨by omega,hdu'⟩
    obtain ⟨j,hj,hfx,hpj⟩:=Wl c1 hon
    have hin:=yw h (zx hj)
    obtain ⟨x,hxn⟩:∃ x:Nat,nth (zn E v) j=x:=⟨(nth (zn E v) j).toNat,by omega⟩
    have hux:u=x:=by
     rw [hxn] at hpj hin
     unfold Wr at hpj
     rw [decide_eq_true_eq,Int.toNat_natCast] at hpj
     have hxm:(x:Int)∈zn E v:=by rw [← hxn];exact zx hj
     obtain ⟨_,hwx⟩:=zcf h hs k x (by omega) hpj.2
     have hcx:zkn E (yx E s s n (k+1)) s s (k+1+1) v x:=XD.2 ⟨hxm,by rw [if_neg (by omega)];exact ⟨by omega,(ZU h hs k x (by omega)).2 hwx⟩⟩
     rcases Nat.lt_trichotomy u x with hlt|heq|hgt
     ·-- u stands ahead of x in the row,and VT takes the first
      obtain ⟨q,hq,hqu⟩:=List.getElem_of_mem c1
      have hqj:q<j:=by
       rcases Nat.lt_or_ge q j with q1|q1
       ·exact q1
       ·have hasc:=List.pairwise_iff_getElem.1 (zeg E v)
        rcases Nat.lt_or_ge j q with q2|q2
        ·have:=hasc j q hj hq q2
         rw [← nth_eq hj,hxn,hqu] at this
         omega
        ·obtain rfl:q=j:=by omega
         rw [nth_eq hq,hqu] at hxn
         omega
      have:=VS (Wr (zP n E s) s (k+1:Nat)) (zn E v) (zn E v).length 0 j hfx q (Nat.zero_le _) hqj
      rw [nth_eq hq,hqu] at this
      rw [hon] at this;cases this
     ·exact heq
     ·exact absurd hcx (hfirst x hgt)
    have hstep:xA E (zP n E s) s (k+1:Nat) v=u:=by
     unfold xA
     rw [hfx,Int.toNat_natCast,hxn,hux,Int.toNat_natCast]
    show XB (yx E s s n (k+1)) s s (k+1+1) v u=(v:Int)::ZZ E (zP n E s) s (k+1) v
    unfold XB
    rw [if_neg (by omega),if_pos c2]
    have ih:=zfW k u hu hxu fun w hw hsw h0=>by
     have hwin:=yw h hw
     have:=Vo h hs (u:=w) (v:=u) (by omega) hu hw c2.1 h0
     omega
    rw [ih]
    show _=(v:Int)::((xA E (zP n E s) s (k+1:Nat) v:Nat):Int)::ZZ E (zP n E s) s k (xA E (zP n E s) s (k+1:Nat) v)
    rw [hstep]
end
theorem zgD (d:List Int) (st:Int) (row:List Int):0≤xb d st row:=by
 rcases Vx d st row with e|⟨w,_,_,h2,h3⟩ <;> omega
def lenOf (n:Nat) (E:List (Nat×Nat)) (s:Nat):Int:=xb (zP n E s) s (zn E s)
section
variable {n:Nat} {E:List (Nat×Nat)} (h:InN n E)
include h
theorem zct {s:Nat} (hs:s<n) (h0:lenOf n E s≠0):∃ K:Nat,lenOf n E s=(K+1:Nat)∧K<n∧XX E n (K+1) s=(s:Int)::ZZ E (zP n E s) s K s:=by
 obtain ⟨K,hK,hKn,_⟩:=YN h hs h0
 refine ⟨K,hK,hKn,zfW h hs K s hs (zb3 h hs hK) fun w hw hsw hd=>?_⟩
 have:=Wp (d:=zP n E s) (st:=s) hw (by omega) (by rw [Int.toNat_natCast];exact hd)
 rw [Int.toNat_natCast,hK] at this
 omega
theorem zcS {s L:Nat} (hs:s<n) (h0:XX E n (L+1) s≠[]):0<lenOf n E s∧lenOf n E s≤(L+1:Nat):=zbG h hs ((ZU h hs L s hs).1 h0)
theorem Um:∀ i,i≤n→(zcW n E i=[]∧∀ s,s<i→lenOf n E s=0)∨∃ s0 K,s0<i∧lenOf n E s0=((K+1:Nat):Int)∧zcW n E i=(s0:Int)::ZZ E (zP n E s0) s0 K s0∧(∀ s,s<i→lenOf n E s≠0→((K+1:Nat):Int)≤lenOf n E s)∧∀ s,s<s0→lenOf n E s≠0→((K+1:Nat):Int)<lenOf n E s
 | 0, _ => .inl ⟨rfl, fun s hs => by omega⟩
 | i + 1,hi=>by
  rw [UI]
  have hL:xb (zP n E i) i (zn E i)=lenOf n E i:=rfl
  have hnn:0≤lenOf n E i:=zgD _ _ _
  unfold Wh
  dsimp only
  rw [hL]
  rcases Um i (by omega) with ⟨e,hz⟩|⟨s0,K,h1,h2,e,h4,h5⟩
  ·rw [e]
   by_cases h0:lenOf n E i=0
   ·rw [if_pos (.inl h0)]
    refine .inl ⟨rfl,fun s hs=>?_⟩
    by_cases hsi:s=i
    ·subst hsi;exact h0
    ·exact hz s (by omega)
   ·rw [if_neg (by rintro (q|q);exact h0 q;exact q.1 rfl)]
    obtain ⟨K,hK,_,_⟩:=zct h (by omega) h0
    refine .inr ⟨i,K,Nat.lt_succ_self _,hK,by rw [hK,Int.toNat_natCast];rfl,fun s hs hne=>?_,fun s hs hne=>absurd (hz s hs) hne⟩
    by_cases hsi:s=i
    ·subst hsi;omega
    ·exact absurd (hz s (by omega)) hne
  ·have hlen:(zcW n E i).length=K+1:=by rw [e,List.length_cons,Vk]
   by_cases hc:lenOf n E i=0∨(zcW n E i≠[]∧((zcW n E i).length:Int)≤lenOf n E i)
   ·rw [if_pos hc]
    refine .inr ⟨s0,K,by omega,h2,e,fun s hs hne=>?_,h5⟩
    by_cases hsi:s=i
    ·subst hsi
     rcases hc with q|q
     ·exact absurd q hne
     ·rw [hlen] at q;exact q.2
    ·exact h4 s (by omega) hne
   ·rw [if_neg hc]
    have h0:lenOf n E i≠0:=fun q=>hc (.inl q)
    have hlt:lenOf n E i<((K+1:Nat):Int):=by
     have:¬ ((zcW n E i).length:Int)≤lenOf n E i:=fun q=>hc (.inr ⟨by rw [e];exact List.cons_ne_nil _ _,q⟩)
     rw [hlen] at this;omega
    obtain ⟨K',hK,_,_⟩:=zct h (by omega) h0
    refine .inr ⟨i,K',Nat.lt_succ_self _,hK,by rw [hK,Int.toNat_natCast];rfl,fun s hs hne=>?_,fun s hs hne=>?_⟩
    ·by_cases hsi:s=i
     ·subst hsi;omega
     ·have:=h4 s (by omega) hne;omega
    ·have:=h4 s hs hne;omega
end
theorem XH {E:List (Nat×Nat)} {n len:Nat}:∀ (k s:Nat),(∀ u,s≤u→u<s+k→XX E n len u=[])→Yc E n len k s=[]
 | 0, _, _ => rfl
 | k+1, s, h => by
  unfold Yc
  rw [if_pos (h s (Nat.le_refl _) (by omega))]
  exact XH k (s+1) fun u h1 h2=>h u (by omega) (by omega)
theorem VO {E:List (Nat×Nat)} {n len s0:Nat} (h0:XX E n len s0≠[]):∀ (k s:Nat),s≤s0→s0<s+k→(∀ u,s≤u→u<s0→XX E n len u=[])→Yc E n len k s=XX E n len s0
 | 0, s, h1, h2, _ => by omega
 | k+1,s,h1,h2,h=>by
  unfold Yc
  by_cases e:s=s0
  ·subst e;rw [if_neg h0]
  ·rw [if_pos (h s (Nat.le_refl _) (by omega))]
   exact VO h0 k (s+1) (by omega) (by omega) fun u q1 q2=>h u (by omega) q2
theorem Wg {E:List (Nat×Nat)} {n:Nat}:∀ (k len:Nat),(∀ l,len≤l→l<len+k→Yc E n l n 0=[])→Xh E n k len=[]
 | 0, _, _ => rfl
 | k+1, len, h => by
  unfold Xh
  rw [if_pos (h len (Nat.le_refl _) (by omega))]
  exact Wg k (len+1) fun u h1 h2=>h u (by omega) (by omega)
theorem WI {E:List (Nat×Nat)} {n l0:Nat} (h0:Yc E n l0 n 0≠[]):∀ (k len:Nat),len≤l0→l0<len+k→(∀ l,len≤l→l<l0→Yc E n l n 0=[])→Xh E n k len=Yc E n l0 n 0
 | 0, len, h1, h2, _ => by omega
 | k+1,len,h1,h2,h=>by
  unfold Xh
  by_cases e:len=l0
  ·subst e;rw [if_neg h0]
  ·rw [if_pos (h len (Nat.le_refl _) (by omega))]
   exact WI h0 k (len+1) (by omega) (by omega) fun u q1 q2=>h u (by omega) q2
theorem Un {n:Nat} {E:List (Nat×Nat)} (h:InN n E):zdl n E=xF E n:=by
 rcases Um h n (Nat.le_refl _) with ⟨e,hz⟩|⟨s0,K,h1,h2,e,h4,h5⟩
 ·show zcW n E n=_
  rw [e]
  refine (Wg n 1 fun l hl1 hl2=>XH n 0 fun u _ hu=>?_).symm
  obtain ⟨l,rfl⟩:∃ l',l=l'+1:=⟨l - 1,by omega⟩
  by_cases hc:XX E n (l+1) u=[]
  ·exact hc
  ·have:=zcS h (by omega) hc
   have:=hz u (by omega)
   omega
 ·show zcW n E n=_
  rw [e]
  obtain ⟨K',hK',hKn,hw⟩:=zct h h1 (by omega)
  obtain rfl:K'=K:=by omega
  have hne:XX E n (K'+1) s0≠[]:=by rw [hw];exact List.cons_ne_nil _ _
  have hrow:Yc E n (K'+1) n 0=XX E n (K'+1) s0:=VO hne n 0 (Nat.zero_le _) (by omega) fun u _ hu=>by
   by_cases hc:XX E n (K'+1) u=[]
   ·exact hc
   ·have q:=zcS h (by omega) hc
    have:=h5 u hu (by omega)
    omega
  unfold xF
  rw [WI (l0:=K'+1) (by rw [hrow];exact hne) n 1 (by omega) (by omega) fun l hl1 hl2=>XH n 0 fun u _ hu=>?_,hrow,hw]
  obtain ⟨l,rfl⟩:∃ l',l=l'+1:=⟨l - 1,by omega⟩
  by_cases hc:XX E n (l+1) u=[]
  ·exact hc
  ·have q:=zcS h (by omega) hc
   have:=h4 u (by omega) (by omega)
   omega
end Go.Proofs.Ytmnmakhpjgjdaaa
/-
 The examples of layer 3;graph.Topo and graph.Cycle as the reference has them.
-/
namespace Go.Proofs.Ytmnmakhpjgjdaaa
set_option linter.unusedVariables false
open Go.RowKit

theorem zez (n:Nat) (E:List (Nat×Nat)) (hn:n≤14) (hE:E.length≤1000) (hin:InN n E):yn Try.prog 56 [.int .i64 n,.list 2 (E.map edf)] .sh (.list 1 ((xF E n).map zA)):=by
 rw [← Un hin];exact zgc n E hn hE hin
end Go.Proofs.Ytmnmakhpjgjdaaa
/-
 The reference's answers about a graph depend on the set of its edges alone.
-/
namespace Go.Proofs.Ytmnmakhpjgjdaaa
set_option linter.unusedVariables false

section
variable {E E' : List (Nat×Nat)} (h:∀ e,e∈E↔e∈E')
include h
theorem zeU:zai E=zai E':=by
 funext a b
 unfold zai
 rw [Bool.eq_iff_iff,List.any_eq_true,List.any_eq_true]
 exact ⟨fun ⟨e,he,hp⟩=>⟨e,(h e).1 he,hp⟩,fun ⟨e,he,hp⟩=>⟨e,(h e).2 he,hp⟩⟩
theorem ze3:zbQ E=zbQ E':=by
 funext a b
 unfold zbQ
 rw [Bool.eq_iff_iff,List.all_eq_true,List.all_eq_true]
 exact ⟨fun H e he=>H e ((h e).2 he),fun H e he=>H e ((h e).1 he)⟩
theorem zaX (tg ab n:Nat):∀ k,yx E tg ab n k=yx E' tg ab n k
 | 0 => rfl
 | k+1 => by
  show zbI E _ _ _ _ _ _=zbI E' _ _ _ _ _ _
  rw [zaX tg ab n k]
  unfold zbI zjo zjg
  rw [zeU h]
theorem zeu (n len s:Nat):XX E n len s=XX E' n len s:=by unfold XX;rw [zaX h]
theorem VN (n len:Nat):∀ k s,Yc E n len k s=Yc E' n len k s
 | 0, _ => rfl
 | k+1, s => by
  show (if _ then _ else _)=(if _ then _ else _)
  rw [zeu h,VN n len k]
theorem WH (n:Nat):∀ k len,Xh E n k len=Xh E' n k len
 | 0, _ => rfl
 | k+1, len => by
  show (if _ then _ else _)=(if _ then _ else _)
  rw [VN h,WH n k]
theorem VY (n:Nat):xF E n=xF E' n:=WH h n n 1
theorem zeb (n:Nat):∀ k out,rtK E n k out=rtK E' n k out
 | 0, _ => rfl
 | k+1, out => by
  have e:zcx E out=zcx E' out:=by funext v;unfold zcx;rw [ze3 h]
  show (if _ then _ else _)=(if _ then _ else _)
  rw [e,zeb n k]
end
end Go.Proofs.Ytmnmakhpjgjdaaa
/-
 The patterns of package causal at plain values: thin.
-/
namespace Go.Proofs.Ytmnmakhpjgjdaaa
set_option linter.unusedVariables false
open Go.RowKit

def zkW (sz:Nat):List (List FV)→FV
 | [] => .nil
 | e :: es => .list sz (e :: es)
def Ua (ck cls arg:Int) (ord:List Nat) (ed:List EdC):List FV:=[.int .i64 ck,.int .i64 cls,.int .i64 arg,zkW 1 (ord.map yI),zkW 3 (ed.map EdC.fv)]
def zd1 (l:List OpV):FV:=zgX l (.list 1 ((zJ l l.length).map yI)) (.list 1 ((List.range l.length).map fun q=>[xh (KC l q)]))
def zhi (l:List OpV):FV:=match zbj l with
 | some i => .tup [.agg (Ua 0 2 (nth l i).key [i] []), .bool true]
 | none => .tup [.agg (Ua 0 0 0 [] []), .bool false]
theorem Xk {α:Type} [Inhabited α] {p:α→Bool} {l:List α} {j:Nat} (h:∀ i,i<j→p (nth l i)=false) (hj:j<l.length) (hp:p (nth l j)=true):l.find? p=some (nth l j):=by
 rw [nth_eq hj] at hp ⊢
 have:l=l.take j++l[j]::l.drop (j+1):=by rw [← List.drop_eq_getElem_cons hj,List.take_append_drop]
 rw [List.find?_eq_some_iff_append]
 refine ⟨hp,l.take j,l.drop (j+1),this,fun a ha=>?_⟩
 obtain ⟨i,hi,rfl⟩:=List.getElem_of_mem ha
 have hij:i<j:=by rw [List.length_take] at hi;omega
 have:=h i hij
 rw [nth_eq (by omega)] at this
 rw [List.getElem_take,this];rfl
theorem Vt {α:Type} [Inhabited α] {p:α→Bool} {l:List α} (h:∀ i,i<l.length→p (nth l i)=false):l.find? p=none:=by
 rw [List.find?_eq_none]
 intro x hx
 obtain ⟨i,hi,rfl⟩:=List.getElem_of_mem hx
 have:=h i hi
 rw [nth_eq hi] at this
 simp [this]
set_option maxHeartbeats 4000000 in
theorem zjh (l:List OpV) (hl:l.length≤1000) (hin:∀ o∈l,Ul o):yn Try.prog 32 [zd1 l] .sh (zhi l):=by
 obtain ⟨F3,hF3⟩:∃ F3,F3=FV.list 1 ((List.range l.length).map fun q=>[xh (KC l q)]):=⟨_,rfl⟩
 obtain ⟨I,hI⟩:∃ I,I=zJ l l.length:=⟨_,rfl⟩
 have hfr:=fun i hi=>UR l (.list 1 (I.map yI)) F3 rfl (by rw [hF3];rfl) i hi (by omega) hin
 have hIl:I.length≤l.length:=by rw [hI];exact Yk l l.length
 have hIm:∀ j,j<I.length→nth I j<l.length:=fun j hj=>by have:=zx hj;rw [hI] at this ⊢;exact xB this
 unfold zd1
 rw [← hF3,← hI]
 obtain ⟨R,hR⟩:∃ R,zhi l=R:=⟨_,rfl⟩
 have hRh:R.hand=none:=by rw [← hR];unfold zhi;split <;> rfl
 rw [hR]
 have hyes:∀ j,j<I.length→(∀ i,i<j→Vh l (nth I i)=false)→Vh l (nth I j)=true→R=.tup [.agg (Ua 0 2 (nth l (nth I j)).key [nth I j] []),.bool true]:=fun j h1 h2 h3=>by
  rw [← hR];unfold zhi zbj;rw [← hI,Xk h2 h1 h3]
 have hno:(∀ i,i<I.length→Vh l (nth I i)=false)→R=.tup [.agg (Ua 0 0 0 [] []),.bool false]:=fun h=>by
  rw [← hR];unfold zhi zbj;rw [← hI,Vt h]
 clear hR
 refine yn.of_body (c:=(ZW Try.prog zH zB 51)) ⟨Try.func32,rfl,Try.ntmps32,by kernel_rfl⟩ (by simp [FV.hand,zgX]) (by exact Nat.le_of_ble_eq_true rfl) hRh ?_
 unfold zgX at hfr ⊢
 change FW _ _ _ ⟨[(0,.eptr 4 [[.list 8 (l.map OpV.fv),.list 1 (I.map yI),.smap (yD l l.length),F3]] 0 0)],[]⟩
 (repeat (first|refine FW.seq ?_|refine FW.region ?_|refine FW.block ?_|refine zc.nil ?_|refine zD rfl rfl rfl rfl rfl rfl rfl ?_|refine zb rfl rfl rfl ?_|refine za rfl rfl rfl ?_|refine yN rfl rfl rfl ?_|refine zV rfl rfl rfl rfl rfl rfl rfl ?_|refine zm rfl rfl rfl (by simp;done) rfl rfl rfl rfl rfl ?_|refine zu rfl rfl (by first|exact List.length_map _|rfl|(simp;done)) rfl rfl ?_))
 refine FW.loop (fun j:Nat=>⟨[(0,.eptr 4 [[.list 8 (l.map OpV.fv),.list 1 (I.map yI),.smap (yD l l.length),F3]] 0 0),(2,.ptr 102 0 0 0),(12,.list 1 (I.map yI)),(13,.int .i64 I.length),(14,.int .i64 j)],[(102,⟨0,.own,36,5,[[.int .i64 0,.int .i64 0,.int .i64 0,.nil,.nil]]⟩)]⟩) (fun j=>j≤I.length∧∀ i,i<j→Vh l (nth I i)=false) (fun j=>I.length - j) 0 ⟨Nat.zero_le _,fun i hi=>absurd hi (Nat.not_lt_zero _)⟩ ?_ ?_
 ·exact (FLe.cv [⟨102,some 2,0+1,⟨0,.own,36,5,[[.int .i64 0,.int .i64 0,.int .i64 0,.nil,.nil]]⟩⟩] (by repeat (first|exact .nil|refine .old rfl (by decide) rfl ?_)) (by repeat (first|exact .nil|refine .cons (.plain rfl rfl rfl) ?_|refine .cons (.ptr rfl (.head _) rfl) ?_)))
 rintro j ⟨hj,hpre⟩
 (repeat (first|refine FW.seq ?_|refine FW.region ?_|refine zc.nil ?_|refine zZ rfl rfl rfl rfl ?_))
 refine FW.cond rfl (fun h=>?_) (fun h=>?_)
 ·have hjl:j<I.length:=by simpa using h
  clear h
  have hyes:=hyes j hjl hpre
  have hnext:Vh l (nth I j)=false→∀ i,i<j+1→Vh l (nth I i)=false:=fun h i hi=>by
   rcases Nat.lt_succ_iff_lt_or_eq.1 hi with h'|rfl
   ·exact hpre i h'
   ·exact h
  have hii:=hIm j hjl
  obtain ⟨i,hi⟩:∃ i,nth I j=i:=⟨_,rfl⟩
  rw [hi] at hii hyes hnext
  have hfr:=hfr i hii
  have htb:Vh l i=(decide ((nth l i).k=0) && decide ((nth l i).res≠0) && (xx l i).isNone):=rfl
  unfold zgj at hfr
  obtain ⟨o,ho⟩:∃ o,nth l i=o:=⟨_,rfl⟩
  rw [ho] at htb hyes
  generalize xx l i=C at hfr htb
  (repeat (first|refine FW.seq ?_|refine FW.region ?_|refine FW.block ?_|refine FW.skip ?_|refine zc.nil ?_|refine zD rfl rfl rfl rfl rfl rfl rfl ?_|refine zb rfl rfl rfl ?_|refine za rfl rfl rfl ?_|refine yN rfl rfl rfl ?_|refine zV rfl rfl rfl rfl rfl rfl rfl ?_|refine zm rfl rfl rfl (by first|(simp;omega)|(simp;done)) (by first|exact zf (by omega)|rfl) rfl rfl rfl rfl ?_|refine yM rfl rfl rfl (by decide) (by first|(simp;omega)|(simp;done)) (by first|exact zf (by omega)|rfl) rfl rfl rfl ?_|refine zq rfl rfl rfl rfl rfl rfl (by first|(simp;omega)|(simp;done)) rfl rfl ?_|refine zj rfl rfl rfl rfl rfl rfl rfl rfl rfl ?_))
  rw [hi]
  skip
  rw [ho]
  skip
  refine yS hfr (by repeat (first|exact zI.nil|refine zI.cons (by exact Zr.plain rfl rfl) ?_)) rfl rfl ?_
  (repeat (first|refine FW.seq ?_|refine FW.region ?_|refine zc.nil ?_|refine zb rfl rfl rfl ?_|refine za rfl rfl rfl ?_|refine zi rfl rfl rfl rfl rfl rfl (by decide) rfl rfl ?_|refine zp rfl rfl rfl rfl rfl (by simp;done) rfl rfl rfl rfl rfl ?_|refine zw rfl rfl rfl rfl rfl ?_|refine yL rfl rfl rfl rfl ?_))
  refine yg (fun h1=>?_) (fun h1=>?_)
  ·(repeat (first|refine za rfl rfl rfl ?_|refine zM rfl rfl rfl rfl ?_|refine zi rfl rfl rfl rfl rfl rfl (by decide) rfl ⟨_,_,rfl,rfl,rfl⟩ ?_|refine zp rfl rfl rfl rfl rfl (by simp;done) rfl rfl rfl rfl ⟨_,_,rfl,rfl,rfl⟩ ?_|refine xJ rfl rfl rfl ⟨_,_,rfl,rfl,rfl⟩ ?_))
   refine yg (fun h2=>?_) (fun h2=>?_)
   ·(repeat (first|refine zc.nil ?_|refine zM rfl rfl rfl rfl ?_|refine za rfl rfl ⟨_,_,rfl,rfl,rfl⟩ ?_|refine Xt rfl rfl ⟨_,_,rfl,rfl,rfl⟩ ?_))
    refine FW.cond rfl (fun h3=>?_) (fun h3=>?_)
    ·have hCn:C.isNone=true:=by cases C with|none=>rfl|some w=>cases h3
     rw [hyes (by rw [htb,h1,h2,hCn];rfl)]
     (repeat (first|refine FW.seq ?_|refine FW.region ?_|refine za rfl rfl rfl ?_|refine zi rfl rfl rfl rfl rfl rfl (by decide) rfl rfl ?_|refine zp rfl rfl rfl rfl rfl (by simp;done) rfl rfl rfl rfl rfl ?_|refine xm rfl rfl rfl rfl rfl rfl rfl rfl ?_))
     refine zc.le ?_ (FLe.share 46 rfl rfl rfl)
     (repeat (first|refine zc.nil ?_|refine zb rfl rfl rfl ?_|refine zj rfl rfl rfl rfl rfl rfl rfl rfl rfl ?_|refine zU rfl rfl rfl rfl ?_|refine zW.nil ?_|refine zW.one rfl rfl rfl rfl rfl ?_|refine zW.agg rfl rfl rfl rfl (List.cons_ne_nil _ _) rfl ?_))
     exact FW.ret ⟨.inl rfl,.sh (.cons (yc rfl rfl rfl rfl rfl rfl (by decide)) (.cons (.tmp 3 rfl rfl) .nil)) rfl rfl⟩
    ·have hCn:C.isNone=false:=by cases C with|none=>cases h3|some w=>rfl
     (repeat (first|refine FW.region ?_|refine FW.skip ?_|refine zc.nil ?_|refine za rfl rfl rfl ?_|refine zt rfl rfl (by omega) rfl rfl ?_))
     refine ⟨j+1,⟨by omega,hnext ?_⟩,by omega,(FLe.cv [⟨102,some 102,0,⟨0,.own,36,5,[[.int .i64 0,.int .i64 0,.int .i64 0,.nil,.nil]]⟩⟩] (by repeat (first|exact .nil|refine .old rfl (by decide) rfl ?_)) (by repeat (first|exact .nil|refine .cons (.plain rfl rfl rfl) ?_|refine .cons (.ptr rfl (.head _) rfl) ?_)))⟩
     rw [htb,hCn,Bool.and_false]
   ·(repeat (first|refine FW.region ?_|refine FW.skip ?_|refine FW.condF rfl ?_|refine zc.nil ?_|refine za rfl rfl rfl ?_|refine zR rfl rfl rfl rfl ?_|refine zt rfl rfl (by omega) rfl rfl ?_|refine yq rfl rfl ⟨_,_,rfl,rfl,rfl⟩ ?_))
    refine ⟨j+1,⟨by omega,hnext ?_⟩,by omega,(FLe.cv [⟨102,some 102,0,⟨0,.own,36,5,[[.int .i64 0,.int .i64 0,.int .i64 0,.nil,.nil]]⟩⟩] (by repeat (first|exact .nil|refine .old rfl (by decide) rfl ?_)) (by repeat (first|exact .nil|refine .cons (.plain rfl rfl rfl) ?_|refine .cons (.ptr rfl (.head _) rfl) ?_)))⟩
    rw [htb,h2,Bool.and_false,Bool.false_and]
  ·(repeat (first|refine FW.region ?_|refine FW.skip ?_|refine FW.condF rfl ?_|refine zc.nil ?_|refine za rfl rfl rfl ?_|refine zR rfl rfl rfl rfl ?_|refine zt rfl rfl (by omega) rfl rfl ?_|refine yq rfl rfl ⟨_,_,rfl,rfl,rfl⟩ ?_))
   refine ⟨j+1,⟨by omega,hnext ?_⟩,by omega,(FLe.cv [⟨102,some 102,0,⟨0,.own,36,5,[[.int .i64 0,.int .i64 0,.int .i64 0,.nil,.nil]]⟩⟩] (by repeat (first|exact .nil|refine .old rfl (by decide) rfl ?_)) (by repeat (first|exact .nil|refine .cons (.plain rfl rfl rfl) ?_|refine .cons (.ptr rfl (.head _) rfl) ?_)))⟩
   rw [htb,h1,Bool.false_and,Bool.false_and]
 ·have hje:j=I.length:=by simp at h;omega
  subst hje
  rw [hno hpre]
  (repeat (first|refine FW.seq ?_|refine FW.region ?_|refine FW.exit ?_|refine zc.nil ?_|refine zb rfl rfl rfl ?_|refine zj rfl rfl rfl rfl rfl rfl rfl rfl rfl ?_|refine zU rfl rfl rfl rfl ?_|refine zW.nil ?_))
  exact FW.ret ⟨.inl rfl,.sh (.cons (yc rfl rfl rfl rfl rfl rfl (by decide)) (.cons (.tmp 3 rfl rfl) .nil)) rfl rfl⟩
end Go.Proofs.Ytmnmakhpjgjdaaa
