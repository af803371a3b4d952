/-
  Lemmas, in parts.
-/
import Derived.Test.YtphidhljdcledaaGreatZD
import Derived.Test.YtphidhljdcledaaGreatZJ
import Derived.Test.YtphidhljdcledaaGreatZL
import Derived.Test.YtphidhljdcledaaGreatZFmCau6
import Derived.Test.YtphidhljdcledaaGreatZFmLin2
namespace Go.Proofs.YtphidhljdcledaaGreat
set_option linter.unusedVariables false
set_option maxHeartbeats 16000000
variable {L f j n s u v y:Nat} {E:List (Nat×Nat)} {a:Act} {b:Bool} {α:Type} {l:List aq} {x:Operand} {β:Nat→Option Nat} {J:JJ} {dst:Option Nat} {after:Array Edge} {g:Option (Nat×Bool)}
section
open Go.RowKit
def Cm (E:List (Nat×Nat)) (a b:Int):Bool:=E.any fun e=>decide ((e.1:Int)=a) && decide ((e.2:Int)=b)
def zyk (e:Nat×Nat):Nat×Nat:=(min e.1 e.2,max e.1 e.2)
def Sr (E:List (Nat×Nat)):Nat→List (Nat×Nat)
 | 0 => E
 | k+1 => if k % 7=6 then Sr E k else (Sr E k).set k (zyk (nth (Sr E k) k))
def DY (E:List (Nat×Nat)) (v:Int) (out:List Int):Bool:=E.all fun e=>!decide ((e.2:Int)=v) || IX out e.1
def Cy (p:Nat→Bool) (n:Nat):Nat→Int
 | 0 => -1
 | k+1 => if p (n - (k+1))=true then ((n - (k+1):Nat):Int) else Cy p n k
def ve (E:List (Nat×Nat)) (out:List Int) (v:Nat):Bool:=!IX out v && DY E v out
def uS (E:List (Nat×Nat)) (n:Nat):Nat→List Int→Option (List Int)
 | 0, out => some out
 | k+1, out => if Cy (ve E out) n n<0 then none else uS E n k (out ++ [Cy (ve E out) n n])
end
theorem zlK (p:Nat→Bool) (n:Nat):∀ k,k≤n→(Cy p n k = -1∧∀ v,n - k≤v→v<n→p v=false)∨∃ v,Cy p n k=(v:Nat)∧n - k≤v∧v<n∧p v=true∧∀ u,n - k≤u→u<v→p u=false
 | 0, _ => .inl ⟨rfl, fun v h1 h2 => by omega⟩
 | k+1,hk=>by
  have ih:=zlK p n k za;unfold Cy;by_cases hp:p (n - (k+1))=true
  ·rw [if_pos hp];exact .inr ⟨_,rfl,zg _,by omega,hp,fun u h1 h2=>by omega⟩
  ·rw [if_neg hp];have wq : p (n - (k+1))=false:=by simpa using hp
   rcases ih with ⟨e,h⟩|⟨v,e,h1,h2,h3,h4⟩
   ·refine .inl ⟨e,fun v q1 q2=>?_⟩;by_cases hv:v=n - (k+1)
    ·subst hv;exact wq
    ·exact h v za q2
   ·refine .inr ⟨v,e,by omega,h2,h3,fun u q1 q2=>?_⟩;by_cases hv:u=n - (k+1)
    ·subst hv;exact wq
    ·exact h4 u za q2
theorem zs1 (h:dV n E) (out:List Int) (v:Nat):DY E v out=true↔nz n E out v=0:=by
 unfold DY nz;rw [zL,BV];constructor
 ·intro hr u hu hc;simp only [zx,decide_eq_true_eq] at hc;obtain ⟨e,he,h1,h2⟩:=ZL.1 hc.2;have:=hr e he;subst h1;have h3:((e.2:Nat):Int)=(v:Int):=h2;rw [h3] at this;unfold IX at this;simp at this;exact hc.1 this
 ·intro hc e he;have aP:=h e he;by_cases hv:((e.2:Nat):Int)=v
  ·have:=hc e.1 (zn.2 aP.1);simp only [zx,decide_eq_true_eq,not_and] at this;unfold IX;by_cases hm:((e.1:Nat):Int)∈out
   ·simp [hm]
   ·exact absurd (ZL.2 ⟨e,he,rfl,hv⟩) (this hm)
  ·simp [hv]
theorem TI.next (hE:dV n E) {s:lQ} (h:TI n E s) (v:Nat) (hv:v<n):ve E s.out v=true↔(v:Int)∈s.h:=by
 rw [h.hM,zK,h.cnt v hv];unfold ve IX;rw [zx,zs1 hE];constructor
 ·rintro ⟨h1,h2⟩;exact ⟨by omega,by simpa using h1,by omega⟩
 ·rintro ⟨_,h1,h2⟩;exact ⟨by simpa using h1,by omega⟩
theorem zo1 {n:Nat} {E:List (Nat×Nat)} (hE:dV n E):∀ (k f:Nat) (s:lQ),TI n E s→s.out.length+k=n→n<s.out.length+f→uS E n k s.out=if (xw E f s).out.length<n then none else some (xw E f s).out
 | k, 0, s, h, _, hf => by have := h.le; omega
 | k, f+1,s,h,hk,hf=>by
  have hl:=zlK (ve E s.out) n n (zg _);by_cases h0:s.h=[]
  ·rw [W5 E (f+1) s h0];cases k with
   | zero =>
    rw [if_neg za];rfl
   | succ k=>
    rw [if_pos za];unfold uS;rcases hl with ⟨e,_⟩|⟨v,e,_,h2,h3,_⟩
    ·rw [if_pos za]
    ·have:=(h.next hE v h2).1 h3;rw [h0] at this;cases this
  ·obtain ⟨q,hq⟩:∃ q,s.h.length=q+1:=⟨s.h.length - 1,by have:=Uk.2 h0;omega⟩
   obtain ⟨v,hv,iu,JU,kV,gV,hD,hN,hR⟩:=h.first hq;have U2:(v:Int)∈s.h:=by
    rw [h.hM];exact ⟨by omega,JU,by rw [zK];exact kV⟩
   have rT:(ZY E s).out=s.out++[(v:Int)]:=by
    unfold ZY;dsimp only;rw [show s.h.length - 1=q by omega,hv]
   have e1:xw E (f+1) s=xw E f (ZY E s):=if_neg h0;cases k with
   | zero =>
    have:=UJ hN hR;simp at this;omega
   | succ k=>
    have pF:Cy (ve E s.out) n n=v:=by
     rcases hl with ⟨_,bl⟩|⟨u,e,_,h2,h3,h4⟩
     ·have:=bl v za iu;rw [(h.next hE v iu).2 U2] at this;cases this
     ·have hu:=(h.next hE u h2).1 h3;have hle:=gV _ hu;rcases yg v u with aA|il
      ·have:=h4 v za aA;rw [(h.next hE v iu).2 U2] at this;cases this
      ·rw [e];omega
    unfold uS;rw [pF,if_neg za,← rT,e1];exact zo1 hE k f (ZY E s) (h.step hE h0) (by rw [Pp];omega) (by rw [Pp];omega)
theorem zwx (hE:dV n E):uS E n n []=if (Yj n E).length<n then none else some (Yj n E):=
 zo1 hE n (n+1) (Zb n E) (TI.start hE) (yh n) (by show n<0+(n+1);omega)
section
open Go.RowKit
def Mi:List Int→List Int→Bool
 | x :: a, y :: b => if x=y then Mi a b else decide (x<y)
 | [], b => decide (0<b.length)
 | _ :: _, [] => false
def sB (out:List (List Int)) (tg ab k v w:Nat):List Int:=if k=1 then (if w=tg then [(v:Int)] else []) else if ab<w∧nth out w≠[] then (v:Int)::nth out w else []
def IK (E:List (Nat×Nat)) (out:List (List Int)) (tg ab k v:Nat) (cur:List Int) (w:Nat):List Int:=
 if Cm E v w=true∧sB out tg ab k v w≠[]∧(cur=[]∨Mi (sB out tg ab k v w) cur=true) then sB out tg ab k v w else cur
def tV (E:List (Nat×Nat)) (out:List (List Int)) (tg ab k v j:Nat):List Int:=(List.range j).foldl (IK E out tg ab k v) []
def DW (E:List (Nat×Nat)) (out:List (List Int)) (tg ab k n i:Nat):List (List Int):=(List.range n).map fun v=>if v<i then tV E out tg ab k v n else []
def Zi (E:List (Nat×Nat)) (tg ab n:Nat):Nat→List (List Int)
 | 0 => List.replicate n []
 | k+1 => DW E (Zi E tg ab n k) tg ab (k+1) n n
theorem zqg (E:List (Nat×Nat)) (out:List (List Int)) (tg ab k n i:Nat):(DW E out tg ab k n i).length=n:=by simp [DW]
theorem znK (E:List (Nat×Nat)) (tg ab n:Nat):∀ k,(Zi E tg ab n k).length=n
 | 0 => by simp [Zi]
 | k+1 => zqg _ _ _ _ _ _ _
theorem zrn (E:List (Nat×Nat)) (out:List (List Int)) (tg ab k v j:Nat):tV E out tg ab k v (j+1)=IK E out tg ab k v (tV E out tg ab k v j) j:=by
 unfold tV;rw [yQ,ZU];rfl
def np (E:List (Nat×Nat)) (n len s:Nat):List Int:=nth (Zi E s s n len) s
def VS (E:List (Nat×Nat)) (n len:Nat):Nat→Nat→List Int
 | 0, _ => []
 | k+1, s => if np E n len s=[] then VS E n len k (s+1) else np E n len s
def wX (E:List (Nat×Nat)) (n:Nat):Nat→Nat→List Int
 | 0, _ => []
 | k+1, len => if VS E n len n 0=[] then wX E n k (len+1) else VS E n len n 0
def XA (E:List (Nat×Nat)) (n:Nat):List Int:=wX E n n 1
end
theorem zp5 {a b:Nat}:Cm E a b=true↔(b:Int)∈zP E a:=by
 unfold Cm;rw [Yk,ZL];constructor
 ·rintro ⟨e,he,h⟩;simp only [zx,decide_eq_true_eq] at h;exact ⟨e,he,by omega,h.2⟩
 ·rintro ⟨e,he,h1,h2⟩;exact ⟨e,he,by simp only [zx,decide_eq_true_eq];omega⟩
def Wx (n:Nat) (E:List (Nat×Nat)) (s:Nat):Nat→Nat→Prop
 | 0, _ => False
 | 1, v => (s:Int) ∈ zP E v
 | k+2, v => ∃ w:Nat, w<n ∧ (w:Int) ∈ zP E v ∧ s<w ∧ Wx n E s (k+1) w
def Ac (E:List (Nat×Nat)) (O:List (List Int)) (tg ab k v w:Nat):Prop:=Cm E v w=true∧sB O tg ab k v w≠[]
theorem Kr {E:List (Nat×Nat)} {O:List (List Int)} {s k v:Nat} (hh:∀ w,nth O w≠[]→∃ r,nth O w=(w:Int)::r):∀ j,(tV E O s s k v j=[]∧∀ w,w<j→¬ Ac E O s s k v w)∨∃ w,w<j∧Ac E O s s k v w∧(∀ u,u<w→¬ Ac E O s s k v u)∧tV E O s s k v j=sB O s s k v w
 | 0 => .inl ⟨rfl, fun w hw => by omega⟩
 | j + 1=>by
  rw [zrn];rcases Kr (E:=E) (O:=O) (s:=s) (k:=k) (v:=v) hh j with ⟨e,h⟩|⟨w,h1,h2,h3,e⟩
  ·rw [e];unfold IK;by_cases hc:Ac E O s s k v j
   ·rw [if_pos ⟨hc.1,hc.2,.inl rfl⟩];exact .inr ⟨j,Wh _,hc,fun u hu=>h u hu,rfl⟩
   ·rw [if_neg (fun q=>hc ⟨q.1,q.2.1⟩)];refine .inl ⟨rfl,fun w hw=>?_⟩;by_cases JW:w=j
    ·subst JW;exact hc
    ·exact h w za
  ·rw [e];refine .inr ⟨w,by omega,h2,h3,?_⟩;unfold IK;refine if_neg fun q=>?_;obtain ⟨q1,q2,q3⟩:=q;rcases q3 with q3|q3
   ·exact h2.2 q3
   ·have ew:=h2.2;unfold sB at q2 q3 ew;by_cases hk:k=1
    ·rw [if_pos hk] at q2 ew;rw [if_pos hk,if_pos hk] at q3;by_cases e1:j=s
     ·by_cases e2:w=s
      ·omega
      ·rw [if_neg e2] at ew;exact ew rfl
     ·rw [if_neg e1] at q2;exact q2 rfl
    ·rw [if_neg hk] at q2 ew;rw [if_neg hk,if_neg hk] at q3;by_cases e1:s<j∧nth O j≠[]
     ·by_cases e2:s<w∧nth O w≠[]
      ·rw [if_pos e1,if_pos e2] at q3;obtain ⟨r1,f1⟩:=hh j e1.2;obtain ⟨r2,f2⟩:=hh w e2.2;rw [f1,f2] at q3;unfold Mi at q3;rw [if_pos rfl] at q3;unfold Mi at q3;rw [if_neg za] at q3;simp at q3;omega
      ·rw [if_neg e2] at ew;exact ew rfl
     ·rw [if_neg e1] at q2;exact q2 rfl
theorem QX {k:Nat} (hv:v<n):nth (Zi E s s n (k+1)) v=tV E (Zi E s s n k) s s (k+1) v n:=by
 have e:Zi E s s n (k+1)=(List.range n).map fun v=>if v<n then tV E (Zi E s s n k) s s (k+1) v n else []:=rfl
 rw [e,ak (by simpa using hv)];simp [hv]
theorem PS {E:List (Nat×Nat)} {s n:Nat}:∀ (k w:Nat),nth (Zi E s s n k) w≠[]→w<n∧∃ r,nth (Zi E s s n k) w=(w:Int)::r
 | 0, w, h => by
  refine absurd ?_ h;rcases yg w n with hw|hw
  ·rw [ak (by simpa [Zi] using hw)];simp [Zi]
  ·unfold nth;rw [yz,Rs (by simpa [Zi] using hw)];rfl
 | k + 1,w,h=>by
  have hw:w<n:=by
   rcases yg w n with hw|hw
   ·exact hw
   ·refine absurd ?_ h;unfold nth;rw [yz,Rs (by rw [znK];exact hw)];rfl
  refine ⟨hw,?_⟩;rw [QX hw] at h ⊢;rcases Kr (E:=E) (s:=s) (k:=k+1) (v:=w) (fun u hu=>(PS k u hu).2) n with ⟨e,_⟩|⟨u,_,hc,_,e⟩
  ·exact absurd e h
  ·rw [e];have h2:=hc.2;unfold sB at h2 ⊢;split at h2
   ·split at h2
    ·rename_i h3 h4;rw [if_pos h3,if_pos h4];exact ⟨_,rfl⟩
    ·exact absurd rfl h2
   ·split at h2
    ·rename_i h3 h4;rw [if_neg h3,if_pos h4];exact ⟨_,rfl⟩
    ·exact absurd rfl h2
theorem DH {k w:Nat}:Ac E (Zi E s s n k) s s (k+1) v w↔(w:Int)∈zP E v∧if k=0 then w=s else s<w∧nth (Zi E s s n k) w≠[]:=by
 unfold Ac;rw [zp5];refine and_congr Iff.rfl ?_;unfold sB;by_cases hk:k=0
 ·subst hk;rw [if_pos rfl,if_pos rfl];by_cases e:w=s
  ·rw [if_pos e];simp [e]
  ·rw [if_neg e];simp [e]
 ·rw [if_neg za,if_neg hk];by_cases e:s<w∧nth (Zi E s s n k) w≠[]
  ·rw [if_pos e];simp [e.1,e.2]
  ·rw [if_neg e];constructor
   ·intro q;exact absurd rfl q
   ·intro q;exact absurd q e
theorem VE {n:Nat} {E:List (Nat×Nat)} (h:dV n E) {s:Nat} (hs:s<n):∀ (k v:Nat),v<n→(nth (Zi E s s n (k+1)) v≠[]↔Wx n E s (k+1) v)
 | k,v,hv=>by
  rw [QX hv];have hex:tV E (Zi E s s n k) s s (k+1) v n≠[]↔∃ w,w<n∧Ac E (Zi E s s n k) s s (k+1) v w:=by
   rcases Kr (E:=E) (s:=s) (k:=k+1) (v:=v) (fun u hu=>(PS k u hu).2) n with ⟨e,bl⟩|⟨u,h1,hc,_,e⟩
   ·constructor
    ·intro q;exact absurd e q
    ·rintro ⟨w,h1,h2⟩;exact absurd h2 (bl w h1)
   ·constructor
    ·intro _;exact ⟨u,h1,hc⟩
    ·intro _;rw [e];exact hc.2
  rw [hex];cases k with
  | zero=>
   constructor
   ·rintro ⟨w,_,hc⟩;obtain ⟨c1,c2⟩:=DH.1 hc;rw [if_pos rfl] at c2;subst c2;exact c1
   ·intro hm;exact ⟨s,hs,DH.2 ⟨hm,by rw [if_pos rfl]⟩⟩
  | succ k=>
   constructor
   ·rintro ⟨w,hw,hc⟩;obtain ⟨c1,c2⟩:=DH.1 hc;rw [if_neg za] at c2;exact ⟨w,hw,c1,c2.1,(VE h hs k w hw).1 c2.2⟩
   ·rintro ⟨w,hw,hm,ng,hx⟩;exact ⟨w,hw,DH.2 ⟨hm,by rw [if_neg za];exact ⟨ng,(VE h hs k w hw).2 hx⟩⟩⟩
section
variable {n:Nat} {E:List (Nat×Nat)} (h:dV n E) {s:Nat} (hs:s<n)
include h hs
theorem Wx.jR:∀ (k w:Nat),w<n→s<w→Wx n E s (k+1) w→0≤nth (yK n E s) w∧nth (yK n E s) w≤(k+1:Nat)
 | 0, w, hw, ng, hx => by
  have h0:=zn5 h hs;have:=PH h hs hs hw (show (s:Int)∈zP E w from hx) ng za;omega
 | k+1, w, hw, ng, hx => by
  obtain ⟨u,hu,hm,hsu,JX⟩:=hx;have h1:=Wx.jR k u hu hsu JX;have:=PH h hs hu hw hm ng h1.1;omega
theorem LM:∀ (k w:Nat),w<n→nth (yK n E s) w=(k+1:Nat)→s<w∧Wx n E s (k+1) w
 | 0, w, hw, hd => by
  refine ⟨Ku h hs hw za,?_⟩;obtain ⟨u,hu,hm,Nz⟩:=Qg h hs hw za;have:u=s:=zib h hs hu za;subst this;exact hm
 | k+1, w, hw, hd => by
  refine ⟨Ku h hs hw za,?_⟩;obtain ⟨u,hu,hm,Nz⟩:=Qg h hs hw za;obtain ⟨h1,h2⟩:=LM k u hu za;exact ⟨u,hu,hm,h1,h2⟩
end
theorem zhi (d:List Int) (st:Int):∀ (row:List Int) (len:Int),0≤len→(0<len→row.foldl (xL d st) len≤len∧0<row.foldl (xL d st) len)∧∀ w∈row,st≤w→0≤nth d w.toNat→0<row.foldl (xL d st) len∧row.foldl (xL d st) len≤nth d w.toNat+1
 | [], len, _ => ⟨fun h => ⟨XR _, h⟩, fun w hw => by cases hw⟩
 | x::row,len,h0=>by
  rw [XT];have hs:0≤xL d st len x∧(0<len→xL d st len x≤len∧0<xL d st len x)∧(st≤x→0≤nth d x.toNat→0<xL d st len x∧xL d st len x≤nth d x.toNat+1):=by
   unfold xL;split <;> rename_i hc
   ·refine ⟨by omega,fun _=>?_,fun _ _=>by omega⟩;rcases hc.2 with h|h <;> omega
   ·refine ⟨h0,fun _=>by omega,fun h1 h2=>?_⟩;have:¬ (len=0∨nth d x.toNat+1<len):=fun q=>hc ⟨⟨h1,h2⟩,q⟩;omega
  obtain ⟨i1,i2⟩:=zhi d st row (xL d st len x) hs.1;refine ⟨fun h=>?_,fun w hw h1 h2=>?_⟩
  ·have:=hs.2.1 h;have:=i1 this.2;omega
  ·rcases zA.1 hw with rfl|hw
   ·have h3:=hs.2.2 h1 h2;have:=i1 h3.1;omega
   ·exact i2 w hw h1 h2
theorem Pw {d:List Int} {st:Int} {row:List Int} {w:Int} (hw:w∈row) (h1:st≤w) (h2:0≤nth d w.toNat):0<Yi d st row∧Yi d st row≤nth d w.toNat+1:=(zhi d st row 0 (XR _)).2 w hw h1 h2
theorem Y3 (p:Int→Bool) (r:List Int):∀ (k i j:Nat),qF p r k i=(j:Int)→∀ q,i≤q→q<j→p (nth r q)=false
 | 0, i, j, h, q, _, _ => by
  have:(-1:Int)=j:=h;omega
 | k+1,i,j,h,q,h1,h2=>by
  unfold qF at h;by_cases hp:p (nth r i)=true
  ·rw [if_pos hp] at h;omega
  ·rw [if_neg hp] at h;by_cases e:q=i
   ·subst e;simpa using hp
   ·exact Y3 p r k (i+1) j h q za h2
section
variable {n:Nat} {E:List (Nat×Nat)} (h:dV n E) {s:Nat} (hs:s<n)
include h hs
theorem ziG (hx:Wx n E s (L+1) s):0<Yi (yK n E s) s (zP E s)∧Yi (yK n E s) s (zP E s)≤(L+1:Nat):=by
 cases L with
 | zero =>
  have h0:=zn5 h hs;have:=Pw (d:=yK n E s) (st:=s) (show (s:Int)∈zP E s from hx) (XR _) (by rw [zK];omega);rw [zK] at this;omega
 | succ L =>
  obtain ⟨w,hw,hm,ng,Dm⟩:=hx;have hd:=Wx.jR h hs L w hw ng Dm;have:=Pw (d:=yK n E s) (st:=s) hm za (by rw [zK];omega);rw [zK] at this;omega
theorem zje (hL:Yi (yK n E s) s (zP E s)=(L+1:Nat)):Wx n E s (L+1) s:=by
 rcases PE (yK n E s) s (zP E s) with e|⟨w,hw,h1,h2,h3⟩
 ·omega
 ·have aP:=Zh h hw;obtain ⟨w,rfl⟩:∃ w' : Nat,w=w':=⟨w.toNat,by omega⟩
  rw [zK] at h2 h3;cases L with
  | zero =>
   have:w=s:=zib h hs za za;subst this;exact hw
  | succ L =>
   obtain ⟨k1,k2⟩:=LM h hs L w za za;exact ⟨w,by omega,hw,k1,k2⟩
theorem zo4:∀ (k v:Nat),v<n→Wx n E s (k+1) v→(∀ w:Nat,(w:Int)∈zP E v→s<w→0≤nth (yK n E s) w→(k:Int)≤nth (yK n E s) w)→nth (Zi E s s n (k+1)) v=(v:Int)::VJ E (yK n E s) s k v
 | k, v, hv,hx,gV=>by
  have aN:=(VE h hs k v hv).2 hx;rw [QX hv] at aN ⊢;rcases Kr (E:=E) (s:=s) (k:=k+1) (v:=v) (fun u hu=>(PS k u hu).2) n with ⟨e,_⟩|⟨u,hu,hc,A6,e⟩
  ·exact absurd e aN
  ·rw [e];obtain ⟨c1,c2⟩:=DH.1 hc;cases k with
   | zero =>
    rw [if_pos rfl] at c2;unfold sB;rw [if_pos rfl,if_pos c2];rfl
   | succ k=>
    rw [if_neg za] at c2;have JX:=(VE h hs k u hu).1 c2.2;have Nz:=Wx.jR h hs k u hu c2.1 JX;have hmu:=gV u c1 c2.1 Nz.1;have NA : nth (yK n E s) u=(k+1:Nat):=by omega
    have jY:ou (yK n E s) s (k+1:Nat) u=true:=by
     unfold ou;rw [decide_eq_true_eq,zK];exact ⟨by omega,NA⟩
    obtain ⟨j,hj,tj,wy⟩:=Ps c1 jY;have aP:=Zh h (zu hj);obtain ⟨x,nX⟩:∃ x:Nat,nth (zP E v) j=x:=⟨(nth (zP E v) j).toNat,by omega⟩
    have hux:u=x:=by
     rw [nX] at wy aP;unfold ou at wy;rw [decide_eq_true_eq,zK] at wy;have GV:(x:Int)∈zP E v:=by rw [← nX];exact zu hj
     obtain ⟨_,rY⟩:=LM h hs k x za wy.2;have JC:Ac E (Zi E s s n (k+1)) s s (k+1+1) v x:=DH.2 ⟨GV,by rw [if_neg za];exact ⟨by omega,(VE h hs k x za).2 rY⟩⟩;rcases Yw u x with aA|heq|Bc
     ·-- u stands ahead of x in the row,and y9 takes the first
      obtain ⟨q,hq,Dh⟩:=zU c1;have hqj:q<j:=by
       rcases yg q j with q1|q1
       ·exact q1
       ·have Ng:=Zw.1 (zmj E v);rcases yg j q with q2|q2
        ·have:=Ng j q hj hq q2;rw [← ak hj,nX,Dh] at this;omega
        ·obtain rfl:q=j:=by omega
         rw [ak hq,Dh] at nX;omega
      have:=Y3 (ou (yK n E s) s (k+1:Nat)) (zP E v) (zP E v).length 0 j tj q (zp _) hqj;rw [ak hq,Dh] at this;rw [jY] at this;cases this
     ·exact heq
     ·exact absurd JC (A6 x Bc)
    have bT:Xm E (yK n E s) s (k+1:Nat) v=u:=by
     unfold Xm;rw [tj,zK,nX,hux,zK]
    show sB (Zi E s s n (k+1)) s s (k+1+1) v u=(v:Int)::VJ E (yK n E s) s (k+1) v;unfold sB;rw [if_neg za,if_pos c2];have ih:=zo4 k u hu JX fun w hw ng h0=>by
     have hwin:=Zh h hw;have:=PH h hs (u:=w) (v:=u) za hu hw c2.1 h0;omega
    rw [ih];show _=(v:Int)::((Xm E (yK n E s) s (k+1:Nat) v:Nat):Int)::VJ E (yK n E s) s k (Xm E (yK n E s) s (k+1:Nat) v);rw [bT]
end
theorem zp9 (d:List Int) (st:Int) (row:List Int):0≤Yi d st row:=by
 rcases PE d st row with e|⟨w,_,_,h2,h3⟩ <;> omega
def lenOf (n:Nat) (E:List (Nat×Nat)) (s:Nat):Int:=Yi (yK n E s) s (zP E s)
section
variable {n:Nat} {E:List (Nat×Nat)} (h:dV n E)
include h
theorem Re (hs:s<n) (h0:lenOf n E s≠0):∃ K:Nat,lenOf n E s=(K+1:Nat)∧K<n∧np E n (K+1) s=(s:Int)::VJ E (yK n E s) s K s:=by
 obtain ⟨K,hK,EZ,_⟩:=J9 h hs h0;refine ⟨K,hK,EZ,zo4 h hs K s hs (zje h hs hK) fun w hw ng hd=>?_⟩;have:=Pw (d:=yK n E s) (st:=s) hw za (by rw [zK];exact hd);rw [zK,hK] at this;omega
theorem RG (hs:s<n) (h0:np E n (L+1) s≠[]):0<lenOf n E s∧lenOf n E s≤(L+1:Nat):=ziG h hs ((VE h hs L s hs).1 h0)
theorem Ln:∀ i,i≤n→(lS n E i=[]∧∀ s,s<i→lenOf n E s=0)∨∃ s0 K,s0<i∧lenOf n E s0=((K+1:Nat):Int)∧lS n E i=(s0:Int)::VJ E (yK n E s0) s0 K s0∧(∀ s,s<i→lenOf n E s≠0→((K+1:Nat):Int)≤lenOf n E s)∧∀ s,s<s0→lenOf n E s≠0→((K+1:Nat):Int)<lenOf n E s
 | 0, _ => .inl ⟨rfl, fun s hs => by omega⟩
 | i + 1,hi=>by
  rw [Qi];have hL:Yi (yK n E i) i (zP E i)=lenOf n E i:=rfl;have na:0≤lenOf n E i:=zp9 _ _ _;unfold Cd;dsimp only;rw [hL];rcases Ln i za with ⟨e,hz⟩|⟨s0,K,h1,h2,e,h4,h5⟩
  ·rw [e];by_cases h0:lenOf n E i=0
   ·rw [if_pos (.inl h0)];refine .inl ⟨rfl,fun s hs=>?_⟩;by_cases tx:s=i
    ·subst tx;exact h0
    ·exact hz s za
   ·rw [if_neg (by rintro (q|q);exact h0 q;exact q.1 rfl)];obtain ⟨K,hK,_,_⟩:=Re h za h0;refine .inr ⟨i,K,Wh _,hK,by rw [hK,zK];rfl,fun s hs aN=>?_,fun s hs aN=>absurd (hz s hs) aN⟩;by_cases tx:s=i
    ·subst tx;omega
    ·exact absurd (hz s za) aN
  ·have hlen:(lS n E i).length=K+1:=by rw [e,yS,K6]
   by_cases hc:lenOf n E i=0∨(lS n E i≠[]∧((lS n E i).length:Int)≤lenOf n E i)
   ·rw [if_pos hc];refine .inr ⟨s0,K,by omega,h2,e,fun s hs aN=>?_,h5⟩;by_cases tx:s=i
    ·subst tx;rcases hc with q|q
     ·exact absurd q aN
     ·rw [hlen] at q;exact q.2
    ·exact h4 s za aN
   ·rw [if_neg hc];have h0:lenOf n E i≠0:=fun q=>hc (.inl q);have aA:lenOf n E i<((K+1:Nat):Int):=by
     have:¬ ((lS n E i).length:Int)≤lenOf n E i:=fun q=>hc (.inr ⟨by rw [e];exact HT _ _,q⟩);rw [hlen] at this;omega
    obtain ⟨K',hK,_,_⟩:=Re h za h0;refine .inr ⟨i,K',Wh _,hK,by rw [hK,zK];rfl,fun s hs aN=>?_,fun s hs aN=>?_⟩
    ·by_cases tx:s=i
     ·subst tx;omega
     ·have:=h4 s za aN;omega
    ·have:=h4 s hs aN;omega
end
theorem Ks {E:List (Nat×Nat)} {n len:Nat}:∀ (k s:Nat),(∀ u,s≤u→u<s+k→np E n len u=[])→VS E n len k s=[]
 | 0, _, _ => rfl
 | k+1, s, h => by
  unfold VS;rw [if_pos (h s (zg _) za)];exact Ks k (s+1) fun u h1 h2=>h u za za
theorem Y1 {E:List (Nat×Nat)} {n len s0:Nat} (h0:np E n len s0≠[]):∀ (k s:Nat),s≤s0→s0<s+k→(∀ u,s≤u→u<s0→np E n len u=[])→VS E n len k s=np E n len s0
 | 0, s, h1, h2, _ => by omega
 | k+1,s,h1,h2,h=>by
  unfold VS;by_cases e:s=s0
  ·subst e;rw [if_neg h0]
  ·rw [if_pos (h s (zg _) za)];exact Y1 h0 k (s+1) za za fun u q1 q2=>h u za q2
theorem Pq {E:List (Nat×Nat)} {n:Nat}:∀ (k len:Nat),(∀ l,len≤l→l<len+k→VS E n l n 0=[])→wX E n k len=[]
 | 0, _, _ => rfl
 | k+1, len, h => by
  unfold wX;rw [if_pos (h len (zg _) za)];exact Pq k (len+1) fun u h1 h2=>h u za za
theorem W4 {E:List (Nat×Nat)} {n l0:Nat} (h0:VS E n l0 n 0≠[]):∀ (k len:Nat),len≤l0→l0<len+k→(∀ l,len≤l→l<l0→VS E n l n 0=[])→wX E n k len=VS E n l0 n 0
 | 0, len, h1, h2, _ => by omega
 | k+1,len,h1,h2,h=>by
  unfold wX;by_cases e:len=l0
  ·subst e;rw [if_neg h0]
  ·rw [if_pos (h len (zg _) za)];exact W4 h0 k (len+1) za za fun u q1 q2=>h u za q2
theorem Lo (h:dV n E):IA n E=XA E n:=by
 rcases Ln h n (zg _) with ⟨e,hz⟩|⟨s0,K,h1,h2,e,h4,h5⟩
 ·show lS n E n=_;rw [e];refine (Pq n 1 fun l qA bA=>Ks n 0 fun u _ hu=>?_).symm;obtain ⟨l,rfl⟩:∃ l',l=l'+1:=⟨l - 1,by omega⟩
  by_cases hc:np E n (l+1) u=[]
  ·exact hc
  ·have:=RG h za hc;have:=hz u za;omega
 ·show lS n E n=_;rw [e];obtain ⟨K',hK',EZ,hw⟩:=Re h h1 za;obtain rfl:K'=K:=by omega
  have aN:np E n (K'+1) s0≠[]:=by rw [hw];exact HT _ _
  have aj:VS E n (K'+1) n 0=np E n (K'+1) s0:=Y1 aN n 0 (zp _) za fun u _ hu=>by
   by_cases hc:np E n (K'+1) u=[]
   ·exact hc
   ·have q:=RG h za hc;have:=h5 u hu za;omega
  unfold XA;rw [W4 (l0:=K'+1) (by rw [aj];exact aN) n 1 za za fun l qA bA=>Ks n 0 fun u _ hu=>?_,aj,hw];obtain ⟨l,rfl⟩:∃ l',l=l'+1:=⟨l - 1,by omega⟩
  by_cases hc:np E n (l+1) u=[]
  ·exact hc
  ·have q:=RG h za hc;have:=h4 u za za;omega
section
open Go.RowKit
theorem zmS (n:Nat) (E:List (Nat×Nat)) (hn:n≤14) (hE:E.length≤1000) (aP:dV n E):xA Tryz.prog 42 [.int .i64 n,.list 2 (E.map bZ)] .sh (.list 1 ((XA E n).map zJ)):=by
 rw [← Lo aP];exact zpp n E hn hE aP
end
section
variable {E E' : List (Nat×Nat)} (h:∀ e,e∈E↔e∈E')
include h
theorem znj:Cm E=Cm E':=by
 funext a b;unfold Cm;rw [VM,Yk,Yk];exact ⟨fun ⟨e,he,hp⟩=>⟨e,(h e).1 he,hp⟩,fun ⟨e,he,hp⟩=>⟨e,(h e).2 he,hp⟩⟩
theorem znw:DY E=DY E':=by
 funext a b;unfold DY;rw [VM,zL,zL];exact ⟨fun H e he=>H e ((h e).2 he),fun H e he=>H e ((h e).1 he)⟩
theorem zhp (tg ab n:Nat):∀ k,Zi E tg ab n k=Zi E' tg ab n k
 | 0 => rfl
 | k+1 => by
  show DW E _ _ _ _ _ _=DW E' _ _ _ _ _ _;rw [zhp tg ab n k];unfold DW tV IK;rw [znj h]
theorem zmN (n len s:Nat):np E n len s=np E' n len s:=by unfold np;rw [zhp h]
theorem Y0 (n len:Nat):∀ k s,VS E n len k s=VS E' n len k s
 | 0, _ => rfl
 | k+1, s => by
  show (if _ then _ else _)=(if _ then _ else _)
  rw [zmN h,Y0 n len k]
theorem W3 (n:Nat):∀ k len,wX E n k len=wX E' n k len
 | 0, _ => rfl
 | k+1, len => by
  show (if _ then _ else _)=(if _ then _ else _)
  rw [Y0 h,W3 n k]
theorem X6 (n:Nat):XA E n=XA E' n:=W3 h n n 1
theorem zmb (n:Nat):∀ k out,uS E n k out=uS E' n k out
 | 0, _ => rfl
 | k+1, out => by
  have e:ve E out=ve E' out:=by funext v;unfold ve;rw [znw h]
  show (if _ then _ else _)=(if _ then _ else _)
  rw [e,zmb n k]
end
section
open Go.RowKit
def CH (sz:Nat):List (List FV)→FV
 | [] => .nil
 | e :: es => .list sz (e :: es)
def ix (ck cls arg:Int) (ord:List Nat) (ed:List dF):List FV:=[.int .i64 ck,.int .i64 cls,.int .i64 arg,CH 1 (ord.map yx),CH 3 (ed.map dF.fv)]
def m4 (l:List aq):FV:=qk l (.list 1 ((yB l l.length).map yx)) (.list 1 ((List.range l.length).map fun q=>[YA (KC l q)]))
def Ec (l:List aq):FV:=match qM l with
 | some i => .bd [.agg (ix 0 2 (nth l i).key [i] []), .bool true]
 | none => .bd [.agg (ix 0 0 0 [] []), .bool false]
theorem HH [Inhabited α] {p:α→Bool} {l:List α} (h:∀ i,i<j→p (nth l i)=false) (hj:j<l.length) (hp:p (nth l j)=true):l.find? p=some (nth l j):=by
 rw [ak hj] at hp ⊢;have:l=l.take j++l[j]::l.drop (j+1):=by rw [← BW hj,YR]
 rw [DC];refine ⟨hp,l.take j,l.drop (j+1),this,fun a ha=>?_⟩;obtain ⟨i,hi,rfl⟩:=zU ha;have dc:i<j:=by rw [zW] at hi;omega
 have:=h i dc;rw [ak za] at this;rw [Uj,this];rfl
theorem DL [Inhabited α] {p:α→Bool} {l:List α} (h:∀ i,i<l.length→p (nth l i)=false):l.find? p=none:=by
 rw [xq];intro x hx;obtain ⟨i,hi,rfl⟩:=zU hx;have:=h i hi;rw [ak hi] at this;simp [this]
theorem ztz (l:List aq) (hl:l.length≤1000) (aP:∀ o∈l,Ue o):xA Tryz.prog 20 [m4 l] .sh (Ec l):=by
 obtain ⟨F3,jS⟩:∃ F3,F3=FV.list 1 ((List.range l.length).map fun q=>[YA (KC l q)]):=⟨_,rfl⟩
 obtain ⟨I,hI⟩:∃ I,I=yB l l.length:=⟨_,rfl⟩
 have iC:=fun i hi=>QG l (.list 1 (I.map yx)) F3 rfl (by rw [jS];rfl) i hi za aP;have MU:I.length≤l.length:=by rw [hI];exact UB l l.length
 have qt:∀ j,j<I.length→nth I j<l.length:=fun j hj=>by have:=zu hj;rw [hI] at this ⊢;exact Xx this
 unfold m4;rw [← jS,← hI];obtain ⟨R,hR⟩:∃ R,Ec l=R:=⟨_,rfl⟩
 have rh:R.hand=none:=by rw [← hR];unfold Ec;split <;> rfl
 rw [hR];have bu:∀ j,j<I.length→(∀ i,i<j→tG l (nth I i)=false)→tG l (nth I j)=true→R=.bd [.agg (ix 0 2 (nth l (nth I j)).key [nth I j] []),.bool true]:=fun j h1 h2 h3=>by
  rw [← hR];unfold Ec qM;rw [← hI,HH h2 h1 h3]
 have bl:(∀ i,i<I.length→tG l (nth I i)=false)→R=.bd [.agg (ix 0 0 0 [] []),.bool false]:=fun h=>by
  rw [← hR];unfold Ec qM;rw [← hI,DL h]
 clear hR;refine xA.bH (c:=(fP Tryz.prog xp yF 51)) ⟨Tryz.func20,rfl,Tryz.ntmps20,by kernel_rfl⟩ (by simp [FV.hand,qk]) xt rh ?_;unfold qk at iC ⊢;change FW _ _ _ ⟨[(0,.ax 4 [[.list 8 (l.map aq.fv),.list 1 (I.map yx),.smap (Zq l l.length),F3]] 0 0)],[]⟩;refine zb ?_;refine FW.loop (fun j:Nat=>⟨[(0,.ax 4 [[.list 8 (l.map aq.fv),.list 1 (I.map yx),.smap (Zq l l.length),F3]] 0 0),(2,.ptr 102 0 0 0),(12,.list 1 (I.map yx)),(13,.int .i64 I.length),(14,.int .i64 j)],[(102,⟨0,.own,31,5,[[.int .i64 0,.int .i64 0,.int .i64 0,.nil,.nil]]⟩)]⟩) (fun j=>j≤I.length∧∀ i,i<j→tG l (nth I i)=false) (fun j=>I.length - j) 0 ⟨zp _,fun i hi=>absurd hi (ZH _)⟩ ?_ ?_
 ·exact (ar.cv [⟨102,some 2,0+1,⟨0,.own,31,5,[[.int .i64 0,.int .i64 0,.int .i64 0,.nil,.nil]]⟩⟩] zh zf)
 rintro j ⟨hj,dJ⟩;refine zb ?_;refine FW.cond rfl (fun h=>?_) (fun h=>?_)
 ·have cN:j<I.length:=by simpa using h
  clear h;have bu:=bu j cN dJ;have cD:tG l (nth I j)=false→∀ i,i<j+1→tG l (nth I i)=false:=fun h i hi=>by
   rcases Wg.1 hi with h'|rfl
   ·exact dJ i h'
   ·exact h
  have cy:=qt j cN;obtain ⟨i,hi⟩:∃ i,nth I j=i:=⟨_,rfl⟩
  rw [hi] at cy bu cD;have iC:=iC i cy;have wF:tG l i=(decide ((nth l i).k=0) && decide ((nth l i).res≠0) && (YF l i).isNone):=rfl;unfold D7 at iC;obtain ⟨o,ho⟩:∃ o,nth l i=o:=⟨_,rfl⟩
  rw [ho] at wF bu;generalize YF l i=C at iC wF;refine zb ?_;rw [hi];skip;rw [ho];skip;refine yP iC (by repeat (first|exact zH.nil|refine zH.cons zB ?_)) rfl rfl ?_;refine zb ?_;refine yR (fun h1=>?_) (fun h1=>?_)
  ·refine zb ?_;refine yR (fun h2=>?_) (fun h2=>?_)
   ·refine zb ?_;refine FW.cond rfl (fun h3=>?_) (fun h3=>?_)
    ·have re:C.isNone=true:=by cases C with|none=>rfl|some w=>cases h3
     rw [bu (by rw [wF,h1,h2,re];rfl)]
     (repeat (first|refine FW.seq ?_|refine FW.region ?_|refine zt.ai (zD rfl) rfl rfl ?_|refine zt.ai (Zl rfl rfl rfl rfl rfl rfl zd) rfl rfl ?_|refine zt.ai (xC rfl rfl rfl rfl rfl Zp rfl rfl rfl) rfl rfl ?_|refine zt.cL (Ye rfl rfl rfl rfl rfl rfl) rfl rfl ?_))
     refine zt.le ?_ (ar.share 46 rfl rfl rfl);refine zb ?_;exact FW.ret ⟨.inl rfl,.sh (.cons (yD rfl rfl rfl rfl rfl rfl zd) (.cons (.tmp 3 rfl rfl) .nil)) rfl rfl⟩
    ·have re:C.isNone=false:=by cases C with|none=>cases h3|some w=>rfl
     refine zb ?_;refine ⟨j+1,⟨by omega,cD ?_⟩,by omega,(ar.cv [⟨102,some 102,0,⟨0,.own,31,5,[[.int .i64 0,.int .i64 0,.int .i64 0,.nil,.nil]]⟩⟩] zh zf)⟩;rw [wF,re,Ls]
   ·refine zb ?_;refine ⟨j+1,⟨by omega,cD ?_⟩,by omega,(ar.cv [⟨102,some 102,0,⟨0,.own,31,5,[[.int .i64 0,.int .i64 0,.int .i64 0,.nil,.nil]]⟩⟩] zh zf)⟩;rw [wF,h2,Ls,Zo]
  ·refine zb ?_;refine ⟨j+1,⟨by omega,cD ?_⟩,by omega,(ar.cv [⟨102,some 102,0,⟨0,.own,31,5,[[.int .i64 0,.int .i64 0,.int .i64 0,.nil,.nil]]⟩⟩] zh zf)⟩;rw [wF,h1,Zo,Zo]
 ·have kr:j=I.length:=by simp at h;omega
  subst kr;rw [bl dJ];refine zb ?_;exact FW.ret ⟨.inl rfl,.sh (.cons (yD rfl rfl rfl rfl rfl rfl zd) (.cons (.tmp 3 rfl rfl) .nil)) rfl rfl⟩
end
theorem zq2:∀ (n:Nat) (out:List Int),(∀ v:Nat,v<n→(v:Int)∈out)→n≤out.length
 | 0, _, _ => zp _
 | n+1,out,h=>by
  have hn:=h n (Wh n);have:=zq2 n (out.erase (n:Int)) fun v hv=>by
   have hm:=h v za;exact (YO za).2 hm
  rw [Yt hn] at this;have:=Xp hn;omega
theorem zqZ (h:dV n E) (f:Nat→Nat) (hf:∀ e∈E,f e.1<f e.2):(Yj n E).length=n:=by
 obtain ⟨hh,hT⟩:=Po h (n+1) (Zb n E) (TI.start h) (by show n<0+(n+1);omega);have hle:=hT.le;have cR:∀ (m v:Nat),f v≤m→v<n→(v:Int)∈(xw E (n+1) (Zb n E)).out:=by
  intro m
  induction m with
  | zero=>
   intro v hv iu;refine ZS fun bl=>?_;have hc:nz n E (xw E (n+1) (Zb n E)).out v=0:=by
    refine BV.2 fun u hu q=>?_;simp only [zx,decide_eq_true_eq] at q;obtain ⟨e,he,h1,h2⟩:=ZL.1 q.2;have:=hf e he;have h3:e.2=v:=by omega
    rw [h3] at this;omega
   have:=(hT.hM (v:Int)).2 ⟨by omega,bl,by rw [zK,hT.cnt v iu,hc];rfl⟩;rw [hh] at this;cases this
  | succ m ih=>
   intro v hv iu;refine ZS fun bl=>?_;have hc:nz n E (xw E (n+1) (Zb n E)).out v=0:=by
    refine BV.2 fun u hu q=>?_;simp only [zx,decide_eq_true_eq] at q;obtain ⟨e,he,h1,h2⟩:=ZL.1 q.2;have h3:=hf e he;have h4:e.2=v:=by omega
    rw [h4] at h3;subst h1;exact q.1 (ih e.1 za (h e he).1)
   have:=(hT.hM (v:Int)).2 ⟨by omega,bl,by rw [zK,hT.cnt v iu,hc];rfl⟩;rw [hh] at this;cases this
 have:=zq2 n _ fun v hv=>cR (f v) v (zg _) hv;show (xw E (n+1) (Zb n E)).out.length=n;omega
theorem zvH (h:dV n E) (f:Nat→Nat) (hf:∀ e∈E,f e.1<f e.2):uS E n n []=some (Yj n E)∧(Yj n E).length=n:=by
 have hl:=zqZ h f hf;rw [zwx h,if_neg za];exact ⟨rfl,hl⟩
theorem ztJ {n:Nat} {E:List (Nat×Nat)} (f:Nat→Nat) (hf:∀ e∈E,f e.1<f e.2) {s:Nat}:∀ (k v:Nat),Wx n E s (k+1) v→f v<f s
 | 0, v, hx => by
  obtain ⟨e,he,h1,h2⟩:=ZL.1 (show (s:Int)∈zP E v from hx);have:=hf e he;rw [h1,show e.2=s by omega] at this;exact this
 | k+1, v, hx => by
  obtain ⟨w,_,hm,_,Dm⟩:=hx;obtain ⟨e,he,h1,h2⟩:=ZL.1 hm;have h3:=hf e he;rw [h1,show e.2=w by omega] at h3;have:=ztJ f hf k w Dm;omega
theorem zh5 (h:dV n E) (f:Nat→Nat) (hf:∀ e∈E,f e.1<f e.2):XA E n=[]:=by
 refine Pq n 1 fun l h1 h2=>Ks n 0 fun u _ hu=>?_;obtain ⟨l,rfl⟩:∃ l',l=l'+1:=⟨l - 1,by omega⟩
 refine ZS fun aN=>?_;have:=ztJ f hf l u ((VE h za l u za).1 aN);omega
inductive Tg (n:Nat) (E:List (Nat×Nat)) (lo:Nat):Nat→Nat→Prop where
 | one {u v:Nat} (h:(v:Int) ∈ zP E u):Tg n E lo u v
 | more {u w v:Nat} (h:(w:Int) ∈ zP E u) (hw:w<n) (hl:lo ≤ w) (hr:Tg n E lo w v):Tg n E lo u v
theorem Tg.trans {lo a b c:Nat} (h:Tg n E lo a b) (hb:b<n) (hl:lo≤b) (k:Tg n E lo b c):Tg n E lo a c:=by
 induction h with
 | one h => exact .more h hb hl k
 | more h hw hlw _ ih => exact .more h hw hlw (ih hb hl k)
theorem Tg.split {lo:Nat} (h:Tg n E lo u v):Tg n E (lo+1) u v∨(Tg n E (lo+1) u lo∧Tg n E (lo+1) lo v):=by
 induction h with
 | one h => exact .inl (.one h)
 | @more u w v h hw hl hr ih=>
  by_cases e:w=lo
  ·subst e;rcases ih with ih|ih
   ·exact .inr ⟨.one h,ih⟩
   ·exact .inr ⟨.one h,ih.2⟩
  ·rcases ih with ih|ih
   ·exact .inl (.more h hw za ih)
   ·exact .inr ⟨.more h hw za ih.1,ih.2⟩
theorem Tg.wx (h:Tg n E (s+1) u v) (hv:v=s):∃ L,Wx n E s (L+1) u:=by
 induction h with
 | one h => subst hv; exact ⟨0, h⟩
 | more h hw hl _ ih =>
  obtain ⟨L,hL⟩:=ih hv;exact ⟨L+1,_,hw,h,by omega,hL⟩
theorem zkR {n:Nat} {E:List (Nat×Nat)}:∀ (k lo u:Nat),n≤lo+k→lo≤u→u<n→Tg n E lo u u→∃ s,s<n∧∃ L,Wx n E s (L+1) s
 | 0, lo, u, hk, hl, hu, _ => by omega
 | k+1,lo,u,hk,hl,hu,h=>by
  have gA:lo<n:=by omega
  rcases h.split with h1|⟨h1,h2⟩
  ·by_cases e:u=lo
   ·subst e;exact ⟨u,hu,h1.wx rfl⟩
   ·exact zkR k (lo+1) u za za hu h1
  ·by_cases e:u=lo
   ·subst e;exact ⟨u,hu,h1.wx rfl⟩
   ·exact ⟨lo,gA,(h2.trans hu za h1).wx rfl⟩
theorem zw2 (h:dV n E) (hu:u<n) (ht:Tg n E 0 u u):XA E n≠[]:=by
 obtain ⟨s,hs,L,hx⟩:=zkR n 0 u za (zp _) hu ht;rw [← Lo h];intro he;have hl:=ziG h hs hx;rcases Ln h n (zg n) with ⟨_,hz⟩|⟨s0,K,_,_,e,_,_⟩
 ·have h0:Yi (yK n E s) s (zP E s)=0:=hz s hs;omega
 ·have iX : lS n E n=[]:=he;rw [iX] at e;cases e
def zvi (n:Nat) (E:List (Nat×Nat)) (out:List Int):Prop:=∀ j,j<out.length→∀ u:Nat,u<n→nth out j∈zP E u→(u:Int)∈out.take j
theorem zhm {n:Nat} {E:List (Nat×Nat)} (h:dV n E):∀ (k:Nat) (s:lQ),TI n E s→zvi n E s.out→zvi n E (xw E k s).out
 | 0, s, _, hb => hb
 | k+1,s,hT,hb=>by
  unfold xw;split
  ·exact hb
  ·rename_i h0;refine zhm h k _ (hT.step h h0) ?_;obtain ⟨q,hq⟩:∃ q,s.h.length=q+1:=⟨s.h.length - 1,by have:=Uk.2 h0;omega⟩
   obtain ⟨v,hv,iu,JU,kV,_,_,_,_⟩:=hT.first hq;have rT:(ZY E s).out=s.out++[(v:Int)]:=by
    unfold ZY;dsimp only;rw [show s.h.length - 1=q by omega,hv]
   rw [rT];intro j hj u hu hm;simp at hj;by_cases cN:j<s.out.length
   ·rw [xQ cN] at hm;rw [YS za];exact hb j cN u hu hm
   ·obtain rfl:j=s.out.length:=by omega
    rw [ZA] at hm;rw [YS (zg _),yy];have hc:=hT.cnt v iu;have h0:nz n E s.out v=0:=by omega
    have:=BV.1 h0 u (zn.2 hu);simp only [zx,decide_eq_true_eq,not_and] at this;exact ZS fun bl=>this bl hm
structure Ord (n:Nat) (E:List (Nat×Nat)) (out:List Int):Prop where
 len:out.length=n
 nd:out.Nodup
 cW:∀ v∈out,0≤v∧v<n
 fwd:∀ e∈E,∀ i j,i<n→j<n→nth out i=(e.1:Int)→nth out j=(e.2:Int)→i<j
theorem zvd (h:dV n E) (hl:(Yj n E).length=n):Ord n E (Yj n E):=by
 obtain ⟨_,hT⟩:=Po h (n+1) (Zb n E) (TI.start h) (by show n<0+(n+1);omega);have hb:=zhm h (n+1) (Zb n E) (TI.start h) (fun j hj=>by cases hj);refine ⟨hl,hT.si,hT.uQ,fun e he i j hi hj e1 e2=>?_⟩;have bn : (xw E (n+1) (Zb n E)).out.length=n:=hl;have hm:=hb j za e.1 (h e he).1 (by
  have pg : nth (xw E (n+1) (Zb n E)).out j=(e.2:Int):=e2;rw [pg];exact ZL.2 ⟨e,he,rfl,rfl⟩)
 obtain ⟨q,hq,wA⟩:=zU hm;rw [Uj] at wA;rw [zW] at hq;have lv : nth (xw E (n+1) (Zb n E)).out i=(e.1:Int):=e1;rw [ak za] at lv;have hiq:i=q:=(WI hT.si).1 (lv.trans wA.symm);omega
theorem zkU {α:Type} {p q:α→Bool} {x:α} (h1:q x=true) (h2:p x=false):∀ {l:List α},(∀ y∈l,p y=true→q y=true)→x∈l→l.countP p<l.countP q
 | [], _, hx => by cases hx
 | y::l,h,hx=>by
  rw [Xd,Xd];have hm:l.countP p≤l.countP q:=List.countP_mono_left fun z hz=>h z (xW _ hz);by_cases GU:x∈l
  ·have:=zkU h1 h2 (fun z hz=>h z (xW _ hz)) GU;have hy:=h y zc;by_cases hp:p y=true
   ·rw [if_pos hp,if_pos (hy hp)];omega
   ·rw [if_neg hp];split <;> omega
  ·have rZ:x=y:=by
    rcases zA.1 hx with e|e
    ·exact e
    ·exact absurd e GU
   subst rZ;rw [if_neg (by rw [h2];decide),if_pos h1];omega
section
variable {n:Nat} {E:List (Nat×Nat)} (h:dV n E)
include h
open Classical in
theorem zno (hc:XA E n=[]):∃ f:Nat→Nat,∀ e∈E,f e.1<f e.2:=by
 refine ⟨fun v=>(List.range n).countP fun u=>decide (Tg n E 0 u v),fun e he=>?_⟩;have aP:=h e he;have hm:((e.2:Nat):Int)∈zP E e.1:=ZL.2 ⟨e,he,rfl,rfl⟩;refine zkU (x:=e.1) ?_ ?_ (fun y hy hp=>?_) (zn.2 aP.1)
 ·exact decide_eq_true (.one hm)
 ·exact decide_eq_false fun ht=>zw2 h aP.1 ht hc
 ·exact decide_eq_true ((of_decide_eq_true hp).trans aP.1 (zp _) (.one hm))
theorem Px (hc:XA E n=[]):uS E n n []=some (Yj n E)∧Ord n E (Yj n E):=by
 obtain ⟨f,hf⟩:=zno h hc;obtain ⟨h1,h2⟩:=zvH h f hf;exact ⟨h1,zvd h h2⟩
theorem zmn {s:Nat} (hs:s<n):∀ (k v:Nat),v<n→Way E (yK n E s) s k v→(k=0→(s:Int)∈zP E v)→
  ∀ i,i≤k→(0≤nth ((v:Int)::VJ E (yK n E s) s k v) i∧nth ((v:Int)::VJ E (yK n E s) s k v) i<n)∧(if i=k then (s:Int) else nth ((v:Int)::VJ E (yK n E s) s k v) (i+1))∈zP E (nth ((v:Int)::VJ E (yK n E s) s k v) i).toNat
 | 0,v,hv,_,h0,i,hi=>by
  obtain rfl:i=0:=by omega
  rw [if_pos rfl];refine ⟨⟨?_,?_⟩,?_⟩
  ·show (0:Int)≤(v:Int);omega
  ·show (v:Int)<n;omega
  ·show (s:Int)∈zP E ((v:Int)).toNat;rw [zK];exact h0 rfl
 | k+1,v,hv,hw,_,i,hi=>by
  rcases hw with h0|⟨w,hw,hp⟩
  ·omega
  obtain ⟨j,hj,e,hq⟩:=Ps hw hp;have aP:=Zh h (zu hj);have aO:Xm E (yK n E s) s (k+1:Nat) v=(nth (zP E v) j).toNat:=by unfold Xm;rw [e];rfl
  obtain ⟨_,_,_,_,_,hW⟩:=Way.step h hs (.inr ⟨w,hw,hp⟩);unfold ou at hq;rw [decide_eq_true_eq] at hq;have OP:Xm E (yK n E s) s (k+1:Nat) v<n:=by rw [aO];omega
  have hu:((Xm E (yK n E s) s (k+1:Nat) v:Nat):Int)∈zP E v:=by
   rw [aO,show (((nth (zP E v) j).toNat:Nat):Int)=nth (zP E v) j by omega];exact zu hj
  have ih:=zmn hs k _ OP hW fun hk=>by
   subst hk;have:=(LM h hs 0 (Xm E (yK n E s) s (0+1:Nat) v) OP (by rw [aO];exact hq.2)).2;exact this
  cases i with
  | zero=>
   refine ⟨⟨?_,?_⟩,?_⟩
   ·show (0:Int)≤(v:Int);omega
   ·show (v:Int)<n;omega
   ·rw [if_neg za];show ((Xm E (yK n E s) s (k+1:Nat) v:Nat):Int)∈zP E ((v:Int)).toNat;rw [zK];exact hu
  | succ i=>
   have:=ih i za;by_cases dS:i=k
   ·rw [if_pos dS] at this;rw [if_pos za];exact this
   ·rw [if_neg dS] at this;rw [if_neg za];exact this
theorem zro (hc:XA E n≠[]):∀ i,i<(XA E n).length→∃ a b:Nat,nth (XA E n) i=a∧nth (XA E n) ((i+1) % (XA E n).length)=b∧(a,b)∈E:=by
 have hg:XA E n=lS n E n:=(Lo h).symm;rcases Ln h n (zg n) with ⟨e,_⟩|⟨s0,K,h1,h2,e,_,_⟩
 ·exact absurd (hg.trans e) hc
 rw [hg,e];intro i hi;have hlen:((s0:Int)::VJ E (yK n E s0) s0 K s0).length=K+1:=by rw [yS,K6]
 rw [hlen] at hi ⊢;obtain ⟨k,hk,_,hW⟩:=J9 h h1 (show Yi (yK n E s0) s0 (zP E s0)≠0 by have:Yi (yK n E s0) s0 (zP E s0)=_:=h2;omega);have hkK:k=K:=by have:Yi (yK n E s0) s0 (zP E s0)=_:=h2;omega
 subst hkK;obtain ⟨⟨c1,c2⟩,c3⟩:=zmn h h1 k s0 h1 hW (fun h0=>by subst h0;exact zje h h1 (L:=0) h2) i za;have hc3:nth ((s0:Int)::VJ E (yK n E s0) s0 k s0) ((i+1) % (k+1))∈zP E (nth ((s0:Int)::VJ E (yK n E s0) s0 k s0) i).toNat:=by
  by_cases dS:i=k
  ·subst dS;rw [if_pos rfl] at c3;rw [Nat.mod_self];exact c3
  ·rw [if_neg dS] at c3;rw [KM za];exact c3
 obtain ⟨q,hq,q1,q2⟩:=ZL.1 hc3;refine ⟨q.1,q.2,by omega,q2.symm,hq⟩
end
section
open Go.RowKit
theorem Y7 {K:Nat→Option (List (Nat×Nat))} {B:Nat}:∀ {i n:Nat},i≤n→(∀ a L,a<n→K a=some L→L.length≤B)→(Zr K i).length≤B * i
 | 0, _, _, _ => zg _
 | i+1, n, h, hK => by
  rw [Pm,zN,zj,Nat.mul_succ];have h1:=Y7 (i:=i) (n:=n) za hK;cases hk:K i with
  | none => simp; omega
  | some L => have := hK i L za hk; simp; omega
theorem zuk (l:List aq) (q:Nat):(kE l q).length≤l.length:=
 Ki (n:=l.length) (RH l q) fun ⟨_,_⟩ hp=>Xx (H6 hp).1
theorem zrv (l:List aq):(gL l).length≤l.length * l.length:=Y7 (zg _) fun a L _ h=>by
 unfold KC at h;split at h
 ·injection h with h;rw [← h];exact zuk l a
 ·cases h
theorem dV.mem {E' : List (Nat×Nat)} (h:dV n E) (hm:∀ e,e∈E'↔e∈E):dV n E':=fun e he=>h e ((hm e).1 he)
theorem uY (l:List aq):dV l.length (gL l):=zvt l
theorem zmR (l:List aq) (hl:l.length≤14):xA Tryz.prog 42 [.int .i64 l.length,.perm 2 ((gL l).map bZ)] .sh (.list 1 ((XA (gL l) l.length).map zJ)):=by
 refine xA.perm (pre:=[.int .i64 l.length]) (post:=[]) fun ba hp=>?_;obtain ⟨P,hP,rfl⟩:=zoL hp;have hm:∀ e,e∈P↔e∈gL l:=fun e=>hP.mem_iff;rw [← X6 hm];have h1:=zrv l;have h2:=YT hl hl;exact zmS l.length P hl (by rw [hP.length_eq];omega) ((uY l).mem hm)
def iz (l:List aq):List Int:=XA (gL l) l.length
def SA (l:List aq):FV:=.bd [.agg [.int .i64 0,.int .i64 6,.int .i64 0,.nil,.list 3 ((qb l (iz l) (iz l).length).map dF.fv)],.bool (decide (((iz l).length:Int) > 0))]
theorem zua (l:List aq):(iz l).length≤l.length:=by
 unfold iz;rw [← Lo (uY l)];exact Q5 (uY l) (zg _)
theorem Mf {a b:Nat} (h:(a,b)∈gL l):KC l a=some (kE l a):=by unfold KC;rw [if_pos (LN.1 h).1]
theorem zmT (l:List aq) (hl:l.length≤14):xA Tryz.prog 21 [m4 l] .sh (SA l):=by
 have et:=zgT (.list 8 (l.map aq.fv)) (.smap (Zq l l.length)) (.list 1 ((yB l l.length).map yx)) (KC l) l.length za (G3 l za);have AV:=zmR l hl;have ch:=zua l;have hce:iz l≠[]→∀ i,i<(iz l).length→∃ a b:Nat,nth (iz l) i=a∧nth (iz l) ((i+1) % (iz l).length)=b∧(a,b)∈gL l:=zro (uY l);rw [show XA (gL l) l.length=iz l from rfl] at AV;unfold m4 SA;change xA _ _ [.ax 4 [[.list 8 (l.map aq.fv),.list 1 ((yB l l.length).map yx),.smap (Zq l l.length),.list 1 ((List.range l.length).map fun q=>[YA (KC l q)])]] 0 0] _ _;obtain ⟨f1,qw⟩:∃ f1,f1=FV.list 1 ((yB l l.length).map yx):=⟨_,rfl⟩
 obtain ⟨r2,fb⟩:∃ r2,r2=FV.smap (Zq l l.length):=⟨_,rfl⟩
 have aI:∀ i,i<l.length→(List.map (fun q=>[YA (KC l q)]) (List.range l.length)).getD i []=[YA (KC l i)]:=fun i hi=>by rw [yz,xR l.length i _ hi];rfl
 obtain ⟨C,hC⟩:∃ C,C=List.map (fun q=>[YA (KC l q)]) (List.range l.length):=⟨_,rfl⟩
 have iV:C.length=l.length:=by rw [hC];simp
 rw [← qw,← fb,← hC] at et ⊢;rw [← hC] at aI;obtain ⟨c,hc⟩:∃ c,iz l=c:=⟨_,rfl⟩
 rw [hc] at AV ch hce ⊢;have mq:=G3 l (show l.length≤1000 by omega);clear qw fb;refine ym 57 Tryz.func21 Tryz.ntmps21 rfl ?_;change FW _ _ _ ⟨[(0,.ax 4 [[.list 8 (l.map aq.fv),f1,r2,.list 1 C]] 0 0)],[]⟩;refine Zf ?_;refine LA et (by repeat (first|exact zH.nil|refine zH.cons zB ?_)) rfl rfl ?_;skip;refine LA AV (by repeat (first|exact zH.nil|refine zH.cons zB ?_)) rfl rfl ?_;refine yH ?_;refine ⟨by kernel_rfl,?_⟩;refine zb ?_;refine FW.le ?_ (ar.wR (i:=5) rfl);refine FW.loop (fun i:Nat=>⟨[(0,.ax 4 [[.list 8 (l.map aq.fv),f1,r2,.list 1 C]] 0 0),(2,.ptr 102 0 0 0),(4,.list 1 (c.map zJ)),(5,.ptr 103 0 0 0),(18,.list 1 (c.map zJ)),(19,.int .i64 c.length),(20,.int .i64 i)],[(102,⟨0,.own,31,5,[[.int .i64 0,.int .i64 0,.int .i64 0,.nil,.nil]]⟩),(103,⟨0,.aj,31,5,[[.int .i64 0,.int .i64 6,.int .i64 0,.nil,.own 105 0 0 (qb l c i).length]]⟩),(105,⟨0,.own,71,3,(qb l c i).map dF.fv⟩)]⟩) (fun i=>i≤c.length) (fun i=>c.length - i) 0 (zp _) ?_ ?_
 ·exact (ar.cv [⟨102,some 2,0+1,⟨0,.own,31,5,[[.int .i64 0,.int .i64 0,.int .i64 0,.nil,.nil]]⟩⟩,⟨103,some 5,0+1,⟨0,.aj,31,5,[[.int .i64 0,.int .i64 6,.int .i64 0,.nil,.own 105 0 0 0]]⟩⟩,⟨105,none,0,⟨0,.own,71,3,[]⟩⟩] zh zf)
 intro q hq;have bk:qb l c (q+1)=qb l c q++[((nth c q).toNat,(nth c ((q+1) % c.length)).toNat,IY l (nth c q).toNat (nth c ((q+1) % c.length)).toNat)]:=by
  unfold qb;rw [yQ,zF];rfl
 have hcq:(qb l c q).length=q:=by simp [qb]
 have Nr:q=c.length→qb l c c.length=qb l c q:=fun e=>by rw [e]
 have hce:=fun h=>hce h q;generalize qb l c q=CC at bk hcq Nr ⊢;refine zb ?_;refine FW.cond rfl (fun h=>?_) (fun h=>?_)
 ·have aA:q<c.length:=by simpa using h
  clear h Nr;obtain ⟨x,y,hx,hy,rZ⟩:=hce (fun e=>by rw [e] at aA;simp at aA) aA;obtain ⟨nX,OZ⟩:=zvt l _ rZ;dsimp only at nX OZ;obtain ⟨m,hm⟩:∃ m,(q+1) % c.length=m:=⟨_,rfl⟩
  have iZ:m<c.length:=by rw [← hm];exact Xr _ za
  rw [hm] at hy bk;rw [hx,hy,zK,zK] at bk;have JC:=aI x nX;rw [Mf rZ] at JC;have MZ:=mq.cW x _ nX (Mf rZ);have MY:=mq.oT x _ nX (Mf rZ);have Jp:∀ p∈kE l x,p.1<1000:=fun p hp=>by have:=MZ p hp;omega
  have fS:=VL (kE l x) y;have Bg:IY l x y=(dW (kE l x) y).getD 0:=by unfold IY vD;rw [Mf rZ];rfl
  rw [Bg] at bk;have Db:(dW (kE l x) y).getD 0≤1000:=by
   cases ha:dW (kE l x) y with
   | none => exact zp _
   | some q => exact MY _ (UX ha)
  obtain ⟨z,hz⟩:∃ z,(dW (kE l x) y).getD 0=z:=⟨_,rfl⟩
  rw [hz] at fS Db bk;refine zb ?_;rw [show (q+1) % ((c.length:Int)).natAbs=m by rw [Int.natAbs_natCast];exact hm];refine zb ?_;rw [hy,hx];refine Zf ?_;refine Hu rfl rfl rfl rfl rfl rfl rfl ?_;refine yH ?_;refine zR.ai (yX rfl rfl rfl (by rw [iV];exact nX) JC rfl rfl) rfl rfl ?_;refine yH ?_;refine QA (e:=3) YJ (UW Jp) (WB (by unfold bU;omega)) fS rfl rfl rfl rfl rfl rfl rfl ?_;refine yH ?_;refine zqs (d:=0) rfl rfl ⟨_,_,_,rfl⟩ (yI rfl zd) (fun i v n e=>by injection e with e1 e2 e3 e4;subst e1;subst e2;exact yI rfl zd) rfl rfl rfl rfl (by show 4<5;decide) rfl rfl ?_;refine zR.nil ⟨by kernel_rfl,?_⟩;refine zb ?_;refine ⟨q+1,by omega,by omega,?_⟩;rw [bk,show (CC++[(x,y,z)]).length=CC.length+1 by simp,zF];exact (ar.cv [⟨102,some 102,0,⟨0,.own,31,5,[[.int .i64 0,.int .i64 0,.int .i64 0,.nil,.nil]]⟩⟩,⟨103,some 103,0,⟨0,.aj,31,5,[[.int .i64 0,.int .i64 6,.int .i64 0,.nil,.own 105 0 0 (CC.length+1)]]⟩⟩,⟨105,some 49,0+1,⟨0,.own,71,3,CC.map dF.fv++[(x,y,z)].map dF.fv⟩⟩] zh zf)
 ·have wA:q=c.length:=by simp at h;omega
  rw [Nr wA];refine FW.le ?_ (ar.Ao (q:=5) (r:=[.int .i64 0,.int .i64 6,.int .i64 0,.nil,.own 105 0 0 CC.length]) (r2:=[.int .i64 0,.int .i64 6,.int .i64 0,.nil,.list 3 (CC.map dF.fv)]) (es:=CC.map dF.fv) 103 105 4 zd rfl rfl (by rw [zj];rfl) rfl rfl rfl);refine zb ?_;exact FW.ret ⟨.inl rfl,.sh (.cons (yD rfl rfl rfl rfl rfl rfl zd) (.cons (.tmp 3 rfl rfl) .nil)) rfl rfl⟩
theorem zsE {sz:Nat} {es:List (List FV)} (h:es≠[]):CH sz es=.list sz es:=by
 cases es with
 | nil => exact absurd rfl h
 | cons e es => rfl
theorem R7 {x:Nat}:eP l x y≠[]↔qE (gL l) y l.length x≠[]:=by
 unfold eP qE;cases qq (gL l) y l.length x with
 | none => simp [XI]
 | some k =>
  rw [← Uk,← Uk,J8,LK];simp
theorem Rz {x:Nat}:(eP l x y).length≤l.length:=by
 unfold eP;rw [J8];unfold qE;cases h:qq (gL l) y l.length x with
 | none => simp
 | some k => have := (HN h).1; rw [LK]; omega
theorem zoP {x:Nat}:(!(eP l x y).isEmpty)=true↔eP l x y≠[]:=by
 cases eP l x y <;> simp
theorem Pl {β:Type} [Inhabited α] {p:α→Option β} {l:List α} {r:β} (h:∀ i,i<j→p (nth l i)=none) (hj:j<l.length) (hp:p (nth l j)=some r):l.findSome? p=some r:=by
 rw [ak hj] at hp;have:l=l.take j++l[j]::l.drop (j+1):=by rw [← BW hj,YR]
 rw [this,List.findSome?_append,List.findSome?_cons,hp];have h0:(l.take j).findSome? p=none:=by
  rw [B0];intro a ha;obtain ⟨i,hi,rfl⟩:=zU ha;have dc:i<j:=by rw [zW] at hi;omega
  have:=h i dc;rw [ak za] at this;rw [Uj];exact this
 rw [h0];rfl
theorem Pt {β:Type} [Inhabited α] {p:α→Option β} {l:List α} (h:∀ i,i<l.length→p (nth l i)=none):l.findSome? p=none:=by
 rw [B0];intro x hx;obtain ⟨i,hi,rfl⟩:=zU hx;have:=h i hi;rw [ak hi] at this;exact this
def Ee (l:List aq):FV:=match qL l with
 | some (w1, w2, i) => .bd [.agg (ix 0 7 (nth l w2).key [w1, w2, i] (eP l w1 w2 ++ eP l w2 i)), .bool true]
 | none => .bd [.agg (ix 0 0 0 [] []), .bool false]
theorem zsK (l:List aq) (hl:l.length≤1000) (aP:∀ o∈l,Ue o):xA Tryz.prog 22 [m4 l] .sh (Ee l):=by
 have mq:=G3 l hl;have iC:=fun i hi=>QG l (.list 1 ((yB l l.length).map yx)) (.list 1 ((List.range l.length).map fun q=>[YA (KC l q)])) rfl rfl i hi za aP;have lB:=fun t0 ht=>zh9 l (.smap (Zq l l.length)) (.list 1 ((yB l l.length).map yx)) (KC l) l.length t0 rfl hl (fun i L hi hk=>⟨mq.len i L hi hk,mq.cW i L hi hk⟩) ht;have wz:=fun x y hx hy rZ=>zlT l (.smap (Zq l l.length)) (.list 1 ((yB l l.length).map yx)) (KC l) l.length x y rfl hl mq hx hy rZ;obtain ⟨I,hI⟩:∃ I,I=yB l l.length:=⟨_,rfl⟩
 have MU:I.length≤l.length:=by rw [hI];exact UB l l.length
 have qt:∀ j,j<I.length→nth I j<l.length:=fun j hj=>by have:=zu hj;rw [hI] at this ⊢;exact Xx this
 obtain ⟨R,hR⟩:∃ R,Ee l=R:=⟨_,rfl⟩
 have rh:R.hand=none:=by rw [← hR];unfold Ee;split <;> rfl
 have bu:∀ j w1 m,j<I.length→(∀ i,i<j→VV l (nth I i)=none)→YF l (nth I j)=some w1→m<I.length→(∀ i,i<m→tQ l (nth I j) w1 (nth I i)=false)→tQ l (nth I j) w1 (nth I m)=true→R=.bd [.agg (ix 0 7 (nth l (nth I m)).key [w1,nth I m,nth I j] (eP l w1 (nth I m)++eP l (nth I m) (nth I j))),.bool true]:=fun j w1 m h1 h2 h3 h4 h5 h6=>by
  have h7:VV l (nth I j)=some (w1,nth I m,nth I j):=by
   unfold VV;rw [h3];show ((yB l l.length).find? _).map _=_;rw [← hI,HH h5 h4 h6];rfl
  rw [← hR];unfold Ee qL;rw [← hI,Pl h2 h1 h7]
 have bl:(∀ i,i<I.length→VV l (nth I i)=none)→R=.bd [.agg (ix 0 0 0 [] []),.bool false]:=fun h=>by
  rw [← hR];unfold Ee qL;rw [← hI,Pt h]
 have gy:∀ i,YF l i=none→VV l i=none:=fun i h=>by unfold VV;rw [h];rfl
 have gR:∀ i w1,YF l i=some w1→(∀ m,m<I.length→tQ l i w1 (nth I m)=false)→VV l i=none:=fun i w1 h h2=>by
  unfold VV;rw [h];show ((yB l l.length).find? _).map _=_;rw [← hI,DL h2];rfl
 rw [hR];clear hR;unfold m4;rw [← hI] at iC lB wz ⊢;obtain ⟨r2,fb⟩:∃ r2,r2=FV.smap (Zq l l.length):=⟨_,rfl⟩
 obtain ⟨C,hC⟩:∃ C,C=List.map (fun q=>[YA (KC l q)]) (List.range l.length):=⟨_,rfl⟩
 unfold qk at iC ⊢;rw [← fb,← hC] at iC lB wz ⊢;clear fb hC;refine ym 106 Tryz.func22 Tryz.ntmps22 rh ?_;change FW _ _ _ ⟨[(0,.ax 4 [[.list 8 (l.map aq.fv),.list 1 (I.map yx),r2,.list 1 C]] 0 0)],[]⟩;refine zb ?_;refine FW.loop (fun j:Nat=>⟨[(0,.ax 4 [[.list 8 (l.map aq.fv),.list 1 (I.map yx),r2,.list 1 C]] 0 0),(2,.ptr 102 0 0 0),(18,.list 1 (I.map yx)),(19,.int .i64 I.length),(20,.int .i64 j)],[(102,⟨0,.own,31,5,[[.int .i64 0,.int .i64 0,.int .i64 0,.nil,.nil]]⟩)]⟩) (fun j=>j≤I.length∧∀ i,i<j→VV l (nth I i)=none) (fun j=>I.length - j) 0 ⟨zp _,fun i hi=>absurd hi (ZH _)⟩ ?_ ?_
 ·exact (ar.cv [⟨102,some 2,0+1,⟨0,.own,31,5,[[.int .i64 0,.int .i64 0,.int .i64 0,.nil,.nil]]⟩⟩] zh zf)
 rintro j ⟨hj,dJ⟩;refine zb ?_;refine FW.cond rfl (fun h=>?_) (fun h=>?_)
 ·have cN:j<I.length:=by simpa using h
  clear h;have bu:=fun w1 m=>bu j w1 m cN dJ;have cD:VV l (nth I j)=none→∀ i,i<j+1→VV l (nth I i)=none:=fun h i hi=>by
   rcases Wg.1 hi with h'|rfl
   ·exact dJ i h'
   ·exact h
  have cy:=qt j cN;obtain ⟨i,hi⟩:∃ i,nth I j=i:=⟨_,rfl⟩
  rw [hi] at cy bu cD;have iC:=iC i cy;unfold D7 at iC;have gy:=gy i;have gR:=gR i;have ND:=fun w=>H9 (l:=l) (i:=i) (w:=w);refine zb ?_;rw [hi];skip;cases kq:YF l i with
  | none =>
   rw [kq] at iC;refine yP iC (by repeat (first|exact zH.nil|refine zH.cons zB ?_)) rfl rfl ?_;refine zb ?_;refine ⟨j+1,⟨by omega,cD (gy kq)⟩,by omega,?_⟩;exact (ar.cv [⟨102,some 102,0,⟨0,.own,31,5,[[.int .i64 0,.int .i64 0,.int .i64 0,.nil,.nil]]⟩⟩] zh zf)
  | some w1 =>
  obtain ⟨OU,dS,_,_,_⟩:=ND w1 kq;have gR:=gR w1 kq;have bu:=fun m=>bu w1 m kq;rw [kq] at iC;refine yP iC (by repeat (first|exact zH.nil|refine zH.cons zB ?_)) rfl rfl ?_;refine zb ?_;refine Yq (lB i cy) [] rfl zQ.nil rfl rfl rfl rfl rfl rfl ?_;rintro _ _ ⟨A,hA,rfl⟩;refine ZQ.one [] (.smap (A.map Yd)) rfl rfl ?_;have ph:∀ p∈A,p.1<1000:=fun p hp=>xx (hA.cW p hp).1 hl;refine zb ?_;refine FW.loop (fun m:Nat=>⟨[(0,.ax 4 [[.list 8 (l.map aq.fv),.list 1 (I.map yx),r2,.list 1 C]] 0 0),(2,.ptr 102 0 0 0),(18,.list 1 (I.map yx)),(19,.int .i64 I.length),(20,.int .i64 j),(5,.int .i64 i),(6,.int .i64 w1),(8,.smap (A.map Yd)),(38,.list 1 (I.map yx)),(39,.int .i64 I.length),(40,.int .i64 m)],[(102,⟨0,.own,31,5,[[.int .i64 0,.int .i64 0,.int .i64 0,.nil,.nil]]⟩)]⟩) (fun m=>m≤I.length∧∀ q,q<m→tQ l i w1 (nth I q)=false) (fun m=>I.length - m) 0 ⟨zp _,fun i hi=>absurd hi (ZH _)⟩ ?_ ?_
  ·exact (ar.cv [⟨102,some 102,0,⟨0,.own,31,5,[[.int .i64 0,.int .i64 0,.int .i64 0,.nil,.nil]]⟩⟩] zh zf)
  rintro m ⟨hm,jx⟩;refine zb ?_;refine FW.cond rfl (fun h=>?_) (fun h=>?_)
  ·have iZ:m<I.length:=by simpa using h
   clear h;have bu:=bu m iZ jx;have dQ:tQ l i w1 (nth I m)=false→∀ q,q<m+1→tQ l i w1 (nth I q)=false:=fun h q hq=>by
    rcases Wg.1 hq with h'|rfl
    ·exact jx q h'
    ·exact h
   have pO:=qt m iZ;obtain ⟨w2,ew⟩:∃ w2,nth I m=w2:=⟨_,rfl⟩
   rw [ew] at pO bu dQ;have aR:tQ l i w1 w2=(decide ((nth l w2).k=1) && decide ((nth l w2).key=(nth l i).key) && decide (w2≠w1) && !(eP l w1 w2).isEmpty && !(eP l w2 i).isEmpty):=rfl;obtain ⟨o,ho⟩:∃ o,nth l w2=o:=⟨_,rfl⟩
   obtain ⟨oi,jb⟩:∃ oi,nth l i=oi:=⟨_,rfl⟩
   have dp:=VL A w2;rw [ho,jb] at aR;rw [jb] at dS;rw [ho] at bu;have lz:o.k=1→((dW A w2).isSome=true↔eP l w2 i≠[]):=fun hk=>by
    have aN:w2≠i:=fun e=>by rw [e,jb] at ho;rw [← ho] at hk;omega
    rw [R7];exact (hA.sk aN).symm
   obtain ⟨bf,kO⟩:∃ bf,(dW A w2).isSome=bf:=⟨_,rfl⟩
   obtain ⟨dv,qv⟩:∃ dv,(dW A w2).getD 0=dv:=⟨_,rfl⟩
   rw [kO,qv] at dp;rw [kO] at lz;refine zb ?_;rw [ew];skip;rw [ho];skip;refine Wt (e:=3) YJ (UW ph) (WB (by unfold bU;omega)) dp rfl rfl rfl rfl rfl rfl rfl ?_;cases bf with
   | false=>
    refine Zf ?_;refine ⟨by kernel_rfl,?_⟩;refine zb ?_;refine ⟨m+1,⟨by omega,dQ ?_⟩,by omega,(ar.cv [⟨102,some 102,0,⟨0,.own,31,5,[[.int .i64 0,.int .i64 0,.int .i64 0,.nil,.nil]]⟩⟩] zh zf)⟩;rw [aR];by_cases dI:o.k=1
    ·have h0:(!(eP l w2 i).isEmpty)=false:=by
      cases hq:!(eP l w2 i).isEmpty with
      | false => rfl
      | true => have := (lz dI).2 (zoP.1 hq); cases this
     rw [h0,Ls]
    ·rw [decide_eq_false dI];simp
   | true =>
   refine Zf ?_;refine Cg (fun h1=>?_) (fun h1=>?_)
   ·refine yH ?_;refine ⟨by kernel_rfl,?_⟩;refine zb ?_;refine ⟨m+1,⟨by omega,dQ ?_⟩,by omega,(ar.cv [⟨102,some 102,0,⟨0,.own,31,5,[[.int .i64 0,.int .i64 0,.int .i64 0,.nil,.nil]]⟩⟩] zh zf)⟩;rw [aR,decide_eq_false (by simpa using h1)];simp
   have dI:o.k=1:=by simpa using h1
   refine yH ?_;rw [jb];skip;refine Cg (fun h2=>?_) (fun h2=>?_)
   ·refine yH ?_;refine ⟨by kernel_rfl,?_⟩;refine zb ?_;refine ⟨m+1,⟨by omega,dQ ?_⟩,by omega,(ar.cv [⟨102,some 102,0,⟨0,.own,31,5,[[.int .i64 0,.int .i64 0,.int .i64 0,.nil,.nil]]⟩⟩] zh zf)⟩;rw [aR,decide_eq_false (show ¬ o.key=oi.key by simpa using h2)];simp
   have FL:o.key=oi.key:=by simpa using h2
   refine yH ?_;refine ⟨by kernel_rfl,?_⟩;refine FW.cond rfl (fun h3=>?_) (fun h3=>?_)
   ·have h3:w2=w1:=by simp at h3;omega
    refine zb ?_;refine ⟨m+1,⟨by omega,dQ ?_⟩,by omega,(ar.cv [⟨102,some 102,0,⟨0,.own,31,5,[[.int .i64 0,.int .i64 0,.int .i64 0,.nil,.nil]]⟩⟩] zh zf)⟩;rw [aR,decide_eq_false (show ¬ w2≠w1 by simpa using h3)];simp
   have aN:w2≠w1:=fun e=>by rw [e] at h3;simp at h3
   have jd:w2≠i:=fun e=>by rw [e,jb] at ho;rw [← ho] at dI;omega
   have Oq:=(lz dI).1 rfl;rw [decide_eq_true dI,decide_eq_true FL,decide_eq_true aN,zoP.2 Oq] at aR;have M7:=wz w1 w2 OU pO (fun e=>aN e.symm);have AF:=xA.mO (wz w2 i pO cy jd);have qA:=Rz (l:=l) (x:=w1) (y:=w2);have bA:=Rz (l:=l) (x:=w2) (y:=i);rw [show Aj (KC l) l.length w1 w2=eP l w1 w2 from rfl] at M7;rw [show Aj (KC l) l.length w2 i=eP l w2 i from rfl] at AF;generalize eP l w1 w2=X1 at M7 qA aR bu;generalize eP l w2 i=X2 at AF bA Oq bu;refine zb ?_;refine Yr M7 (by repeat (first|exact zH.nil|refine zH.cons zB ?_)) (zj _) rfl rfl rfl ?_;refine zb ?_;refine FW.cond rfl (fun h4=>?_) (fun h4=>?_)
   ·have uo:X1≠[]:=fun e=>by rw [e] at h4;simp at h4
    rw [bu (by rw [aR];cases X1 with|nil=>exact absurd rfl uo|cons e X=>rfl)]
    (repeat (first|refine FW.seq ?_|refine FW.draw ?_|refine zR.ai (zD rfl) rfl rfl ?_|refine zR.ai (Zl rfl rfl rfl rfl rfl rfl zd) rfl rfl ?_|refine zR.ai (xC rfl rfl rfl rfl rfl Zp rfl rfl rfl) rfl rfl ?_))
    refine zqr (es:=[yx w1,yx w2,yx i]) rfl rfl rfl (by refine Xi.int rfl rfl ?_;refine Xi.int rfl rfl ?_;refine Xi.int rfl rfl ?_;exact Xi.nil) rfl rfl rfl rfl rfl ?_
    (repeat (first|refine zR.ai (zD rfl) rfl rfl ?_))
    refine LA AF (by repeat (first|exact zH.nil|refine zH.cons zB ?_)) rfl rfl ?_;refine zuT rfl rfl (zj _).symm rfl rfl rfl zd (WE.list rfl) zM zM rfl rfl rfl ?_;refine yH ?_;refine ⟨by kernel_rfl,?_⟩;skip;refine FW.ret ⟨.inl rfl,.sh (.cons (yD rfl rfl rfl rfl rfl rfl zd) (.cons (.tmp 3 rfl rfl) .nil)) ?_ rfl⟩;have AJ:(X1++X2).map dF.fv≠[]:=fun e=>uo (List.append_eq_nil_iff.1 (Qm.1 e)).1;unfold ix;rw [zsE AJ,zF];rfl
   ·have uo:X1=[]:=by cases X1 with|nil=>rfl|cons e X=>simp at h4
    refine zb ?_;refine ⟨m+1,⟨by omega,dQ ?_⟩,by omega,(ar.cv [⟨102,some 102,0,⟨0,.own,31,5,[[.int .i64 0,.int .i64 0,.int .i64 0,.nil,.nil]]⟩⟩] zh zf)⟩;rw [aR,uo];rfl
  ·have F7:m=I.length:=by simp at h;omega
   subst F7;refine zb ?_;refine ⟨j+1,⟨by omega,cD (gR jx)⟩,by omega,?_⟩;exact (ar.cv [⟨102,some 102,0,⟨0,.own,31,5,[[.int .i64 0,.int .i64 0,.int .i64 0,.nil,.nil]]⟩⟩] zh zf)
 ·have kr:j=I.length:=by simp at h;omega
  subst kr;rw [bl dJ];refine zb ?_;exact FW.ret ⟨.inl rfl,.sh (.cons (yD rfl rfl rfl rfl rfl rfl zd) (.cons (.tmp 3 rfl rfl) .nil)) rfl rfl⟩
def D6 (l:List aq):FV:=match qI l with
 | some (w, i) => .bd [.agg (ix 0 8 (nth l w).key [w, i] (eP l w i)), .bool true]
 | none => .bd [.agg (ix 0 0 0 [] []), .bool false]
theorem zsf (l:List aq) (hl:l.length≤1000) (aP:∀ o∈l,Ue o):xA Tryz.prog 23 [m4 l] .sh (D6 l):=by
 have mq:=G3 l hl;have wz:=fun x y hx hy rZ=>zlT l (.smap (Zq l l.length)) (.list 1 ((yB l l.length).map yx)) (KC l) l.length x y rfl hl mq hx hy rZ;obtain ⟨I,hI⟩:∃ I,I=yB l l.length:=⟨_,rfl⟩
 have MU:I.length≤l.length:=by rw [hI];exact UB l l.length
 have qt:∀ j,j<I.length→nth I j<l.length:=fun j hj=>by have:=zu hj;rw [hI] at this ⊢;exact Xx this
 obtain ⟨R,hR⟩:∃ R,D6 l=R:=⟨_,rfl⟩
 have rh:R.hand=none:=by rw [← hR];unfold D6;split <;> rfl
 have bu:∀ j m,j<I.length→(∀ i,i<j→VU l (nth I i)=none)→(nth l (nth I j)).k=0→(nth l (nth I j)).res=0→m<I.length→(∀ i,i<m→tN l (nth I j) (nth I i)=false)→tN l (nth I j) (nth I m)=true→R=.bd [.agg (ix 0 8 (nth l (nth I m)).key [nth I m,nth I j] (eP l (nth I m) (nth I j))),.bool true]:=fun j m h1 h2 h3 h8 h4 h5 h6=>by
  have h7:VU l (nth I j)=some (nth I m,nth I j):=by
   unfold VU;rw [if_neg (by simp [h3,h8]),← hI,HH h5 h4 h6];rfl
  rw [← hR];unfold D6 qI;rw [← hI,Pl h2 h1 h7]
 have bl:(∀ i,i<I.length→VU l (nth I i)=none)→R=.bd [.agg (ix 0 0 0 [] []),.bool false]:=fun h=>by
  rw [← hR];unfold D6 qI;rw [← hI,Pt h]
 have gy:∀ i,(nth l i).k≠0∨(nth l i).res≠0→VU l i=none:=fun i h=>by unfold VU;rw [if_pos h]
 have gR:∀ i,(∀ m,m<I.length→tN l i (nth I m)=false)→VU l i=none:=fun i h2=>by
  unfold VU;split
  ·rfl
  ·rw [← hI,DL h2];rfl
 rw [hR];clear hR;unfold m4;rw [← hI] at wz ⊢;obtain ⟨r2,fb⟩:∃ r2,r2=FV.smap (Zq l l.length):=⟨_,rfl⟩
 obtain ⟨C,hC⟩:∃ C,C=List.map (fun q=>[YA (KC l q)]) (List.range l.length):=⟨_,rfl⟩
 unfold qk;rw [← fb,← hC] at wz ⊢;clear fb hC;refine ym 91 Tryz.func23 Tryz.ntmps23 rh ?_;change FW _ _ _ ⟨[(0,.ax 4 [[.list 8 (l.map aq.fv),.list 1 (I.map yx),r2,.list 1 C]] 0 0)],[]⟩;refine zb ?_;refine FW.loop (fun j:Nat=>⟨[(0,.ax 4 [[.list 8 (l.map aq.fv),.list 1 (I.map yx),r2,.list 1 C]] 0 0),(2,.ptr 102 0 0 0),(14,.list 1 (I.map yx)),(15,.int .i64 I.length),(16,.int .i64 j)],[(102,⟨0,.own,31,5,[[.int .i64 0,.int .i64 0,.int .i64 0,.nil,.nil]]⟩)]⟩) (fun j=>j≤I.length∧∀ i,i<j→VU l (nth I i)=none) (fun j=>I.length - j) 0 ⟨zp _,fun i hi=>absurd hi (ZH _)⟩ ?_ ?_
 ·exact (ar.cv [⟨102,some 2,0+1,⟨0,.own,31,5,[[.int .i64 0,.int .i64 0,.int .i64 0,.nil,.nil]]⟩⟩] zh zf)
 rintro j ⟨hj,dJ⟩;refine zb ?_;refine FW.cond rfl (fun h=>?_) (fun h=>?_)
 ·have cN:j<I.length:=by simpa using h
  clear h;have bu:=fun m=>bu j m cN dJ;have cD:VU l (nth I j)=none→∀ i,i<j+1→VU l (nth I i)=none:=fun h i hi=>by
   rcases Wg.1 hi with h'|rfl
   ·exact dJ i h'
   ·exact h
  have cy:=qt j cN;obtain ⟨i,hi⟩:∃ i,nth I j=i:=⟨_,rfl⟩
  rw [hi] at cy bu cD;have gy:=gy i;have gR:=gR i;obtain ⟨oi,jb⟩:∃ oi,nth l i=oi:=⟨_,rfl⟩
  rw [jb] at bu gy;refine zb ?_;rw [hi];skip;rw [jb];skip;refine yR (fun h1=>?_) (fun h1=>?_)
  ·refine zb ?_;refine ⟨j+1,⟨by omega,cD (gy (.inl (by simpa using h1)))⟩,by omega,?_⟩;exact (ar.cv [⟨102,some 102,0,⟨0,.own,31,5,[[.int .i64 0,.int .i64 0,.int .i64 0,.nil,.nil]]⟩⟩] zh zf)
  have dS:oi.k=0:=by simpa using h1
  refine zb ?_;refine FW.cond rfl (fun h2=>?_) (fun h2=>?_)
  ·refine zb ?_;refine ⟨j+1,⟨by omega,cD (gy (.inr (by simpa using h2)))⟩,by omega,?_⟩;exact (ar.cv [⟨102,some 102,0,⟨0,.own,31,5,[[.int .i64 0,.int .i64 0,.int .i64 0,.nil,.nil]]⟩⟩] zh zf)
  have C7:oi.res=0:=by simpa using h2
  have bu:=fun m=>bu m dS C7;refine zb ?_;refine FW.loop (fun m:Nat=>⟨[(0,.ax 4 [[.list 8 (l.map aq.fv),.list 1 (I.map yx),r2,.list 1 C]] 0 0),(2,.ptr 102 0 0 0),(14,.list 1 (I.map yx)),(15,.int .i64 I.length),(16,.int .i64 j),(5,.int .i64 i),(38,.list 1 (I.map yx)),(39,.int .i64 I.length),(40,.int .i64 m)],[(102,⟨0,.own,31,5,[[.int .i64 0,.int .i64 0,.int .i64 0,.nil,.nil]]⟩)]⟩) (fun m=>m≤I.length∧∀ q,q<m→tN l i (nth I q)=false) (fun m=>I.length - m) 0 ⟨zp _,fun i hi=>absurd hi (ZH _)⟩ ?_ ?_
  ·exact (ar.cv [⟨102,some 102,0,⟨0,.own,31,5,[[.int .i64 0,.int .i64 0,.int .i64 0,.nil,.nil]]⟩⟩] zh zf)
  rintro m ⟨hm,jx⟩;refine zb ?_;refine FW.cond rfl (fun h=>?_) (fun h=>?_)
  ·have iZ:m<I.length:=by simpa using h
   clear h;have bu:=bu m iZ jx;have dQ:tN l i (nth I m)=false→∀ q,q<m+1→tN l i (nth I q)=false:=fun h q hq=>by
    rcases Wg.1 hq with h'|rfl
    ·exact jx q h'
    ·exact h
   have pO:=qt m iZ;obtain ⟨w2,ew⟩:∃ w2,nth I m=w2:=⟨_,rfl⟩
   rw [ew] at pO bu dQ;have aR:tN l i w2=(decide ((nth l w2).k=1) && decide ((nth l w2).key=(nth l i).key) && !(eP l w2 i).isEmpty):=rfl;obtain ⟨o,ho⟩:∃ o,nth l w2=o:=⟨_,rfl⟩
   rw [ho,jb] at aR;rw [ho] at bu;refine zb ?_;rw [ew];skip;rw [ho];refine Zf ?_;refine Cg (fun h1=>?_) (fun h1=>?_)
   ·refine yH ?_;refine ⟨by kernel_rfl,?_⟩;refine zb ?_;refine ⟨m+1,⟨by omega,dQ ?_⟩,by omega,(ar.cv [⟨102,some 102,0,⟨0,.own,31,5,[[.int .i64 0,.int .i64 0,.int .i64 0,.nil,.nil]]⟩⟩] zh zf)⟩;rw [aR,decide_eq_false (by simpa using h1)];simp
   have dI:o.k=1:=by simpa using h1
   refine yH ?_;rw [jb];skip;refine ⟨by kernel_rfl,?_⟩;refine FW.cond rfl (fun h3=>?_) (fun h3=>?_)
   ·refine zb ?_;refine ⟨m+1,⟨by omega,dQ ?_⟩,by omega,(ar.cv [⟨102,some 102,0,⟨0,.own,31,5,[[.int .i64 0,.int .i64 0,.int .i64 0,.nil,.nil]]⟩⟩] zh zf)⟩;rw [aR,decide_eq_false (show ¬ o.key=oi.key by simpa using h3)];simp
   have FL:o.key=oi.key:=by simpa using h3
   have jd:w2≠i:=fun e=>by rw [e,jb] at ho;rw [← ho] at dI;omega
   rw [decide_eq_true dI,decide_eq_true FL] at aR;have AF:=xA.mO (wz w2 i pO cy jd);have bA:=Rz (l:=l) (x:=w2) (y:=i);rw [show Aj (KC l) l.length w2 i=eP l w2 i from rfl] at AF;generalize eP l w2 i=X2 at AF bA aR bu;refine zb ?_;refine Zg AF (by repeat (first|exact zH.nil|refine zH.cons zB ?_)) rfl rfl ?_;refine zb ?_;refine FW.cond rfl (fun h4=>?_) (fun h4=>?_)
   ·have uo:X2≠[]:=fun e=>by rw [e] at h4;simp at h4
    rw [bu (by rw [aR];cases X2 with|nil=>exact absurd rfl uo|cons e X=>rfl)]
    (repeat (first|refine FW.seq ?_|refine FW.region ?_|refine zt.ai (zD rfl) rfl rfl ?_|refine zt.ai (wY rfl) rfl rfl ?_|refine zt.ai (Xw rfl rfl rfl rfl rfl) rfl rfl ?_|refine zt.ai (yX rfl rfl rfl DN Vh rfl rfl) rfl rfl ?_|refine zt.ai (Yc rfl rfl rfl rfl rfl rfl DN) rfl rfl ?_))
    rw [ho];skip;refine UK (es:=[yx w2,yx i]) rfl rfl rfl (by refine Xi.int rfl rfl ?_;refine Xi.int rfl rfl ?_;exact Xi.nil) rfl rfl rfl rfl rfl ?_;refine zb ?_;refine FW.ret ⟨.inl rfl,.sh (.cons (yD rfl rfl rfl rfl rfl rfl zd) (.cons (.tmp 3 rfl rfl) .nil)) ?_ rfl⟩;have AJ:X2.map dF.fv≠[]:=fun e=>uo (Qm.1 e);unfold ix;rw [zsE AJ];rfl
   ·have uo:X2=[]:=by cases X2 with|nil=>rfl|cons e X=>simp at h4
    refine zb ?_;refine ⟨m+1,⟨by omega,dQ ?_⟩,by omega,(ar.cv [⟨102,some 102,0,⟨0,.own,31,5,[[.int .i64 0,.int .i64 0,.int .i64 0,.nil,.nil]]⟩⟩] zh zf)⟩;rw [aR,uo];rfl
  ·have F7:m=I.length:=by simp at h;omega
   subst F7;refine zb ?_;refine ⟨j+1,⟨by omega,cD (gR jx)⟩,by omega,?_⟩;exact (ar.cv [⟨102,some 102,0,⟨0,.own,31,5,[[.int .i64 0,.int .i64 0,.int .i64 0,.nil,.nil]]⟩⟩] zh zf)
 ·have kr:j=I.length:=by simp at h;omega
  subst kr;rw [bl dJ];refine zb ?_;exact FW.ret ⟨.inl rfl,.sh (.cons (yD rfl rfl rfl rfl rfl rfl zd) (.cons (.tmp 3 rfl rfl) .nil)) rfl rfl⟩
section
variable {c:Ctx} {ops:Array Oper} {rest:List Oper} {t:List (Nat×FV)} {ob:List (Nat×zE)} {d:Nat} {ty:TypeId} {pos:String} {af:Array Edge} {gd:Option (Nat×Bool)} {Q:ah→Prop}
end
def Sh (P:Program) (T:Nat):Bool:=
 match P.underlying T with
 | some (.map _ _) => true
 | _ => false
section
variable {c:Ctx} {ops:Array Oper} {rest:List Oper} {t:List (Nat×FV)} {ob:List (Nat×zE)} {d:Nat} {ty:TypeId} {pos:String} {af:Array Edge} {gd:Option (Nat×Bool)} {Q:ah→Prop}
theorem zup {w0 w:World} {s:ah} (hF:FR c.N w0 J s a w β) {xs:Array Operand} {aH:List FV} (hx:xs.toList.map s.ev=aH) (hc:∀ g∈aH,g.hand=none) {ty:TypeId} {pos:String} :
  ZO c w0 J s a ⟨dst,.makeFunc (.func f) xs #[],ty,pos,after,g⟩ w (.jQ f aH) []:=by
 have hl:aS w (aF J w β s) (xs.toList.map a.eval) aH:=by
  subst hx;refine ⟨by simp,fun j u q hu hq=>?_⟩;rw [ye] at hu hq;cases oR:xs.toList[j]? with
  | none => rw [oR] at hu; cases hu
  | some y =>
   rw [oR] at hu hq;simp only [Za,yw] at hu hq;subst hu;subst hq;exact VR.rd (hF.ev y) (hc _ (zi.2 ⟨y,zG oR,rfl⟩))
 have hv:(xs.toList.map a.eval).toArray=xs.map a.eval:=by apply xU;simp
 exact .rd hF (v:=.func (.func f) (xs.map a.eval) #[]) (by simp [execOp,Instr.makeFunc]) (by rw [← hv];exact .jQ f _ _ hl.1 hl.2) rfl
theorem L7 {g:FV} (hx:(⟨t,ob⟩:ah).ev x=g) (hg:g.hand=none) (hd:Nat.blt d c.N=true) (hw:ZB ops ⟨t,ob⟩ (⟨some d,.makeFunc (.func f) #[x] #[],ty,pos,af,gd⟩:Oper) true)
  (k:zt c ops rest ⟨(d,.jQ f [g])::t,ob⟩ Q):zt c ops ((⟨some d,.makeFunc (.func f) #[x] #[],ty,pos,af,gd⟩:Oper)::rest) ⟨t,ob⟩ Q:=
 Ci (wr:=[]) hd hw (fun w0 J a w β hF=>zup hF (by simp [hx]) (by simp [hg])) k
theorem LC {aH:List FV} {res:FV} {ts:Array TypeId} (hx:(⟨t,ob⟩:ah).ev x=.jQ f aH) (hs:xA c.P f aH .sh res) (hd:Nat.blt d c.N=true) (hw:ZB ops ⟨t,ob⟩ (⟨some d,.call { callee:=.value x,args:=#[],argTypes:=ts },ty,pos,af,gd⟩:Oper) true)
  (k:zt c ops rest ⟨(d,res)::t,ob⟩ Q):zt c ops ((⟨some d,.call { callee:=.value x,args:=#[],argTypes:=ts },ty,pos,af,gd⟩:Oper)::rest) ⟨t,ob⟩ Q:=fun QQ w0 J a w β hQ hF=>by
 unfold wpList;rw [if_pos (hw.model hF)];refine .inl ?_;have hv:=VR.rd (by have:=hF.ev x;rwa [hx] at this) rfl;generalize GS:a.eval x=v at hv;cases hv with
 | jQ f us fs im iq=>
  have hc:=hs.calls w (aF J w β ⟨t,ob⟩) us (fun b hb=>hb.1) ⟨im,iq⟩;unfold Oper.wp;have bg:(execOp a.eval ⟨some d,.call { callee:=.value x,args:=#[],argTypes:=ts },ty,pos,af,gd⟩).run c.P w=.ok (.enter f us.toArray) w:=by
   have:=xh (P:=c.P) hs.go us.toArray w;simp [execOp,resolve,GS,Deferred.ofValue,invoke,this]
  rw [bg,Oper.upon_enter];refine hc.mono ?_;rintro e w' ⟨v,rfl,hb,hr⟩;have hG:=hF.grow hb;have gC:Rd w' (aF J w' β ⟨t,ob⟩) v res:=by
   refine Rd.mono (fun b cb=>?_) hr;rcases cb with h1|h1
   ·exact ⟨(aF.grow h1 hb).1,rfl⟩
   ·refine ⟨⟨h1.2,hF.fresh b (yc hF.bB.size h1.1) (.inl h1.1),fun id hl e=>?_⟩,rfl⟩;have:=((hF.obj id (Zn.bc hl)).lt e).2;omega
  exact k QQ w0 J _ _ β hQ (hG.put (zO hd) (VR.aX gC hs.hand) (fun id ae e=>(FV.aV hs.hand e).elim))
def FV.oa:FV→Option Bool
 | .bR => some true
 | .smap _ => some false
 | _ => none
theorem znb {w0 w:World} {s:ah} (h:FR c.N w0 J s a w β) {T T2:Nat} (hp:Sh c.P T=true) (x:Operand) {f:FV} (ex:s.ev x=f) (hb:f.oa=some b) :
  ZO c w0 J s a ⟨dst,.binOp .eql T x (.const (.map none)) T2,ty,pos,after,g⟩ w (.bool b) []:=by
 have AZ:f.hand=none:=by cases f <;> first|rfl|(cases hb;done)
 have hr:=h.bY ex AZ;generalize hx:a.eval x=v at hr;have hv:∃ q:Option Nat,v=.map q∧b=q.isNone:=by
  cases hr <;> first|(cases hb;done)|(injection hb with hb;exact ⟨_,rfl,hb.symm⟩)
 obtain ⟨q,rfl,rfl⟩:=hv;unfold Sh at hp;cases hu:c.P.underlying T with
 | none => rw [hu] at hp; cases hp
 | some dd=>
  rw [hu] at hp;cases dd <;> first|(cases hp;done)|skip
  have e2:a.eval (.const (.map none))=.map none:=rfl;refine .rd h (v:=.bool q.isNone) ?_ (.bool _) rfl;have heq:(Op.equalIn Op.maxDepth T (.map q) (.map none)).run c.P w=.ok q.isNone w:=by
   show (Op.equalIn (9999+1) T (.map q) (.map none)).run c.P w=_;unfold Op.equalIn;cases q <;> simp [run_underlying hu]
  simp [execOp,hx,e2,eqGuard,binOp,Op.equal,heq]
theorem ztd {T T2:Nat} {f:FV} (hx:(⟨t,ob⟩:ah).ev x=f) (hb:f.oa=some b) (hp:Sh c.P T=true) (hd:Nat.blt d c.N=true) (hw:ZB ops ⟨t,ob⟩ (⟨some d,.binOp .eql T x (.const (.map none)) T2,ty,pos,af,gd⟩:Oper) true)
  (k:zt c ops rest ⟨(d,.bool b)::t,ob⟩ Q):zt c ops ((⟨some d,.binOp .eql T x (.const (.map none)) T2,ty,pos,af,gd⟩:Oper)::rest) ⟨t,ob⟩ Q:=
 Ci (wr:=[]) hd hw (fun w0 J a w β hF=>znb hF hp x hx hb) k
end
theorem zqH (n:Nat) (E:List (Nat×Nat)) (hn:n≤300) (hE:E.length≤100000) (aP:dV n E) (Tr:(Yj n E).length=n):xN Tryz.prog 24 [.int .i64 n,.list 2 (E.map bZ)] [] [4000] (fun res o=>res=.wrap .bd [.own 4000 1 0 n,.bool true]∧o 4000=⟨1,.own,3,1,(Yj n E).map zJ⟩):=by
 refine xN.bH (c:=(fP Tryz.prog xp yF 104)) ⟨Tryz.func24,rfl,Tryz.ntmps24,by kernel_rfl⟩ xt ?_ ?_
 ·rintro res o ⟨rfl,h⟩;exact ⟨(fun k hk=>by cases hk),(fun k hk=>by obtain rfl:=zq.1 hk;rw [h];exact ⟨HF,fun _=>rfl⟩),(fun k hk=>by obtain rfl:=zq.1 hk;rw [h];rfl),rfl⟩
 change FW _ _ _ ⟨[(0,.int .i64 n),(1,.list 2 (E.map bZ))],[]⟩;have bK:=xK n E;have Di:=fun v (hv:v<n)=>WW E hv;refine zb ?_;refine Zg (VA n E za za aP) (by repeat (first|exact zH.nil|refine zH.cons zB ?_)) rfl rfl ?_;rw [RD];refine zb ?_;rw [show List.replicate n [FV.int .i64 0]=(List.replicate n 0).map zJ by rw [Wc];rfl];refine FW.loop (fun i:Nat=>⟨[(0,.int .i64 n),(6,.list 1 ((yG n E).map fe)),(7,.own 100 0 0 n),(26,.list 1 ((yG n E).map fe)),(27,.int .i64 n),(28,.int .i64 i)],[(100,⟨0,.own,3,1,(UI n E i).map zJ⟩)]⟩) (fun i=>i≤n) (fun i=>n - i) 0 (zp _) ?_ ?_
 ·rw [bK,show UI n E 0=List.replicate n 0 from rfl];obtain ⟨z,hz⟩:∃ z,(List.replicate n (0:Int)).map zJ=z:=⟨_,rfl⟩
  rw [hz];exact (ar.cv [⟨100,some 25,0+1,⟨0,.own,3,1,z⟩⟩] zh zf)
 intro i hi;obtain ⟨iZ,F4⟩:=znk aP i;refine zb ?_;refine FW.cond rfl (fun h=>?_) (fun h=>?_)
 ·have aA:i<n:=by simpa using h
  clear h;have nc:=HL E i;have TQ:=znl n E aA;refine zb ?_;rw [Di i aA];skip;generalize UI n E i=M at iZ F4 TQ;refine FW.loop (fun j:Nat=>⟨[(0,.int .i64 n),(6,.list 1 ((yG n E).map fe)),(7,.own 100 0 0 n),(26,.list 1 ((yG n E).map fe)),(27,.int .i64 n),(28,.int .i64 i),(32,.list 1 ((zP E i).map zJ)),(33,.int .i64 (zP E i).length),(34,.int .i64 j)],[(100,⟨0,.own,3,1,(((zP E i).take j).foldl kG M).map zJ⟩)]⟩) (fun j=>j≤(zP E i).length) (fun j=>(zP E i).length - j) 0 (zp _) ?_ ?_
  ·show ar _ ⟨[(0,.int .i64 n),(6,.list 1 ((yG n E).map fe)),(7,.own 100 0 0 n),(26,.list 1 ((yG n E).map fe)),(27,.int .i64 n),(28,.int .i64 i),(32,.list 1 ((zP E i).map zJ)),(33,.int .i64 (zP E i).length),(34,.int .i64 0)],[(100,⟨0,.own,3,1,M.map zJ⟩)]⟩;exact (ar.cv [⟨100,some 100,0,⟨0,.own,3,1,M.map zJ⟩⟩] zh zf)
  intro j hj;refine zb ?_;refine FW.cond rfl (fun h=>?_) (fun h=>?_)
  ·have eM:j<(zP E i).length:=by simpa using h
   clear h;obtain ⟨w,hw⟩:∃ w:Nat,nth (zP E i) j=w:=⟨(nth (zP E i) j).toNat,by have:=(Zh aP (zu eM)).1;omega⟩
   have pP:w<n:=by have:=(Zh aP (zu eM)).2;omega
   have aO:((zP E i).take (j+1)).foldl kG M=(((zP E i).take j).foldl kG M).set w (nth (((zP E i).take j).foldl kG M) w+1):=by
    rw [xe eM,ZU,← ak eM,hw];rfl
   have sZ:0≤nth (((zP E i).take j).foldl kG M) w∧nth (((zP E i).take j).foldl kG M) w≤n+1:=by
    rw [QP (n:=n) (List.Nodup.sublist (HC _ _) (VB E i)) (fun q hq=>Zh aP (xn hq)) iZ w pP];have:=F4 w pP;split <;> omega
   have lH:(((zP E i).take j).foldl kG M).length=n:=by rw [QO];exact iZ
   obtain ⟨Z,hZ⟩:∃ Z,((zP E i).take j).foldl kG M=Z:=⟨_,rfl⟩
   rw [hZ] at aO sZ lH ⊢;refine zb ?_;rw [hw,zK];refine zb ?_;rw [show (zJ (nth Z w)).set 0 (.int .i64 (nth Z w+1))=zJ (nth Z w+1) from rfl,← xc,← aO];skip;refine ⟨j+1,by omega,by omega,?_⟩;obtain ⟨Y,hY⟩:∃ Y,(((zP E i).take (j+1)).foldl kG M).map zJ=Y:=⟨_,rfl⟩
   rw [hY];exact (ar.cv [⟨100,some 100,0,⟨0,.own,3,1,Y⟩⟩] zh zf)
  ·obtain rfl:j=(zP E i).length:=by simp at h;omega
   clear h hj;rw [yy,← TQ];refine zb ?_;refine ⟨i+1,by omega,by omega,?_⟩;exact (ar.cv [⟨100,some 100,0,⟨0,.own,3,1,(UI n E (i+1)).map zJ⟩⟩] zh zf)
 ·obtain rfl:i=n:=by simp at h;omega
  clear h hi iZ F4;rw [zqb];obtain ⟨iZ,Bk⟩:=ziH aP;have Tv:∀ w,nz i E [] w≤i:=fun w=>by
   have:nz i E [] w≤(List.range i).length:=XS;rwa [YN] at this
  refine zb ?_;refine zwm (f:=.own 46 (0+1) 0 0) rfl (.inr (.inl ⟨_,_,_,_,rfl,⟨by show Zn.own≠.dead;decide,rfl⟩⟩)) rfl rfl rfl ?_;refine zl5 rfl rfl rfl rfl rfl ?_;refine zb ?_;obtain ⟨n,eT⟩:∃ n,i=n:=⟨_,rfl⟩
  subst eT;generalize Tb:tP i E=M at iZ Bk;obtain ⟨n,eT⟩:∃ n,n=i:=⟨_,rfl⟩
  subst eT;refine FW.loop (fun k:Nat=>⟨[(0,.int .i64 n),(6,.list 1 ((yG n E).map fe)),(7,.own 100 0 0 n),(12,.ptr 110 0 0 0),(13,.wrap (.fn 46) [.ptr 110 0 0 0]),(49,.own 100 0 0 n),(50,.int .i64 n),(51,.int .i64 k)],[(100,⟨0,.own,3,1,M.map zJ⟩),(110,⟨0,.aj,107,1,[[.ptr 111 0 0 0]]⟩),(111,⟨0,.aj,108,1,[[.own 112 0 0 (XB M k).length]]⟩),(112,⟨0,.own,3,1,(XB M k).map zJ⟩)]⟩) (fun k=>k≤n) (fun k=>n - k) 0 (zp _) ?_ ?_
  ·show ar _ ⟨[(0,.int .i64 n),(6,.list 1 ((yG n E).map fe)),(7,.own 100 0 0 n),(12,.ptr 110 0 0 0),(13,.wrap (.fn 46) [.ptr 110 0 0 0]),(49,.own 100 0 0 n),(50,.int .i64 n),(51,.int .i64 0)],[(100,⟨0,.own,3,1,M.map zJ⟩),(110,⟨0,.aj,107,1,[[.ptr 111 0 0 0]]⟩),(111,⟨0,.aj,108,1,[[.own 112 0 0 0]]⟩),(112,⟨0,.own,3,1,[]⟩)]⟩;exact (ar.cv [⟨100,some 100,0,⟨0,.own,3,1,M.map zJ⟩⟩,⟨110,some 12,0+1,⟨0,.aj,107,1,[[.ptr 111 0 0 0]]⟩⟩,⟨111,some 47,0+1,⟨0,.aj,108,1,[[.own 112 0 0 0]]⟩⟩,⟨112,some 46,0+1,⟨0,.own,3,1,[]⟩⟩] zh zf)
  intro k hk;refine zb ?_;refine FW.cond rfl (fun h=>?_) (fun h=>?_)
  ·have aA:k<n:=by simpa using h
   clear h;have F8:=Bk k aA;have oI:=Tv k;have jc:XB M (k+1)=if nth M k=0 then mT (XB M k) k else XB M k:=by
    unfold XB;rw [yQ,ZU];rfl
   have bK:(XB M k).length≤k:=UJ (Ka M k).2.1 fun x hx=>(((Ka M k).2.2 x).1 hx).1;obtain ⟨H,hH⟩:∃ H,XB M k=H:=⟨_,rfl⟩
   rw [hH] at jc bK ⊢;refine zb ?_;refine FW.cond rfl (fun h=>?_) (fun h=>?_)
   ·rw [if_pos (by simpa using h)] at jc;refine zb ?_;refine zl7 rfl (zhl 0 0 0 H k za) [(5002,110),(5000,111),(5001,112)] rfl (zQ.cons rfl rfl rfl (zQ.cons rfl rfl rfl (zQ.cons rfl rfl rfl zQ.nil))) rfl rfl rfl rfl rfl rfl ?_;rintro _ aM ⟨rfl,h2,h0,h1⟩;refine ZQ.one [(110,⟨0,.aj,107,1,[[.ptr 111 0 0 0]]⟩),(111,⟨0,.aj,108,1,[[.own 112 (0+1) 0 (H.length+1)]]⟩),(112,⟨0+1,.own,3,1,(mT H k).map zJ⟩)] (.bd []) rfl (by show [(110,zE.ren _ (look {} aM 5002)),(111,zE.ren _ (look {} aM 5000)),(112,zE.ren _ (look {} aM 5001))]=_;rw [h2,h0,h1];rfl) ?_;clear h2 h0 h1 aM;refine zb ?_;refine ⟨k+1,by omega,by omega,?_⟩;rw [jc];have gB:=QN H k;generalize mT H k=Y at gB;rw [gB];exact (ar.cv [⟨100,some 100,0,⟨0,.own,3,1,M.map zJ⟩⟩,⟨110,some 110,0,⟨0,.aj,107,1,[[.ptr 111 0 0 0]]⟩⟩,⟨111,some 111,0,⟨0,.aj,108,1,[[.own 112 0 0 (H.length+1)]]⟩⟩,⟨112,some 112,0+1,⟨0,.own,3,1,Y.map zJ⟩⟩] zh zf)
   ·rw [if_neg (by simpa using h)] at jc;refine zb ?_;refine ⟨k+1,by omega,by omega,?_⟩;rw [jc];exact (ar.cv [⟨100,some 100,0,⟨0,.own,3,1,M.map zJ⟩⟩,⟨110,some 110,0,⟨0,.aj,107,1,[[.ptr 111 0 0 0]]⟩⟩,⟨111,some 111,0,⟨0,.aj,108,1,[[.own 112 0 0 H.length]]⟩⟩,⟨112,some 112,0,⟨0,.own,3,1,H.map zJ⟩⟩] zh zf)
  ·obtain rfl:k=n:=by simp at h;omega
   clear h hk;have sY:=TI.start aP;have aO:Zb k E=⟨M,XB M k,[]⟩:=by unfold Zb;rw [Tb]
   have eY:(xw E (k+1) (Zb k E)).out=Yj k E:=rfl;rw [aO] at sY eY;refine zb ?_;obtain ⟨n,eT⟩:∃ n,n=k:=⟨_,rfl⟩
   subst eT;generalize XB M n=H at sY eY;clear Tb aO Tv Bk iZ;refine FW.loop (fun s:lQ=>⟨[(0,.int .i64 n),(6,.list 1 ((yG n E).map fe)),(7,.own 100 0 0 n),(12,.ptr 110 0 0 0),(13,.wrap (.fn 46) [.ptr 110 0 0 0]),(16,.own 101 0 0 s.out.length),(17,.wrap (.bound 48) [.ptr 111 0 0 0])],[(101,⟨0,.own,3,1,s.out.map zJ⟩),(100,⟨0,.own,3,1,s.m.map zJ⟩),(110,⟨0,.aj,107,1,[[.ptr 111 0 0 0]]⟩),(111,⟨0,.aj,108,1,[[.own 112 0 0 s.h.length]]⟩),(112,⟨0,.own,3,1,s.h.map zJ⟩)]⟩) (fun s=>TI n E s∧∃ k,n<s.out.length+k∧(xw E k s).out=Yj n E) (fun s=>n - s.out.length) ⟨M,H,[]⟩ ⟨sY,n+1,by show n<0+(n+1);omega,eY⟩ ?_ ?_
   ·show ar _ ⟨[(0,.int .i64 n),(6,.list 1 ((yG n E).map fe)),(7,.own 100 0 0 n),(12,.ptr 110 0 0 0),(13,.wrap (.fn 46) [.ptr 110 0 0 0]),(16,.own 101 0 0 0),(17,.wrap (.bound 48) [.ptr 111 0 0 0])],[(101,⟨0,.own,3,1,[]⟩),(100,⟨0,.own,3,1,M.map zJ⟩),(110,⟨0,.aj,107,1,[[.ptr 111 0 0 0]]⟩),(111,⟨0,.aj,108,1,[[.own 112 0 0 H.length]]⟩),(112,⟨0,.own,3,1,H.map zJ⟩)]⟩;exact (ar.cv [⟨101,none,0,⟨0,.own,3,1,[]⟩⟩,⟨100,some 100,0,⟨0,.own,3,1,M.map zJ⟩⟩,⟨110,some 110,0,⟨0,.aj,107,1,[[.ptr 111 0 0 0]]⟩⟩,⟨111,some 111,0,⟨0,.aj,108,1,[[.own 112 0 0 H.length]]⟩⟩,⟨112,some 112,0,⟨0,.own,3,1,H.map zJ⟩⟩] zh zf)
   clear sY eY M H;rintro ⟨m,h,out⟩ ⟨sY,fu,hfu,eY⟩;dsimp only at hfu eY ⊢;have hhl:h.length≤n:=sY.hle;have iZ:m.length=n:=sY.len;have nQ:out.length≤n:=sY.le;refine zb ?_;refine ztb rfl (PO 0 0 h) [(5000,111),(5001,112)] rfl (zQ.cons rfl rfl rfl (zQ.cons rfl rfl rfl zQ.nil)) rfl rfl rfl rfl rfl rfl ?_;rintro _ aM ⟨rfl,h1,h2⟩;refine ZQ.one [(111,⟨0,.aj,108,1,[[.own 112 0 0 h.length]]⟩),(112,⟨0,.own,3,1,h.map zJ⟩)] (.int .i64 h.length) rfl (by show [(111,zE.ren _ (look {} aM 5000)),(112,zE.ren _ (look {} aM 5001))]=_;rw [h1,h2];rfl) ?_;clear h1 h2 aM;refine zb ?_;refine FW.cond rfl (fun hc=>?_) (fun hc=>?_)
   ·obtain ⟨k,hk⟩:∃ k,h.length=k+1:=⟨h.length - 1,by simp at hc;omega⟩
    clear hc;refine zb ?_;refine Yq (zpY 0 0 h k hk za) [(5000,111),(5001,112)] rfl (zQ.cons rfl rfl rfl (zQ.cons rfl rfl rfl zQ.nil)) rfl rfl rfl rfl rfl rfl ?_;rintro _ aM ⟨rfl,h1,h2⟩;refine ZQ.one [(111,⟨0,.aj,108,1,[[.own 112 (0+1) 0 k]]⟩),(112,⟨0+1,.own,3,1,((ZJ h k).take k).map zJ⟩)] (.iface 3 (.int .i64 (nth (ZJ h k) k))) rfl (by show [(111,zE.ren _ (look {} aM 5000)),(112,zE.ren _ (look {} aM 5001))]=_;rw [h1,h2];rfl) ?_;clear h1 h2 aM;obtain ⟨v,hv,iu,JU,kV,gV,Jk,hN,hR⟩:=sY.first hk;dsimp only at hv JU kV gV Jk hN hR;rw [hv];have bT:ZY E ⟨m,h,out⟩=⟨((zP E v).foldl eL (m,(ZJ h k).take k)).1,((zP E v).foldl eL (m,(ZJ h k).take k)).2,out++[(v:Int)]⟩:=by
     unfold ZY;dsimp only;rw [show h.length - 1=k by omega,hv];rfl
    have pj:=sY.step aP (by rintro e;rw [show h=[] from e] at hk;simp at hk);rw [bT] at pj;have mh : ∀ f,fu=f+1→(xw E f (ZY E ⟨m,h,out⟩)).out=Yj n E:=fun f hf=>by
     subst hf;rw [← eY];exact (congrArg lQ.out (show xw E (f+1) ⟨m,h,out⟩=xw E f (ZY E ⟨m,h,out⟩) from if_neg (by rintro e;rw [show h=[] from e] at hk;simp at hk))).symm
    rw [bT] at mh;have nc:=HL E v;refine zb ?_;rw [Di v iu];obtain ⟨O,hO⟩:∃ O,out++[(v:Int)]=O:=⟨_,rfl⟩
    obtain ⟨Om,Tf⟩:∃ Om,out.map zJ++[[.int .i64 v]]=Om:=⟨_,rfl⟩
    have Td:O.map zJ=Om:=by rw [← hO,← Tf,zF];rfl
    have Te:Om.length=O.length:=by rw [← Td,zj]
    have hOl2:O.length=out.length+1:=by rw [← hO];simp
    rw [hO] at Jk hN hR pj mh;rw [Tf,Te];have nW:((ZJ h k).take k).length=k:=by rw [zW,QM];omega
    obtain ⟨H0,S7⟩:∃ H0,(ZJ h k).take k=H0:=⟨_,rfl⟩
    rw [S7] at Jk nW pj mh ⊢;clear bT S7 hv gV;refine FW.loop (fun j:Nat=>⟨[(0,.int .i64 n),(6,.list 1 ((yG n E).map fe)),(7,.own 100 0 0 n),(12,.ptr 110 0 0 0),(13,.wrap (.fn 46) [.ptr 110 0 0 0]),(16,.own 101 0 0 O.length),(17,.wrap (.bound 48) [.ptr 111 0 0 0]),(78,.list 1 ((zP E v).map zJ)),(79,.int .i64 (zP E v).length),(80,.int .i64 j)],[(101,⟨0,.own,3,1,O.map zJ⟩),(100,⟨0,.own,3,1,(((zP E v).take j).foldl eL (m,H0)).1.map zJ⟩),(110,⟨0,.aj,107,1,[[.ptr 111 0 0 0]]⟩),(111,⟨0,.aj,108,1,[[.own 112 0 0 (((zP E v).take j).foldl eL (m,H0)).2.length]]⟩),(112,⟨0,.own,3,1,(((zP E v).take j).foldl eL (m,H0)).2.map zJ⟩)]⟩) (fun j=>j≤(zP E v).length) (fun j=>(zP E v).length - j) 0 (zp _) ?_ ?_
    ·show ar _ ⟨[(0,.int .i64 n),(6,.list 1 ((yG n E).map fe)),(7,.own 100 0 0 n),(12,.ptr 110 0 0 0),(13,.wrap (.fn 46) [.ptr 110 0 0 0]),(16,.own 101 0 0 O.length),(17,.wrap (.bound 48) [.ptr 111 0 0 0]),(78,.list 1 ((zP E v).map zJ)),(79,.int .i64 (zP E v).length),(80,.int .i64 0)],[(101,⟨0,.own,3,1,O.map zJ⟩),(100,⟨0,.own,3,1,m.map zJ⟩),(110,⟨0,.aj,107,1,[[.ptr 111 0 0 0]]⟩),(111,⟨0,.aj,108,1,[[.own 112 0 0 H0.length]]⟩),(112,⟨0,.own,3,1,H0.map zJ⟩)]⟩;rw [← Td,nW];exact (ar.cv [⟨101,some 74,0+1,⟨0,.own,3,1,O.map zJ⟩⟩,⟨100,some 100,0,⟨0,.own,3,1,m.map zJ⟩⟩,⟨110,some 110,0,⟨0,.aj,107,1,[[.ptr 111 0 0 0]]⟩⟩,⟨111,some 111,0,⟨0,.aj,108,1,[[.own 112 0 0 k]]⟩⟩,⟨112,some 112,0+1,⟨0,.own,3,1,H0.map zJ⟩⟩] zh zf)
    intro j hj;have EP:=DI.fold (r1:=(zP E v).take j) (r2:=(zP E v).drop j) hR (by rw [YR];exact Jk) (by rw [YR];exact VB E v) (by rw [YR];exact fun w hw=>Zh aP hw);have aO:∀ hl:j<(zP E v).length,((zP E v).take (j+1)).foldl eL (m,H0)=eL (((zP E v).take j).foldl eL (m,H0)) (nth (zP E v) j):=fun hl=>by
     rw [xe hl,ZU,← ak hl];rfl
    have ef:j=(zP E v).length→(zP E v).foldl eL (m,H0)=((zP E v).take j).foldl eL (m,H0):=fun e=>by rw [e,yy]
    generalize ((zP E v).take j).foldl eL (m,H0)=q at EP aO ef;obtain ⟨qm,qh⟩:=q;have JP:qm.length=n:=EP.len;have hqh:qh.length≤n:=UJ EP.hN fun x hx=>((EP.hM x).1 hx).1;dsimp only;refine zb ?_;refine FW.cond rfl (fun hc=>?_) (fun hc=>?_)
    ·have eM:j<(zP E v).length:=by simpa using hc
     clear hc ef;have aO:=aO eM;obtain ⟨w,hw⟩:∃ w:Nat,nth (zP E v) j=w:=⟨(nth (zP E v) j).toNat,by have:=(Zh aP (zu eM)).1;omega⟩
     have pP:w<n:=by have:=(Zh aP (zu eM)).2;omega
     have sZ:0≤nth qm w∧nth qm w≤n+1:=by
      have h1:=EP.cnt w pP;have h2:nz n E O w≤(List.range n).length:=XS;rw [YN] at h2;dsimp only at h1;rw [h1];split <;> omega
     have Nv:eL (qm,qh) (w:Int)=(qm.set w (nth qm w - 1),if nth qm w - 1=0 then mT qh w else qh):=by unfold eL;rw [zK]
     rw [hw,Nv] at aO;obtain ⟨Z,hZ⟩:∃ Z,qm.set w (nth qm w - 1)=Z:=⟨_,rfl⟩
     have Nc:Z.length=n:=by rw [← hZ];simpa using JP
     have hZw:nth Z w=nth qm w - 1:=by rw [← hZ];exact yf za
     rw [hZ] at aO;refine zb ?_;rw [hw,zK];refine zb ?_;rw [show (zJ (nth qm w)).set 0 (.int .i64 (nth qm w - 1))=zJ (nth qm w - 1) from rfl,← xc,hZ];refine zb ?_;rw [hZw];skip;refine FW.cond rfl (fun hc=>?_) (fun hc=>?_)
     ·rw [if_pos (by simpa using hc)] at aO;refine zb ?_;refine zl7 rfl (zhl 0 0 0 qh w za) [(5002,110),(5000,111),(5001,112)] rfl (zQ.cons rfl rfl rfl (zQ.cons rfl rfl rfl (zQ.cons rfl rfl rfl zQ.nil))) rfl rfl rfl rfl rfl rfl ?_;rintro _ aM ⟨rfl,h2,h0,h1⟩;refine ZQ.one [(110,⟨0,.aj,107,1,[[.ptr 111 0 0 0]]⟩),(111,⟨0,.aj,108,1,[[.own 112 (0+1) 0 (qh.length+1)]]⟩),(112,⟨0+1,.own,3,1,(mT qh w).map zJ⟩)] (.bd []) rfl (by show [(110,zE.ren _ (look {} aM 5002)),(111,zE.ren _ (look {} aM 5000)),(112,zE.ren _ (look {} aM 5001))]=_;rw [h2,h0,h1];rfl) ?_;clear h2 h0 h1 aM;refine zb ?_;refine ⟨j+1,by omega,by omega,?_⟩;rw [aO];dsimp only;have gB:=QN qh w;generalize mT qh w=Y at gB;rw [gB];exact (ar.cv [⟨101,some 101,0,⟨0,.own,3,1,O.map zJ⟩⟩,⟨100,some 100,0,⟨0,.own,3,1,Z.map zJ⟩⟩,⟨110,some 110,0,⟨0,.aj,107,1,[[.ptr 111 0 0 0]]⟩⟩,⟨111,some 111,0,⟨0,.aj,108,1,[[.own 112 0 0 (qh.length+1)]]⟩⟩,⟨112,some 112,0+1,⟨0,.own,3,1,Y.map zJ⟩⟩] zh zf)
     ·rw [if_neg (by simpa using hc)] at aO;refine zb ?_;refine ⟨j+1,by omega,by omega,?_⟩;rw [aO];dsimp only;exact (ar.cv [⟨101,some 101,0,⟨0,.own,3,1,O.map zJ⟩⟩,⟨100,some 100,0,⟨0,.own,3,1,Z.map zJ⟩⟩,⟨110,some 110,0,⟨0,.aj,107,1,[[.ptr 111 0 0 0]]⟩⟩,⟨111,some 111,0,⟨0,.aj,108,1,[[.own 112 0 0 qh.length]]⟩⟩,⟨112,some 112,0,⟨0,.own,3,1,qh.map zJ⟩⟩] zh zf)
    ·have kr:j=(zP E v).length:=by simp at hc;omega
     rw [ef kr] at pj mh;clear hc ef aO;refine zb ?_;refine ⟨⟨qm,qh,O⟩,⟨pj,fu - 1,by show n<O.length+(fu - 1);omega,mh _ za⟩,by show n - O.length<n - out.length;have:=pj.le;dsimp only at this;omega,?_⟩;exact (ar.cv [⟨101,some 101,0,⟨0,.own,3,1,O.map zJ⟩⟩,⟨100,some 100,0,⟨0,.own,3,1,qm.map zJ⟩⟩,⟨110,some 110,0,⟨0,.aj,107,1,[[.ptr 111 0 0 0]]⟩⟩,⟨111,some 111,0,⟨0,.aj,108,1,[[.own 112 0 0 qh.length]]⟩⟩,⟨112,some 112,0,⟨0,.own,3,1,qh.map zJ⟩⟩] zh zf)
   ·have hh:h=[]:=by
     cases h with
     | nil => rfl
     | cons x h => simp at hc
    subst hh;clear hc;rw [W5 E fu _ rfl] at eY;dsimp only at eY;subst eY;generalize Yj n E=O at nQ Tr;subst Tr;refine zb ?_;refine FW.cond rfl (fun hc=>?_) (fun hc=>?_)
    ·exfalso;simp at hc
    ·refine zb ?_;refine FW.le (s':=⟨[(4,.own 4000 1 0 O.length),(5,.bool true)],[(4000,⟨1,.own,3,1,O.map zJ⟩)]⟩) ?_ (ar.cv [⟨4000,some 101,0,⟨1,.own,3,1,O.map zJ⟩⟩] zh zf);exact FW.ret ⟨.inl rfl,_,.pair rfl rfl rfl (fun _ _ e=>by cases e) (fun _ _ e=>by cases e),rfl,rfl⟩
end
end Go.Proofs.YtphidhljdcledaaGreat
