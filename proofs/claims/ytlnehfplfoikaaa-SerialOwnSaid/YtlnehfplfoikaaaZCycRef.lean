/-
  Some texts as one: CycRef, OrderPlain, ReachPlain, ExtPlain, AcyPlain, SerPlain2, SerCyc, FmSer1, FmW.
-/
import Derived.Test.YtlnehfplfoikaaaZK
import Derived.Test.YtlnehfplfoikaaaZM
import Derived.Test.YtlnehfplfoikaaaZG
import Derived.Test.YtlnehfplfoikaaaZL
import Derived.Lib.SliceRun
namespace Go.Proofs.Ytlnehfplfoikaaa
set_option linter.unusedVariables false
set_option maxHeartbeats 16000000
theorem zey {E:List (Nat×Nat)} {a b:Nat}:ZN E a b=true↔(b:Int)∈zy E a:=by
 unfold ZN;rw [List.any_eq_true,yB];constructor
 ·rintro ⟨e,he,h⟩;simp only [Bool.and_eq_true,decide_eq_true_eq] at h;exact ⟨e,he,by omega,h.2⟩
 ·rintro ⟨e,he,h1,h2⟩;exact ⟨e,he,by simp only [Bool.and_eq_true,decide_eq_true_eq];omega⟩
def Wx (n:Nat) (E:List (Nat×Nat)) (s:Nat):Nat→Nat→Prop
 | 0, _ => False
 | 1, v => (s:Int) ∈ zy E v
 | k+2, v => ∃ w:Nat, w<n ∧ (w:Int) ∈ zy E v ∧ s<w ∧ Wx n E s (k+1) w
def zhP (E:List (Nat×Nat)) (O:List (List Int)) (tg ab k v w:Nat):Prop:=ZN E v w=true∧yP O tg ab k v w≠[]
theorem Yn {E:List (Nat×Nat)} {O:List (List Int)} {s k v:Nat} (hh:∀ w,nth O w≠[]→∃ r,nth O w=(w:Int)::r):∀ j,(zcr E O s s k v j=[]∧∀ w,w<j→¬ zhP E O s s k v w)∨∃ w,w<j∧zhP E O s s k v w∧(∀ u,u<w→¬ zhP E O s s k v u)∧zcr E O s s k v j=yP O s s k v w
 | 0 => .inl ⟨rfl, fun w hw => by omega⟩
 | j + 1=>by
  rw [zbd];rcases Yn (E:=E) (O:=O) (s:=s) (k:=k) (v:=v) hh j with ⟨e,h⟩|⟨w,h1,h2,h3,e⟩
  ·rw [e];unfold Uz;by_cases hc:zhP E O s s k v j
   ·rw [if_pos ⟨hc.1,hc.2,.inl rfl⟩];exact .inr ⟨j,Nat.lt_succ_self _,hc,fun u hu=>h u hu,rfl⟩
   ·rw [if_neg (fun q=>hc ⟨q.1,q.2.1⟩)];refine .inl ⟨rfl,fun w hw=>?_⟩;by_cases hwj:w=j
    ·subst hwj;exact hc
    ·exact h w zb
  ·rw [e];refine .inr ⟨w,by omega,h2,h3,?_⟩;unfold Uz;refine if_neg fun q=>?_;obtain ⟨q1,q2,q3⟩:=q;rcases q3 with q3|q3
   ·exact h2.2 q3
   ·have hw2:=h2.2;unfold yP at q2 q3 hw2;by_cases hk:k=1
    ·rw [if_pos hk] at q2 hw2;rw [if_pos hk,if_pos hk] at q3;by_cases e1:j=s
     ·by_cases e2:w=s
      ·omega
      ·rw [if_neg e2] at hw2;exact hw2 rfl
     ·rw [if_neg e1] at q2;exact q2 rfl
    ·rw [if_neg hk] at q2 hw2;rw [if_neg hk,if_neg hk] at q3;by_cases e1:s<j∧nth O j≠[]
     ·by_cases e2:s<w∧nth O w≠[]
      ·rw [if_pos e1,if_pos e2] at q3;obtain ⟨r1,f1⟩:=hh j e1.2;obtain ⟨r2,f2⟩:=hh w e2.2;rw [f1,f2] at q3;unfold XL at q3;rw [if_pos rfl] at q3;unfold XL at q3;rw [if_neg zb] at q3;simp at q3;omega
      ·rw [if_neg e2] at hw2;exact hw2 rfl
     ·rw [if_neg e1] at q2;exact q2 rfl
theorem Ud {E:List (Nat×Nat)} {s n k v:Nat} (hv:v<n):nth (yc E s s n (k+1)) v=zcr E (yc E s s n k) s s (k+1) v n:=by
 have e:yc E s s n (k+1)=(List.range n).map fun v=>if v<n then zcr E (yc E s s n k) s s (k+1) v n else []:=rfl
 rw [e,nth_eq (by simpa using hv)];simp [hv]
theorem Wb {E:List (Nat×Nat)} {s n:Nat}:∀ (k w:Nat),nth (yc E s s n k) w≠[]→w<n∧∃ r,nth (yc E s s n k) w=(w:Int)::r
 | 0, w, h => by
  refine absurd ?_ h;rcases Nat.lt_or_ge w n with hw|hw
  ·rw [nth_eq (by simpa [yc] using hw)];simp [yc]
  ·unfold nth;rw [List.getD_eq_getElem?_getD,List.getElem?_eq_none (by simpa [yc] using hw)];rfl
 | k + 1,w,h=>by
  have hw:w<n:=by
   rcases Nat.lt_or_ge w n with hw|hw
   ·exact hw
   ·refine absurd ?_ h;unfold nth;rw [List.getD_eq_getElem?_getD,List.getElem?_eq_none (by rw [ZI];exact hw)];rfl
  refine ⟨hw,?_⟩;rw [Ud hw] at h ⊢;rcases Yn (E:=E) (s:=s) (k:=k+1) (v:=w) (fun u hu=>(Wb k u hu).2) n with ⟨e,_⟩|⟨u,_,hc,_,e⟩
  ·exact absurd e h
  ·rw [e];have h2:=hc.2;unfold yP at h2 ⊢;split at h2
   ·split at h2
    ·rename_i h3 h4;rw [if_pos h3,if_pos h4];exact ⟨_,rfl⟩
    ·exact absurd rfl h2
   ·split at h2
    ·rename_i h3 h4;rw [if_neg h3,if_pos h4];exact ⟨_,rfl⟩
    ·exact absurd rfl h2
theorem Ym {E:List (Nat×Nat)} {s n k v w:Nat}:zhP E (yc E s s n k) s s (k+1) v w↔(w:Int)∈zy E v∧if k=0 then w=s else s<w∧nth (yc E s s n k) w≠[]:=by
 unfold zhP;rw [zey];refine and_congr Iff.rfl ?_;unfold yP;by_cases hk:k=0
 ·subst hk;rw [if_pos rfl,if_pos rfl];by_cases e:w=s
  ·rw [if_pos e];simp [e]
  ·rw [if_neg e];simp [e]
 ·rw [if_neg zb,if_neg hk];by_cases e:s<w∧nth (yc E s s n k) w≠[]
  ·rw [if_pos e];simp [e.1,e.2]
  ·rw [if_neg e];constructor
   ·intro q;exact absurd rfl q
   ·intro q;exact absurd q e
theorem xU {n:Nat} {E:List (Nat×Nat)} (h:InN n E) {s:Nat} (hs:s<n):∀ (k v:Nat),v<n→(nth (yc E s s n (k+1)) v≠[]↔Wx n E s (k+1) v)
 | k,v,hv=>by
  rw [Ud hv];have hex:zcr E (yc E s s n k) s s (k+1) v n≠[]↔∃ w,w<n∧zhP E (yc E s s n k) s s (k+1) v w:=by
   rcases Yn (E:=E) (s:=s) (k:=k+1) (v:=v) (fun u hu=>(Wb k u hu).2) n with ⟨e,hno⟩|⟨u,h1,hc,_,e⟩
   ·constructor
    ·intro q;exact absurd e q
    ·rintro ⟨w,h1,h2⟩;exact absurd h2 (hno w h1)
   ·constructor
    ·intro _;exact ⟨u,h1,hc⟩
    ·intro _;rw [e];exact hc.2
  rw [hex];cases k with
  | zero=>
   constructor
   ·rintro ⟨w,_,hc⟩;obtain ⟨c1,c2⟩:=Ym.1 hc;rw [if_pos rfl] at c2;subst c2;exact c1
   ·intro hm;exact ⟨s,hs,Ym.2 ⟨hm,by rw [if_pos rfl]⟩⟩
  | succ k=>
   constructor
   ·rintro ⟨w,hw,hc⟩;obtain ⟨c1,c2⟩:=Ym.1 hc;rw [if_neg zb] at c2;exact ⟨w,hw,c1,c2.1,(xU h hs k w hw).1 c2.2⟩
   ·rintro ⟨w,hw,hm,hsw,hx⟩;exact ⟨w,hw,Ym.2 ⟨hm,by rw [if_neg zb];exact ⟨hsw,(xU h hs k w hw).2 hx⟩⟩⟩
section
variable {n:Nat} {E:List (Nat×Nat)} (h:InN n E) {s:Nat} (hs:s<n)
include h hs
theorem Wx.dist:∀ (k w:Nat),w<n→s<w→Wx n E s (k+1) w→0≤nth (zQ n E s) w∧nth (zQ n E s) w≤(k+1:Nat)
 | 0, w, hw, hsw, hx => by
  have h0:=zdr h hs;have:=XE h hs hs hw (show (s:Int)∈zy E w from hx) hsw zb;omega
 | k+1, w, hw, hsw, hx => by
  obtain ⟨u,hu,hm,hsu,hxu⟩:=hx;have h1:=Wx.dist k u hu hsu hxu;have:=XE h hs hu hw hm hsw h1.1;omega
theorem zas:∀ (k w:Nat),w<n→nth (zQ n E s) w=(k+1:Nat)→s<w∧Wx n E s (k+1) w
 | 0, w, hw, hd => by
  refine ⟨YY h hs hw zb,?_⟩;obtain ⟨u,hu,hm,hdu⟩:=WM h hs hw zb;have:u=s:=UA h hs hu zb;subst this;exact hm
 | k+1, w, hw, hd => by
  refine ⟨YY h hs hw zb,?_⟩;obtain ⟨u,hu,hm,hdu⟩:=WM h hs hw zb;obtain ⟨h1,h2⟩:=zas k u hu zb;exact ⟨u,hu,hm,h1,h2⟩
end
theorem VY (d:List Int) (st:Int):∀ (row:List Int) (len:Int),0≤len→(0<len→row.foldl (yj d st) len≤len∧0<row.foldl (yj d st) len)∧∀ w∈row,st≤w→0≤nth d w.toNat→0<row.foldl (yj d st) len∧row.foldl (yj d st) len≤nth d w.toNat+1
 | [], len, _ => ⟨fun h => ⟨Int.le_refl _, h⟩, fun w hw => by cases hw⟩
 | x::row,len,h0=>by
  rw [List.foldl_cons];have hs:0≤yj d st len x∧(0<len→yj d st len x≤len∧0<yj d st len x)∧(st≤x→0≤nth d x.toNat→0<yj d st len x∧yj d st len x≤nth d x.toNat+1):=by
   unfold yj;split <;> rename_i hc
   ·refine ⟨by omega,fun _=>?_,fun _ _=>by omega⟩;rcases hc.2 with h|h <;> omega
   ·refine ⟨h0,fun _=>by omega,fun h1 h2=>?_⟩;have:¬ (len=0∨nth d x.toNat+1<len):=fun q=>hc ⟨⟨h1,h2⟩,q⟩;omega
  obtain ⟨i1,i2⟩:=VY d st row (yj d st len x) hs.1;refine ⟨fun h=>?_,fun w hw h1 h2=>?_⟩
  ·have:=hs.2.1 h;have:=i1 this.2;omega
  ·rcases List.mem_cons.1 hw with rfl|hw
   ·have h3:=hs.2.2 h1 h2;have:=i1 h3.1;omega
   ·exact i2 w hw h1 h2
theorem YN {d:List Int} {st:Int} {row:List Int} {w:Int} (hw:w∈row) (h1:st≤w) (h2:0≤nth d w.toNat):0<yJ d st row∧yJ d st row≤nth d w.toNat+1:=(VY d st row 0 (Int.le_refl _)).2 w hw h1 h2
theorem Wh (p:Int→Bool) (r:List Int):∀ (k i j:Nat),ZL p r k i=(j:Int)→∀ q,i≤q→q<j→p (nth r q)=false
 | 0, i, j, h, q, _, _ => by
  have:(-1:Int)=j:=h;omega
 | k+1,i,j,h,q,h1,h2=>by
  unfold ZL at h;by_cases hp:p (nth r i)=true
  ·rw [if_pos hp] at h;omega
  ·rw [if_neg hp] at h;by_cases e:q=i
   ·subst e;simpa using hp
   ·exact Wh p r k (i+1) j h q zb h2
section
variable {n:Nat} {E:List (Nat×Nat)} (h:InN n E) {s:Nat} (hs:s<n)
include h hs
theorem UO {L:Nat} (hx:Wx n E s (L+1) s):0<yJ (zQ n E s) s (zy E s)∧yJ (zQ n E s) s (zy E s)≤(L+1:Nat):=by
 cases L with
 | zero =>
  have h0:=zdr h hs;have:=YN (d:=zQ n E s) (st:=s) (show (s:Int)∈zy E s from hx) (Int.le_refl _) (by rw [Int.toNat_natCast];omega);rw [Int.toNat_natCast] at this;omega
 | succ L =>
  obtain ⟨w,hw,hm,hsw,hxw⟩:=hx;have hd:=Wx.dist h hs L w hw hsw hxw;have:=YN (d:=zQ n E s) (st:=s) hm zb (by rw [Int.toNat_natCast];omega);rw [Int.toNat_natCast] at this;omega
theorem zak {L:Nat} (hL:yJ (zQ n E s) s (zy E s)=(L+1:Nat)):Wx n E s (L+1) s:=by
 rcases XM (zQ n E s) s (zy E s) with e|⟨w,hw,h1,h2,h3⟩
 ·omega
 ·have hin:=yr h hw;obtain ⟨w,rfl⟩:∃ w' : Nat,w=w':=⟨w.toNat,by omega⟩
  rw [Int.toNat_natCast] at h2 h3;cases L with
  | zero =>
   have:w=s:=UA h hs zb zb;subst this;exact hw
  | succ L =>
   obtain ⟨k1,k2⟩:=zas h hs L w zb zb;exact ⟨w,by omega,hw,k1,k2⟩
theorem zd3:∀ (k v:Nat),v<n→Wx n E s (k+1) v→(∀ w:Nat,(w:Int)∈zy E v→s<w→0≤nth (zQ n E s) w→(k:Int)≤nth (zQ n E s) w)→nth (yc E s s n (k+1)) v=(v:Int)::xY E (zQ n E s) s k v
 | k, v, hv,hx,hmin=>by
  have hne:=(xU h hs k v hv).2 hx;rw [Ud hv] at hne ⊢;rcases Yn (E:=E) (s:=s) (k:=k+1) (v:=v) (fun u hu=>(Wb k u hu).2) n with ⟨e,_⟩|⟨u,hu,hc,hfirst,e⟩
  ·exact absurd e hne
  ·rw [e];obtain ⟨c1,c2⟩:=Ym.1 hc;cases k with
   | zero =>
    rw [if_pos rfl] at c2;unfold yP;rw [if_pos rfl,if_pos c2];rfl
   | succ k=>
    rw [if_neg zb] at c2;have hxu:=(xU h hs k u hu).1 c2.2;have hdu:=Wx.dist h hs k u hu c2.1 hxu;have hmu:=hmin u c1 c2.1 hdu.1;have hdu' : nth (zQ n E s) u=(k+1:Nat):=by omega
    have hon:YO (zQ n E s) s (k+1:Nat) u=true:=by
     unfold YO;rw [decide_eq_true_eq,Int.toNat_natCast];exact ⟨by omega,hdu'⟩
    obtain ⟨j,hj,hfx,hpj⟩:=YL c1 hon;have hin:=yr h (zL hj);obtain ⟨x,hxn⟩:∃ x:Nat,nth (zy E v) j=x:=⟨(nth (zy E v) j).toNat,by omega⟩
    have hux:u=x:=by
     rw [hxn] at hpj hin;unfold YO at hpj;rw [decide_eq_true_eq,Int.toNat_natCast] at hpj;have hxm:(x:Int)∈zy E v:=by rw [← hxn];exact zL hj
     obtain ⟨_,hwx⟩:=zas h hs k x zb hpj.2;have hcx:zhP E (yc E s s n (k+1)) s s (k+1+1) v x:=Ym.2 ⟨hxm,by rw [if_neg zb];exact ⟨by omega,(xU h hs k x zb).2 hwx⟩⟩;rcases Nat.lt_trichotomy u x with hlt|heq|hgt
     ·-- u stands ahead of x in the row,and Wi takes the first
      obtain ⟨q,hq,hqu⟩:=List.getElem_of_mem c1;have hqj:q<j:=by
       rcases Nat.lt_or_ge q j with q1|q1
       ·exact q1
       ·have hasc:=List.pairwise_iff_getElem.1 (zck E v);rcases Nat.lt_or_ge j q with q2|q2
        ·have:=hasc j q hj hq q2;rw [← nth_eq hj,hxn,hqu] at this;omega
        ·obtain rfl:q=j:=by omega
         rw [nth_eq hq,hqu] at hxn;omega
      have:=Wh (YO (zQ n E s) s (k+1:Nat)) (zy E v) (zy E v).length 0 j hfx q (Nat.zero_le _) hqj;rw [nth_eq hq,hqu] at this;rw [hon] at this;cases this
     ·exact heq
     ·exact absurd hcx (hfirst x hgt)
    have hstep:xc E (zQ n E s) s (k+1:Nat) v=u:=by
     unfold xc;rw [hfx,Int.toNat_natCast,hxn,hux,Int.toNat_natCast]
    show yP (yc E s s n (k+1)) s s (k+1+1) v u=(v:Int)::xY E (zQ n E s) s (k+1) v;unfold yP;rw [if_neg zb,if_pos c2];have ih:=zd3 k u hu hxu fun w hw hsw h0=>by
     have hwin:=yr h hw;have:=XE h hs (u:=w) (v:=u) zb hu hw c2.1 h0;omega
    rw [ih];show _=(v:Int)::((xc E (zQ n E s) s (k+1:Nat) v:Nat):Int)::xY E (zQ n E s) s k (xc E (zQ n E s) s (k+1:Nat) v);rw [hstep]
end
theorem zeC (d:List Int) (st:Int) (row:List Int):0≤yJ d st row:=by
 rcases XM d st row with e|⟨w,_,_,h2,h3⟩ <;> omega
def lenOf (n:Nat) (E:List (Nat×Nat)) (s:Nat):Int:=yJ (zQ n E s) s (zy E s)
section
variable {n:Nat} {E:List (Nat×Nat)} (h:InN n E)
include h
theorem zaC {s:Nat} (hs:s<n) (h0:lenOf n E s≠0):∃ K:Nat,lenOf n E s=(K+1:Nat)∧K<n∧YZ E n (K+1) s=(s:Int)::xY E (zQ n E s) s K s:=by
 obtain ⟨K,hK,hKn,_⟩:=ZC h hs h0;refine ⟨K,hK,hKn,zd3 h hs K s hs (zak h hs hK) fun w hw hsw hd=>?_⟩;have:=YN (d:=zQ n E s) (st:=s) hw zb (by rw [Int.toNat_natCast];exact hd);rw [Int.toNat_natCast,hK] at this;omega
theorem zaU {s L:Nat} (hs:s<n) (h0:YZ E n (L+1) s≠[]):0<lenOf n E s∧lenOf n E s≤(L+1:Nat):=UO h hs ((xU h hs L s hs).1 h0)
theorem WB:∀ i,i≤n→(zaY n E i=[]∧∀ s,s<i→lenOf n E s=0)∨∃ s0 K,s0<i∧lenOf n E s0=((K+1:Nat):Int)∧zaY n E i=(s0:Int)::xY E (zQ n E s0) s0 K s0∧(∀ s,s<i→lenOf n E s≠0→((K+1:Nat):Int)≤lenOf n E s)∧∀ s,s<s0→lenOf n E s≠0→((K+1:Nat):Int)<lenOf n E s
 | 0, _ => .inl ⟨rfl, fun s hs => by omega⟩
 | i + 1,hi=>by
  rw [WO];have hL:yJ (zQ n E i) i (zy E i)=lenOf n E i:=rfl;have hnn:0≤lenOf n E i:=zeC _ _ _;unfold YJ;dsimp only;rw [hL];rcases WB i zb with ⟨e,hz⟩|⟨s0,K,h1,h2,e,h4,h5⟩
  ·rw [e];by_cases h0:lenOf n E i=0
   ·rw [if_pos (.inl h0)];refine .inl ⟨rfl,fun s hs=>?_⟩;by_cases hsi:s=i
    ·subst hsi;exact h0
    ·exact hz s zb
   ·rw [if_neg (by rintro (q|q);exact h0 q;exact q.1 rfl)];obtain ⟨K,hK,_,_⟩:=zaC h zb h0;refine .inr ⟨i,K,Nat.lt_succ_self _,hK,by rw [hK,Int.toNat_natCast];rfl,fun s hs hne=>?_,fun s hs hne=>absurd (hz s hs) hne⟩;by_cases hsi:s=i
    ·subst hsi;omega
    ·exact absurd (hz s zb) hne
  ·have hlen:(zaY n E i).length=K+1:=by rw [e,List.length_cons,XA]
   by_cases hc:lenOf n E i=0∨(zaY n E i≠[]∧((zaY n E i).length:Int)≤lenOf n E i)
   ·rw [if_pos hc];refine .inr ⟨s0,K,by omega,h2,e,fun s hs hne=>?_,h5⟩;by_cases hsi:s=i
    ·subst hsi;rcases hc with q|q
     ·exact absurd q hne
     ·rw [hlen] at q;exact q.2
    ·exact h4 s zb hne
   ·rw [if_neg hc];have h0:lenOf n E i≠0:=fun q=>hc (.inl q);have hlt:lenOf n E i<((K+1:Nat):Int):=by
     have:¬ ((zaY n E i).length:Int)≤lenOf n E i:=fun q=>hc (.inr ⟨by rw [e];exact List.cons_ne_nil _ _,q⟩);rw [hlen] at this;omega
    obtain ⟨K',hK,_,_⟩:=zaC h zb h0;refine .inr ⟨i,K',Nat.lt_succ_self _,hK,by rw [hK,Int.toNat_natCast];rfl,fun s hs hne=>?_,fun s hs hne=>?_⟩
    ·by_cases hsi:s=i
     ·subst hsi;omega
     ·have:=h4 s zb hne;omega
    ·have:=h4 s hs hne;omega
end
theorem Yo {E:List (Nat×Nat)} {n len:Nat}:∀ (k s:Nat),(∀ u,s≤u→u<s+k→YZ E n len u=[])→xJ E n len k s=[]
 | 0, _, _ => rfl
 | k+1, s, h => by
  unfold xJ;rw [if_pos (h s (Nat.le_refl _) zb)];exact Yo k (s+1) fun u h1 h2=>h u zb zb
theorem Wd {E:List (Nat×Nat)} {n len s0:Nat} (h0:YZ E n len s0≠[]):∀ (k s:Nat),s≤s0→s0<s+k→(∀ u,s≤u→u<s0→YZ E n len u=[])→xJ E n len k s=YZ E n len s0
 | 0, s, h1, h2, _ => by omega
 | k+1,s,h1,h2,h=>by
  unfold xJ;by_cases e:s=s0
  ·subst e;rw [if_neg h0]
  ·rw [if_pos (h s (Nat.le_refl _) zb)];exact Wd h0 k (s+1) zb zb fun u q1 q2=>h u zb q2
theorem YI {E:List (Nat×Nat)} {n:Nat}:∀ (k len:Nat),(∀ l,len≤l→l<len+k→xJ E n l n 0=[])→ZS E n k len=[]
 | 0, _, _ => rfl
 | k+1, len, h => by
  unfold ZS;rw [if_pos (h len (Nat.le_refl _) zb)];exact YI k (len+1) fun u h1 h2=>h u zb zb
theorem Xb {E:List (Nat×Nat)} {n l0:Nat} (h0:xJ E n l0 n 0≠[]):∀ (k len:Nat),len≤l0→l0<len+k→(∀ l,len≤l→l<l0→xJ E n l n 0=[])→ZS E n k len=xJ E n l0 n 0
 | 0, len, h1, h2, _ => by omega
 | k+1,len,h1,h2,h=>by
  unfold ZS;by_cases e:len=l0
  ·subst e;rw [if_neg h0]
  ·rw [if_pos (h len (Nat.le_refl _) zb)];exact Xb h0 k (len+1) zb zb fun u q1 q2=>h u zb q2
theorem Yp {n:Nat} {E:List (Nat×Nat)} (h:InN n E):zdC n E=yO E n:=by
 rcases WB h n (Nat.le_refl _) with ⟨e,hz⟩|⟨s0,K,h1,h2,e,h4,h5⟩
 ·show zaY n E n=_;rw [e];refine (YI n 1 fun l hl1 hl2=>Yo n 0 fun u _ hu=>?_).symm;obtain ⟨l,rfl⟩:∃ l',l=l'+1:=⟨l - 1,by omega⟩
  by_cases hc:YZ E n (l+1) u=[]
  ·exact hc
  ·have:=zaU h zb hc;have:=hz u zb;omega
 ·show zaY n E n=_;rw [e];obtain ⟨K',hK',hKn,hw⟩:=zaC h h1 zb;obtain rfl:K'=K:=by omega
  have hne:YZ E n (K'+1) s0≠[]:=by rw [hw];exact List.cons_ne_nil _ _
  have hrow:xJ E n (K'+1) n 0=YZ E n (K'+1) s0:=Wd hne n 0 (Nat.zero_le _) zb fun u _ hu=>by
   by_cases hc:YZ E n (K'+1) u=[]
   ·exact hc
   ·have q:=zaU h zb hc;have:=h5 u hu zb;omega
  unfold yO;rw [Xb (l0:=K'+1) (by rw [hrow];exact hne) n 1 zb zb fun l hl1 hl2=>Yo n 0 fun u _ hu=>?_,hrow,hw];obtain ⟨l,rfl⟩:∃ l',l=l'+1:=⟨l - 1,by omega⟩
  by_cases hc:YZ E n (l+1) u=[]
  ·exact hc
  ·have q:=zaU h zb hc;have:=h4 u zb zb;omega
theorem zfz:∀ (n:Nat) (out:List Int),(∀ v:Nat,v<n→(v:Int)∈out)→n≤out.length
 | 0, _, _ => Nat.zero_le _
 | n+1,out,h=>by
  have hn:=h n (Nat.lt_succ_self n);have:=zfz n (out.erase (n:Int)) fun v hv=>by
   have hm:=h v zb;exact (List.mem_erase_of_ne zb).2 hm
  rw [List.length_erase_of_mem hn] at this;have:=List.length_pos_of_mem hn;omega
theorem zfx {n:Nat} {E:List (Nat×Nat)} (h:InN n E) (f:Nat→Nat) (hf:∀ e∈E,f e.1<f e.2):(yq n E).length=n:=by
 obtain ⟨hh,hT⟩:=Zc h (n+1) (yn n E) (TI.start h) (by show n<0+(n+1);omega);have hle:=hT.le;have hall:∀ (m v:Nat),f v≤m→v<n→(v:Int)∈(zZ E (n+1) (yn n E)).out:=by
  intro m
  induction m with
  | zero=>
   intro v hv hvn;refine Classical.byContradiction fun hno=>?_;have hc:zcq n E (zZ E (n+1) (yn n E)).out v=0:=by
    refine List.countP_eq_zero.2 fun u hu q=>?_;simp only [Bool.and_eq_true,decide_eq_true_eq] at q;obtain ⟨e,he,h1,h2⟩:=yB.1 q.2;have:=hf e he;have h3:e.2=v:=by omega
    rw [h3] at this;omega
   have:=(hT.hM (v:Int)).2 ⟨by omega,hno,by rw [Int.toNat_natCast,hT.cnt v hvn,hc];rfl⟩;rw [hh] at this;cases this
  | succ m ih=>
   intro v hv hvn;refine Classical.byContradiction fun hno=>?_;have hc:zcq n E (zZ E (n+1) (yn n E)).out v=0:=by
    refine List.countP_eq_zero.2 fun u hu q=>?_;simp only [Bool.and_eq_true,decide_eq_true_eq] at q;obtain ⟨e,he,h1,h2⟩:=yB.1 q.2;have h3:=hf e he;have h4:e.2=v:=by omega
    rw [h4] at h3;subst h1;exact q.1 (ih e.1 zb (h e he).1)
   have:=(hT.hM (v:Int)).2 ⟨by omega,hno,by rw [Int.toNat_natCast,hT.cnt v hvn,hc];rfl⟩;rw [hh] at this;cases this
 have:=zfz n _ fun v hv=>hall (f v) v (Nat.le_refl _) hv;show (zZ E (n+1) (yn n E)).out.length=n;omega
theorem zib {n:Nat} {E:List (Nat×Nat)} (h:InN n E) (f:Nat→Nat) (hf:∀ e∈E,f e.1<f e.2):rtK E n n []=some (yq n E)∧(yq n E).length=n:=by
 have hl:=zfx h f hf;rw [zdh h,if_neg zb];exact ⟨rfl,hl⟩
theorem zgP {n:Nat} {E:List (Nat×Nat)} (f:Nat→Nat) (hf:∀ e∈E,f e.1<f e.2) {s:Nat}:∀ (k v:Nat),Wx n E s (k+1) v→f v<f s
 | 0, v, hx => by
  obtain ⟨e,he,h1,h2⟩:=yB.1 (show (s:Int)∈zy E v from hx);have:=hf e he;rw [h1,show e.2=s by omega] at this;exact this
 | k+1, v, hx => by
  obtain ⟨w,_,hm,_,hxw⟩:=hx;obtain ⟨e,he,h1,h2⟩:=yB.1 hm;have h3:=hf e he;rw [h1,show e.2=w by omega] at h3;have:=zgP f hf k w hxw;omega
theorem zeb {n:Nat} {E:List (Nat×Nat)} (h:InN n E) (f:Nat→Nat) (hf:∀ e∈E,f e.1<f e.2):yO E n=[]:=by
 refine YI n 1 fun l h1 h2=>Yo n 0 fun u _ hu=>?_;obtain ⟨l,rfl⟩:∃ l',l=l'+1:=⟨l - 1,by omega⟩
 refine Classical.byContradiction fun hne=>?_;have:=zgP f hf l u ((xU h zb l u zb).1 hne);omega
inductive Tg (n:Nat) (E:List (Nat×Nat)) (lo:Nat):Nat→Nat→Prop where
 | one {u v:Nat} (h:(v:Int) ∈ zy E u):Tg n E lo u v
 | more {u w v:Nat} (h:(w:Int) ∈ zy E u) (hw:w<n) (hl:lo ≤ w) (hr:Tg n E lo w v):Tg n E lo u v
theorem Tg.trans {n:Nat} {E:List (Nat×Nat)} {lo a b c:Nat} (h:Tg n E lo a b) (hb:b<n) (hl:lo≤b) (k:Tg n E lo b c):Tg n E lo a c:=by
 induction h with
 | one h => exact .more h hb hl k
 | more h hw hlw _ ih => exact .more h hw hlw (ih hb hl k)
theorem Tg.split {n:Nat} {E:List (Nat×Nat)} {lo u v:Nat} (h:Tg n E lo u v):Tg n E (lo+1) u v∨(Tg n E (lo+1) u lo∧Tg n E (lo+1) lo v):=by
 induction h with
 | one h => exact .inl (.one h)
 | @more u w v h hw hl hr ih=>
  by_cases e:w=lo
  ·subst e;rcases ih with ih|ih
   ·exact .inr ⟨.one h,ih⟩
   ·exact .inr ⟨.one h,ih.2⟩
  ·rcases ih with ih|ih
   ·exact .inl (.more h hw zb ih)
   ·exact .inr ⟨.more h hw zb ih.1,ih.2⟩
theorem Tg.wx {n:Nat} {E:List (Nat×Nat)} {s u v:Nat} (h:Tg n E (s+1) u v) (hv:v=s):∃ L,Wx n E s (L+1) u:=by
 induction h with
 | one h => subst hv; exact ⟨0, h⟩
 | more h hw hl _ ih =>
  obtain ⟨L,hL⟩:=ih hv;exact ⟨L+1,_,hw,h,by omega,hL⟩
theorem zba {n:Nat} {E:List (Nat×Nat)}:∀ (k lo u:Nat),n≤lo+k→lo≤u→u<n→Tg n E lo u u→∃ s,s<n∧∃ L,Wx n E s (L+1) s
 | 0, lo, u, hk, hl, hu, _ => by omega
 | k+1,lo,u,hk,hl,hu,h=>by
  have hlo:lo<n:=by omega
  rcases h.split with h1|⟨h1,h2⟩
  ·by_cases e:u=lo
   ·subst e;exact ⟨u,hu,h1.wx rfl⟩
   ·exact zba k (lo+1) u zb zb hu h1
  ·by_cases e:u=lo
   ·subst e;exact ⟨u,hu,h1.wx rfl⟩
   ·exact ⟨lo,hlo,(h2.trans hu zb h1).wx rfl⟩
theorem ziP {n:Nat} {E:List (Nat×Nat)} (h:InN n E) {u:Nat} (hu:u<n) (ht:Tg n E 0 u u):yO E n≠[]:=by
 obtain ⟨s,hs,L,hx⟩:=zba n 0 u zb (Nat.zero_le _) hu ht;rw [← Yp h];intro he;have hl:=UO h hs hx;rcases WB h n (Nat.le_refl n) with ⟨_,hz⟩|⟨s0,K,_,_,e,_,_⟩
 ·have h0:yJ (zQ n E s) s (zy E s)=0:=hz s hs;omega
 ·have he' : zaY n E n=[]:=he;rw [he'] at e;cases e
def zhO (n:Nat) (E:List (Nat×Nat)) (out:List Int):Prop:=∀ j,j<out.length→∀ u:Nat,u<n→nth out j∈zy E u→(u:Int)∈out.take j
theorem Uc {n:Nat} {E:List (Nat×Nat)} (h:InN n E):∀ (k:Nat) (s:zaX),TI n E s→zhO n E s.out→zhO n E (zZ E k s).out
 | 0, s, _, hb => hb
 | k+1,s,hT,hb=>by
  unfold zZ;split
  ·exact hb
  ·rename_i h0;refine Uc h k _ (hT.step h h0) ?_;obtain ⟨q,hq⟩:∃ q,s.h.length=q+1:=⟨s.h.length - 1,by have:=List.length_pos_iff.2 h0;omega⟩
   obtain ⟨v,hv,hvn,hvo,hm0,_,_,_,_⟩:=hT.first hq;have hso:(yF E s).out=s.out++[(v:Int)]:=by
    unfold yF;dsimp only;rw [show s.h.length - 1=q by omega,hv]
   rw [hso];intro j hj u hu hm;simp at hj;by_cases hjl:j<s.out.length
   ·rw [yz hjl] at hm;rw [List.take_append_of_le_length zb];exact hb j hjl u hu hm
   ·obtain rfl:j=s.out.length:=by omega
    rw [Zg] at hm;rw [List.take_append_of_le_length (Nat.le_refl _),List.take_length];have hc:=hT.cnt v hvn;have h0:zcq n E s.out v=0:=by omega
    have:=List.countP_eq_zero.1 h0 u (List.mem_range.2 hu);simp only [Bool.and_eq_true,decide_eq_true_eq,not_and] at this;exact Classical.byContradiction fun hno=>this hno hm
structure Ord (n:Nat) (E:List (Nat×Nat)) (out:List Int):Prop where
 len:out.length=n
 nd:out.Nodup
 rng:∀ v∈out,0≤v∧v<n
 fwd:∀ e∈E,∀ i j,i<n→j<n→nth out i=(e.1:Int)→nth out j=(e.2:Int)→i<j
theorem zd0 {n:Nat} {E:List (Nat×Nat)} (h:InN n E) (hl:(yq n E).length=n):Ord n E (yq n E):=by
 obtain ⟨_,hT⟩:=Zc h (n+1) (yn n E) (TI.start h) (by show n<0+(n+1);omega);have hb:=Uc h (n+1) (yn n E) (TI.start h) (fun j hj=>by cases hj);refine ⟨hl,hT.outN,hT.outR,fun e he i j hi hj e1 e2=>?_⟩;have hl' : (zZ E (n+1) (yn n E)).out.length=n:=hl;have hm:=hb j zb e.1 (h e he).1 (by
  have e2' : nth (zZ E (n+1) (yn n E)).out j=(e.2:Int):=e2;rw [e2'];exact yB.2 ⟨e,he,rfl,rfl⟩)
 obtain ⟨q,hq,hqe⟩:=List.getElem_of_mem hm;rw [List.getElem_take] at hqe;rw [List.length_take] at hq;have e1' : nth (zZ E (n+1) (yn n E)).out i=(e.1:Int):=e1;rw [nth_eq zb] at e1';have hiq:i=q:=(List.getElem_inj hT.outN).1 (e1'.trans hqe.symm);omega
theorem Ord.pos {n:Nat} {E:List (Nat×Nat)} {o:List Int} (h:Ord n E o) {v:Nat} (hv:v<n):∃ p,p<n∧nth o p=(v:Int):=by
 have hm:(v:Int)∈o:=Classical.byContradiction fun hno=>by
  have:=xr (n:=n) (l:=(v:Int)::o) (List.nodup_cons.2 ⟨hno,h.nd⟩) (fun x hx=>by
   rcases List.mem_cons.1 hx with rfl|hx
   ·omega
   ·exact h.rng x hx)
  rw [List.length_cons,h.len] at this;omega
 obtain ⟨p,hp,he⟩:=List.getElem_of_mem hm;exact ⟨p,by rw [← h.len];exact hp,by rw [nth_eq hp,he]⟩
theorem zbc {α:Type} {p q:α→Bool} {x:α} (h1:q x=true) (h2:p x=false):∀ {l:List α},(∀ y∈l,p y=true→q y=true)→x∈l→l.countP p<l.countP q
 | [], _, hx => by cases hx
 | y::l,h,hx=>by
  rw [List.countP_cons,List.countP_cons];have hm:l.countP p≤l.countP q:=List.countP_mono_left fun z hz=>h z (List.mem_cons_of_mem _ hz);by_cases hxl:x∈l
  ·have:=zbc h1 h2 (fun z hz=>h z (List.mem_cons_of_mem _ hz)) hxl;have hy:=h y zc;by_cases hp:p y=true
   ·rw [if_pos hp,if_pos (hy hp)];omega
   ·rw [if_neg hp];split <;> omega
  ·have hxy:x=y:=by
    rcases List.mem_cons.1 hx with e|e
    ·exact e
    ·exact absurd e hxl
   subst hxy;rw [if_neg (by rw [h2];decide),if_pos h1];omega
section
variable {n:Nat} {E:List (Nat×Nat)} (h:InN n E)
include h
open Classical in
theorem zcY (hc:yO E n=[]):∃ f:Nat→Nat,∀ e∈E,f e.1<f e.2:=by
 refine ⟨fun v=>(List.range n).countP fun u=>decide (Tg n E 0 u v),fun e he=>?_⟩;have hin:=h e he;have hm:((e.2:Nat):Int)∈zy E e.1:=yB.2 ⟨e,he,rfl,rfl⟩;refine zbc (x:=e.1) ?_ ?_ (fun y hy hp=>?_) (List.mem_range.2 hin.1)
 ·exact decide_eq_true (.one hm)
 ·exact decide_eq_false fun ht=>ziP h hin.1 ht hc
 ·exact decide_eq_true ((of_decide_eq_true hp).trans hin.1 (Nat.zero_le _) (.one hm))
theorem ZD (hc:yO E n=[]):rtK E n n []=some (yq n E)∧Ord n E (yq n E):=by
 obtain ⟨f,hf⟩:=zcY h hc;obtain ⟨h1,h2⟩:=zib h f hf;exact ⟨h1,zd0 h h2⟩
theorem zhl {o:List Int} (ho:Ord n E o):∃ f:Nat→Nat,∀ e∈E,f e.1<f e.2:=by
 have hp:∀ v:Nat,v<n→∃ i,i<n∧nth o i=(v:Int):=fun v hv=>ho.pos hv;refine ⟨fun v=>if hv:v<n then (hp v hv).choose else 0,fun e he=>?_⟩;have hin:=h e he;dsimp only;rw [dif_pos hin.1,dif_pos hin.2];obtain ⟨a1,a2⟩:=(hp e.1 hin.1).choose_spec;obtain ⟨b1,b2⟩:=(hp e.2 hin.2).choose_spec;exact ho.fwd e he _ _ a1 b1 a2 b2
theorem ziQ (hc:yO E n≠[]):rtK E n n []=none:=by
 rw [zdh h];split
 ·rfl
 ·rename_i hlt;exfalso;obtain ⟨_,hT⟩:=Zc h (n+1) (yn n E) (TI.start h) (by show n<0+(n+1);omega);have hle:(yq n E).length≤n:=hT.le;obtain ⟨f,hf⟩:=zhl h (zd0 h zb);exact hc (zeb h f hf)
theorem zcl {s:Nat} (hs:s<n):∀ (k v:Nat),v<n→Way E (zQ n E s) s k v→(k=0→(s:Int)∈zy E v)→
  ∀ i,i≤k→(0≤nth ((v:Int)::xY E (zQ n E s) s k v) i∧nth ((v:Int)::xY E (zQ n E s) s k v) i<n)∧(if i=k then (s:Int) else nth ((v:Int)::xY E (zQ n E s) s k v) (i+1))∈zy E (nth ((v:Int)::xY E (zQ n E s) s k v) i).toNat
 | 0,v,hv,_,h0,i,hi=>by
  obtain rfl:i=0:=by omega
  rw [if_pos rfl];refine ⟨⟨?_,?_⟩,?_⟩
  ·show (0:Int)≤(v:Int);omega
  ·show (v:Int)<n;omega
  ·show (s:Int)∈zy E ((v:Int)).toNat;rw [Int.toNat_natCast];exact h0 rfl
 | k+1,v,hv,hw,_,i,hi=>by
  rcases hw with h0|⟨w,hw,hp⟩
  ·omega
  obtain ⟨j,hj,e,hq⟩:=YL hw hp;have hin:=yr h (zL hj);have hst:xc E (zQ n E s) s (k+1:Nat) v=(nth (zy E v) j).toNat:=by unfold xc;rw [e];rfl
  obtain ⟨_,_,_,_,_,hW⟩:=Way.step h hs (.inr ⟨w,hw,hp⟩);unfold YO at hq;rw [decide_eq_true_eq] at hq;have hun:xc E (zQ n E s) s (k+1:Nat) v<n:=by rw [hst];omega
  have hu:((xc E (zQ n E s) s (k+1:Nat) v:Nat):Int)∈zy E v:=by
   rw [hst,show (((nth (zy E v) j).toNat:Nat):Int)=nth (zy E v) j by omega];exact zL hj
  have ih:=zcl hs k _ hun hW fun hk=>by
   subst hk;have:=(zas h hs 0 (xc E (zQ n E s) s (0+1:Nat) v) hun (by rw [hst];exact hq.2)).2;exact this
  cases i with
  | zero=>
   refine ⟨⟨?_,?_⟩,?_⟩
   ·show (0:Int)≤(v:Int);omega
   ·show (v:Int)<n;omega
   ·rw [if_neg zb];show ((xc E (zQ n E s) s (k+1:Nat) v:Nat):Int)∈zy E ((v:Int)).toNat;rw [Int.toNat_natCast];exact hu
  | succ i=>
   have:=ih i zb;by_cases hik:i=k
   ·rw [if_pos hik] at this;rw [if_pos zb];exact this
   ·rw [if_neg hik] at this;rw [if_neg zb];exact this
theorem zbg (hc:yO E n≠[]):∀ i,i<(yO E n).length→∃ a b:Nat,nth (yO E n) i=a∧nth (yO E n) ((i+1) % (yO E n).length)=b∧(a,b)∈E:=by
 have hg:yO E n=zaY n E n:=(Yp h).symm;rcases WB h n (Nat.le_refl n) with ⟨e,_⟩|⟨s0,K,h1,h2,e,_,_⟩
 ·exact absurd (hg.trans e) hc
 rw [hg,e];intro i hi;have hlen:((s0:Int)::xY E (zQ n E s0) s0 K s0).length=K+1:=by rw [List.length_cons,XA]
 rw [hlen] at hi ⊢;obtain ⟨k,hk,_,hW⟩:=ZC h h1 (show yJ (zQ n E s0) s0 (zy E s0)≠0 by have:yJ (zQ n E s0) s0 (zy E s0)=_:=h2;omega);have hkK:k=K:=by have:yJ (zQ n E s0) s0 (zy E s0)=_:=h2;omega
 subst hkK;obtain ⟨⟨c1,c2⟩,c3⟩:=zcl h h1 k s0 h1 hW (fun h0=>by subst h0;exact zak h h1 (L:=0) h2) i zb;have hc3:nth ((s0:Int)::xY E (zQ n E s0) s0 k s0) ((i+1) % (k+1))∈zy E (nth ((s0:Int)::xY E (zQ n E s0) s0 k s0) i).toNat:=by
  by_cases hik:i=k
  ·subst hik;rw [if_pos rfl] at c3;rw [Nat.mod_self];exact c3
  ·rw [if_neg hik] at c3;rw [Nat.mod_eq_of_lt zb];exact c3
 obtain ⟨q,hq,q1,q2⟩:=yB.1 hc3;refine ⟨q.1,q.2,by omega,q2.symm,hq⟩
end
theorem zbQ (l:List OpV) (strict:Bool):InN l.length (prs (yb l strict)):=fun e he=>by
 have:=zgi.1 (show (e.1,e.2)∈_ from he);exact ⟨this.1,this.2.1⟩
section
variable {l:List OpV} {strict:Bool}
end
structure zcp where
 check:Int
 cls:Int
 arg:Int
 ord:List Int
 ed:List EdV
 deriving DecidableEq
def ZJ (l:List OpV) (key v:Int):Bool:=l.any fun o=>decide (o.k=2) && decide (o.key=key) && decide (o.arg=v)
def XZ (l:List OpV) (v:Nat):Bool:=zS (nth l v) && decide ((nth l v).res≠0) && !ZJ l (nth l v).key (nth l v).res
def ZM (p:Nat→Bool):Nat→Nat→Option Nat
 | 0, _ => none
 | k+1, i => if p i=true then some i else ZM p k (i+1)
theorem WY {p:Nat→Bool}:∀ {k i v:Nat},ZM p k i=some v→i≤v∧v<i+k∧p v=true
 | 0, _, _, h => by cases h
 | k+1,i,v,h=>by
  unfold ZM at h;split at h
  ·rename_i hp;injection h with h
   subst h;exact ⟨Nat.le_refl _,by omega,hp⟩
  ·obtain ⟨h1,h2,h3⟩:=WY h;exact ⟨by omega,by omega,h3⟩
theorem WX {p:Nat→Bool}:∀ {k i:Nat},ZM p k i=none→∀ v,i≤v→v<i+k→p v=false
 | 0, _, _, v, _, _ => by omega
 | k+1,i,h,v,h1,h2=>by
  unfold ZM at h;split at h
  ·cases h
  ·rename_i hp;by_cases e:v=i
   ·subst e;simpa using hp
   ·exact WX h v zb zb
theorem Ug {l:List OpV} {key v:Int}:ZJ l key v=true↔∃ w,w<l.length∧(nth l w).k=2∧(nth l w).key=key∧(nth l w).arg=v:=by
 unfold ZJ;rw [List.any_eq_true];constructor
 ·rintro ⟨o,ho,h⟩;obtain ⟨w,hw,rfl⟩:=List.getElem_of_mem ho;simp only [Bool.and_eq_true,decide_eq_true_eq] at h;exact ⟨w,hw,by rw [nth_eq hw];exact h.1.1,by rw [nth_eq hw];exact h.1.2,by rw [nth_eq hw];exact h.2⟩
 ·rintro ⟨w,hw,h1,h2,h3⟩;exact ⟨_,zL hw,by simp [h1,h2,h3]⟩
def Zb (l:List OpV):Option Nat:=ZM (XZ l) l.length 0
def hd0 (l:List Int):Int:=nth l 0
def XC (l:List OpV) (strict:Bool) (c:List Int) (k:Nat):List EdV:=(List.range k).map fun i=>((nth c i).toNat,(nth c ((i+1) % c.length)).toNat,hd0 (xy l strict (nth c i).toNat (nth c ((i+1) % c.length)).toNat))
def cOf (strict:Bool):Int:=if strict=true then 4 else 3
def ym (l:List OpV) (strict:Bool):List Int:=yO (prs (yb l strict)) l.length
def Xm (l:List OpV) (strict:Bool):List Int:=(yq l.length (prs (yb l strict))).filter fun x=>zS (nth l x.toNat)
def zcj (l:List OpV) (strict:Bool):zcp:=
 match Zb l with
 | some v => ⟨cOf strict, 2, (nth l v).key, [(v:Int)], []⟩
 | none => if ym l strict=[] then ⟨cOf strict, 0, 0, Xm l strict, []⟩ else ⟨cOf strict, 5, (nth l (nth (ym l strict) 0).toNat).key, [], XC l strict (ym l strict) (ym l strict).length⟩
def UB (a b:Int):Int:=if a<b then -1 else if b<a then 1 else 0
def orI (a b:Int):Int:=if a≠0 then a else b
def zfE (a b:EdV):Int:=orI (UB a.1 b.1) (orI (UB a.2.1 b.2.1) (UB a.2.2 b.2.2))
def zhm (l:List OpV) (s:Bool) (i k:Nat):Nat:=(Xd l s i).length+(ya l s i k).length
section
variable {l:List OpV} {s:Bool}
theorem zg4 {i:Nat} {e:EdV} (he:e∈Xd l s i):e.1<i:=by
 unfold Xd ya xh at he;simp only [List.mem_flatMap,List.mem_map,List.mem_range] at he;obtain ⟨a,ha,b,hb,w,hw,rfl⟩:=he;exact ha
theorem UD {i k:Nat} {e:EdV} (he:e∈ya l s i k):e.1=i∧e.2.1<k:=by
 unfold ya xh at he;simp only [List.mem_flatMap,List.mem_map,List.mem_range] at he;obtain ⟨b,hb,w,hw,rfl⟩:=he;exact ⟨rfl,hb⟩
theorem Vx {n i:Nat} (hi:i<n):List.range n=List.range i++(i::(List.range (n - i - 1)).map fun x=>i+1+x):=by
 have h:=List.range_add (n:=i) (m:=n - i);rw [show i+(n - i)=n by omega] at h;rw [h];congr 1;have h2:=List.range_add (n:=1) (m:=n - i - 1);rw [show 1+(n - i - 1)=n - i by omega] at h2;rw [h2,List.map_append,List.map_map];simp only [List.range_one,List.map_cons,List.map_nil,Nat.add_zero,List.singleton_append];congr 1;apply List.map_congr_left;intro x _;simp only [Function.comp_apply];omega
theorem zcM {i k:Nat} (hi:i<l.length) (hk:k<l.length):∃ rest,yb l s=Xd l s i++(ya l s i k++(xh l s i k++rest))∧∀ e∈rest,(e.1=i∧k<e.2.1)∨i<e.1:=by
 refine ⟨((List.range (l.length - k - 1)).map fun x=>k+1+x).flatMap (fun j=>xh l s i j)++((List.range (l.length - i - 1)).map fun x=>i+1+x).flatMap (fun j=>ya l s j l.length),?_,fun e he=>?_⟩
 ·have e1:ya l s i l.length=ya l s i k++(xh l s i k++((List.range (l.length - k - 1)).map fun x=>k+1+x).flatMap (fun j=>xh l s i j)):=by
   unfold ya;rw [Vx hk,List.flatMap_append,List.flatMap_cons]
  unfold yb Xd;rw [Vx hi,List.flatMap_append,List.flatMap_cons,e1];simp only [List.append_assoc]
 ·rcases List.mem_append.1 he with he|he
  ·obtain ⟨j,hj,hm⟩:=List.mem_flatMap.1 he;obtain ⟨x,_,rfl⟩:=List.mem_map.1 hj;unfold xh at hm;obtain ⟨w,_,rfl⟩:=List.mem_map.1 hm;exact .inl ⟨rfl,by show k<k+1+x;omega⟩
  ·obtain ⟨j,hj,hm⟩:=List.mem_flatMap.1 he;obtain ⟨x,_,rfl⟩:=List.mem_map.1 hj;have:=(UD hm).1;exact .inr zb
theorem zhK {i k:Nat} {w:Int} (h:w∈xy l s i k):2≤w∧w≤5:=by
 unfold xy at h;split at h
 ·unfold zh7 at h;simp only [List.mem_append,zhj] at h;omega
 ·cases h
theorem zg1 {a b:EdV}:zfE a b<0↔a.1<b.1∨(a.1=b.1∧(a.2.1<b.2.1∨(a.2.1=b.2.1∧a.2.2<b.2.2))):=by
 obtain ⟨a1,a2,a3⟩:=a;obtain ⟨b1,b2,b3⟩:=b;unfold zfE orI UB;dsimp only;split
 ·split
  ·omega
  ·split <;> omega
 ·split
  ·split
   ·omega
   ·split <;> omega
  ·split
   ·omega
   ·split <;> omega
theorem xC {α:Type} [Inhabited α] {x y:List α} {j:Nat} (h:x.length≤j):nth (x++y) j=nth y (j - x.length):=by
 unfold nth;rw [List.getD_eq_getElem?_getD,List.getD_eq_getElem?_getD,List.getElem?_append_right h]
theorem zhn {i k:Nat} (hi:i<l.length) (hk:k<l.length) (hne:xy l s i k≠[]):zhm l s i k<(yb l s).length∧nth (yb l s) (zhm l s i k)=(i,k,hd0 (xy l s i k))∧∀ j,j<(yb l s).length→(zfE (nth (yb l s) j) (i,k,0)<0↔j<zhm l s i k):=by
 obtain ⟨rest,he,hr⟩:=zcM (s:=s) hi hk;obtain ⟨w,ws,hw⟩:=List.exists_cons_of_ne_nil hne;have hrow:xh l s i k=(i,k,w)::ws.map fun w=>(i,k,w):=by unfold xh;rw [hw];rfl
 have hhd:hd0 (xy l s i k)=w:=by rw [hw];rfl
 have hlen:zhm l s i k<(yb l s).length:=by
  rw [he,hrow];unfold zhm;simp only [List.length_append,List.length_cons];omega
 refine ⟨hlen,?_,fun j hj=>?_⟩
 ·rw [he,hhd];unfold zhm;rw [xC zb,xC zb,hrow,show (Xd l s i).length+(ya l s i k).length - (Xd l s i).length - (ya l s i k).length=0 by omega];rfl
 ·rw [zg1];unfold zhm;rw [he] at hj ⊢;rcases Nat.lt_or_ge j (Xd l s i).length with h1|h1
  ·rw [yz h1];have:=zg4 (zL h1);dsimp only;omega
  ·rw [xC h1];rw [List.length_append] at hj;rcases Nat.lt_or_ge (j - (Xd l s i).length) (ya l s i k).length with h2|h2
   ·rw [yz h2];have:=UD (zL h2);dsimp only;omega
   ·rw [xC h2];rw [List.length_append] at hj;have hm:nth (xh l s i k++rest) (j - (Xd l s i).length - (ya l s i k).length)∈xh l s i k++rest:=zL zb;generalize nth (xh l s i k++rest) (j - (Xd l s i).length - (ya l s i k).length)=e0 at hm ⊢;dsimp only;rcases List.mem_append.1 hm with hm|hm
    ·unfold xh at hm;obtain ⟨w',hw',e⟩:=List.mem_map.1 hm;rw [← e];have:=zhK hw';dsimp only;omega
    ·have:=hr _ hm;omega
end
def okK (o:OpV):Bool:=decide (o.k=0) || (decide (o.k=2) && decide (o.arg≠0))
def ziV (l:List OpV) (i:Nat):Bool:=okK (nth l i) && !(decide ((nth l i).k=2) && ZJ (l.take i) (nth l i).key (nth l i).arg)
def zbP (l:List OpV) (i:Nat):Bool:=(nth l i).done && l.any fun o=>decide (o.k=2) && decide (o.key=(nth l i).key) && decide (o.arg=(nth l i).res) && !o.done
def zge (l:List OpV) (i:Nat):Bool:=(List.range i).all (ziV l)
def YF (l:List OpV) (i:Nat):Bool:=(List.range i).any (zbP l)
def xB (l:List OpV):Bool:=zge l l.length && !YF l l.length
theorem zgf (l:List OpV) (i:Nat):zge l (i+1)=(zge l i && ziV l i):=by
 unfold zge;rw [List.range_succ,List.all_append];simp
theorem zc1 (l:List OpV) (i:Nat):YF l (i+1)=(YF l i || zbP l i):=by
 unfold YF;rw [List.range_succ,List.any_append];simp
theorem Xy {l:List OpV} {i:Nat} (hi:i≤l.length) {key v:Int}:ZJ (l.take i) key v=true↔∃ w,w<i∧(nth l w).k=2∧(nth l w).key=key∧(nth l w).arg=v:=by
 rw [Ug];have e:∀ w,w<i→nth (l.take i) w=nth l w:=fun w hw=>by rw [nth_eq zI,nth_eq zb,List.getElem_take]
 have hl:(l.take i).length=i:=by simp;omega
 rw [hl];constructor
 ·rintro ⟨w,hw,h⟩;exact ⟨w,hw,by rw [← e w hw];exact h⟩
 ·rintro ⟨w,hw,h⟩;exact ⟨w,hw,by rw [e w hw];exact h⟩
structure zjz (l:List OpV) (i:Nat):Prop where
 kind:∀ j,j<i→(nth l j).k=0∨((nth l j).k=2∧(nth l j).arg≠0)
 uniq:∀ j q,j<q→q<i→(nth l j).k=2→(nth l q).k=2→(nth l j).key=(nth l q).key→(nth l j).arg≠(nth l q).arg
theorem zdN {l:List OpV} {i:Nat} (hi:i≤l.length):zge l i=true↔zjz l i:=by
 unfold zge ziV okK;simp only [List.all_eq_true,List.mem_range,Bool.and_eq_true,Bool.or_eq_true,decide_eq_true_eq,Bool.not_eq_true',Bool.and_eq_false_iff,decide_eq_false_iff_not];constructor
 ·intro h;refine ⟨fun j hj=>(h j hj).1,fun j q hjq hq k1 k2 hk ha=>?_⟩;rcases (h q hq).2 with h1|h1
  ·exact h1 k2
  ·have:=Xy (l:=l) (i:=q) zb |>.2 ⟨j,hjq,k1,hk,ha⟩;rw [h1] at this;cases this
 ·intro h j hj;refine ⟨h.kind j hj,?_⟩;by_cases h2:(nth l j).k=2
  ·right;cases hw:ZJ (l.take j) (nth l j).key (nth l j).arg with
   | false => rfl
   | true =>
    obtain ⟨w,w1,w2,w3,w4⟩:=(Xy zb).1 hw;exact absurd w4 (h.uniq w j w1 hj w2 h2 w3)
  ·exact .inl h2
theorem Xc {l:List OpV}:xB l=true↔ziN l:=by
 unfold xB;rw [Bool.and_eq_true,zdN (Nat.le_refl _),Bool.not_eq_true'];unfold YF zbP;constructor
 ·rintro ⟨h,hp⟩;refine ⟨fun i hi=>by rcases h.kind i hi with e|e;exact .inl e;exact .inr e.1,fun i hi h2=>by rcases h.kind i hi with e|e;omega;exact e.2,fun i j hi hj k1 k2 hk ha=>?_,fun i k hi hk k2 hkk hd ha=>?_⟩
  ·rcases Nat.lt_trichotomy i j with hlt|he|hgt
   ·exact absurd ha (h.uniq i j hlt hj k1 k2 hk)
   ·exact he
   ·exact absurd ha.symm (h.uniq j i hgt hi k2 k1 hk.symm)
  ·have h1:=List.any_eq_false.1 hp i (List.mem_range.2 hi);rw [hd,Bool.true_and,Bool.not_eq_true,List.any_eq_false] at h1;have h2:=h1 (nth l k) (zL hk);simpa [k2,hkk,ha] using h2
 ·intro h;refine ⟨⟨fun j hj=>?_,fun j q hjq hq k1 k2 hk ha=>?_⟩,?_⟩
  ·rcases h.kind j hj with e|e
   ·exact .inl e
   ·exact .inr ⟨e,h.arg j hj e⟩
  ·have:=h.uniq j q zb hq k1 k2 hk ha;omega
  ·refine List.any_eq_false.2 fun i hi=>?_;have hi:=List.mem_range.1 hi;cases hd:(nth l i).done with
   | false => simp
   | true =>
    rw [Bool.true_and,Bool.not_eq_true,List.any_eq_false];intro o ho;obtain ⟨k,hk,rfl⟩:=List.getElem_of_mem ho;rw [← nth_eq hk];intro hc;simp only [Bool.and_eq_true,decide_eq_true_eq,Bool.not_eq_true'] at hc;have:=h.pend i k hi hk hc.1.1.1 hc.1.1.2 hd hc.1.2;rw [hc.2] at this;cases this
section
open Go.RowKit
def EdV.fv (e:EdV):List FV:=[.int .i64 e.1,.int .i64 e.2.1,.int .i64 e.2.2]
theorem EdV.flatsM (l:List EdV):∀ e∈l.map EdV.fv,FV.flat.flats e=true:=fun e he=>by
 obtain ⟨x,_,rfl⟩:=List.mem_map.1 he;rfl
theorem XX (o:OpV):zY Try.prog 12 [.agg o.fv] .fr (.bool (zS o)):=by
 refine zY.of_body (c:=(xa Try.prog zD zq 15)) ⟨Try.func12,rfl,Try.ntmps12,by kernel_rfl⟩ zC zp rfl ?_;change FW _ _ _ ⟨[(0,.agg o.fv)],[]⟩;refine za ?_;refine zJ (fun h1=>?_) (fun h1=>?_)
 ·refine za ?_;refine zJ (fun h2=>?_) (fun h2=>?_)
  ·refine za ?_;refine FW.ret ⟨.inl rfl,zm rfl rfl ?_ rfl⟩;simp at h1 h2;simp [zS,h1,h2];rfl
  ·refine za ?_;refine FW.ret ⟨.inl rfl,zm rfl rfl ?_ rfl⟩;simp at h1 h2;simp [zS,h1,h2];rfl
 ·refine za ?_;refine FW.ret ⟨.inl rfl,zm rfl rfl ?_ rfl⟩;simp [zS,h1];rfl
abbrev zfq (l:List OpV):FV:=.eptr 1 [[.list 8 (l.map OpV.fv)]] 0 0
theorem VT (l:List OpV) (i k:Nat) (kd:Int) (hi:i<l.length) (hk:k<l.length):zY Try.prog 28 ([.int .i64 i,.int .i64 k,.int .i64 kd]++[zfq l]) .fr (.bool (xg (nth l i) (nth l k) kd)):=by
 obtain ⟨a,ha⟩:∃ a,nth l i=a:=⟨_,rfl⟩
 obtain ⟨b,hb⟩:∃ b,nth l k=b:=⟨_,rfl⟩
 rw [ha,hb];refine zY.of_body (c:=(xa Try.prog zD zq 41)) ⟨Try.func28,rfl,Try.ntmps28,by kernel_rfl⟩ zC zp rfl ?_;change FW _ _ _ ⟨[(0,.int .i64 i),(1,.int .i64 k),(2,.int .i64 kd),(3,.eptr 1 [[.list 8 (l.map OpV.fv)]] 0 0)],[]⟩;refine yf ?_;refine ⟨by kernel_rfl,?_⟩;rw [ha,hb];refine za ?_;refine zJ (fun h1=>?_) (fun h1=>?_)
 ·refine za ?_;refine zJ (fun h2=>?_) (fun h2=>?_)
  ·refine za ?_;refine zJ (fun h3=>?_) (fun h3=>?_)
   ·refine za ?_;refine FW.ret ⟨.inl rfl,zm rfl rfl ?_ rfl⟩;simp at h1 h2 h3;simp [xg,h1,h2,h3];rfl
   ·refine za ?_;refine FW.ret ⟨.inl rfl,zm rfl rfl ?_ rfl⟩;simp at h1 h2 h3;simp [xg,h1,h2,h3];rfl
  ·refine za ?_;refine FW.ret ⟨.inl rfl,zm rfl rfl ?_ rfl⟩;simp at h1 h2;simp [xg,h1,h2];rfl
 ·refine za ?_;refine FW.ret ⟨.inl rfl,zm rfl rfl ?_ rfl⟩;simp at h1;simp [xg,h1];rfl
abbrev ziJ (l:List OpV):FV:=.eptr 1 [[.fn 28 [zfq l]]] 0 0
theorem zc9 (l:List OpV) (i k:Nat) (hi:i<l.length) (hk:k<l.length):zY Try.prog 29 ([.int .i64 i,.int .i64 k]++[ziJ l]) .fr (.bool (xg (nth l i) (nth l k) 0)):=by
 refine zY.of_body (c:=(xa Try.prog zD zq 10)) ⟨Try.func29,rfl,Try.ntmps29,by kernel_rfl⟩ zC zp rfl ?_;change FW _ _ _ ⟨[(0,.int .i64 i),(1,.int .i64 k),(2,.eptr 1 [[.fn 28 [zfq l]]] 0 0)],[]⟩;refine za ?_;refine Xr rfl (VT l i k 0 hi hk) (by repeat (first|exact zx.nil|refine zx.cons zt ?_)) rfl rfl ?_;refine za ?_;exact FW.ret ⟨.inl rfl,zm rfl rfl rfl rfl⟩
theorem zda (l:List OpV) (i k:Nat) (hi:i<l.length) (hk:k<l.length):zY Try.prog 30 ([.int .i64 i,.int .i64 k]++[ziJ l]) .fr (.bool (xg (nth l i) (nth l k) 2)):=by
 refine zY.of_body (c:=(xa Try.prog zD zq 10)) ⟨Try.func30,rfl,Try.ntmps30,by kernel_rfl⟩ zC zp rfl ?_;change FW _ _ _ ⟨[(0,.int .i64 i),(1,.int .i64 k),(2,.eptr 1 [[.fn 28 [zfq l]]] 0 0)],[]⟩;refine za ?_;refine Xr rfl (VT l i k 2 hi hk) (by repeat (first|exact zx.nil|refine zx.cons zt ?_)) rfl rfl ?_;refine za ?_;exact FW.ret ⟨.inl rfl,zm rfl rfl rfl rfl⟩
theorem zdb (l:List OpV) (i k:Nat) (hi:i<l.length) (hk:k<l.length):zY Try.prog 31 ([.int .i64 i,.int .i64 k]++[zfq l]) .fr (.bool (YP i k (nth l i) (nth l k))):=by
 obtain ⟨a,ha⟩:∃ a,nth l i=a:=⟨_,rfl⟩
 obtain ⟨b,hb⟩:∃ b,nth l k=b:=⟨_,rfl⟩
 rw [ha,hb];refine zY.of_body (c:=(xa Try.prog zD zq 43)) ⟨Try.func31,rfl,Try.ntmps31,by kernel_rfl⟩ zC zp rfl ?_;change FW _ _ _ ⟨[(0,.int .i64 i),(1,.int .i64 k),(2,.eptr 1 [[.list 8 (l.map OpV.fv)]] 0 0)],[]⟩;refine yf ?_;refine yK (fun h1=>?_) (fun h1=>?_)
 ·refine zw ?_;rw [ha,hb];refine yK (fun h2=>?_) (fun h2=>?_)
  ·refine zw ?_;rw [ha,hb];refine yK (fun h3=>?_) (fun h3=>?_)
   ·refine zw ?_;rw [hb];refine ⟨by kernel_rfl,?_⟩;skip;refine FW.ret ⟨.inl rfl,zm rfl rfl ?_ rfl⟩;simp at h1 h2 h3;have h1:i≠k:=by omega
    simp [YP,h1,h2,h3];rfl
   ·refine zw ?_;refine ⟨by kernel_rfl,?_⟩;skip;refine FW.ret ⟨.inl rfl,zm rfl rfl ?_ rfl⟩;simp at h1 h2 h3;have h1:i≠k:=by omega
    simp [YP,h1,h2,h3];rfl
  ·refine zw ?_;refine ⟨by kernel_rfl,?_⟩;skip;refine FW.ret ⟨.inl rfl,zm rfl rfl ?_ rfl⟩;simp at h1 h2;have h1:i≠k:=by omega
   simp [YP,h1,h2];rfl
 ·refine zw ?_;refine ⟨by kernel_rfl,?_⟩;skip;refine FW.ret ⟨.inl rfl,zm rfl rfl ?_ rfl⟩;simp at h1;have h1:i=k:=by omega
  simp [YP,h1];rfl
theorem zdc (l:List OpV) (i k:Nat) (hi:i<l.length) (hk:k<l.length):zY Try.prog 32 ([.int .i64 i,.int .i64 k]++[zfq l]) .fr (.bool (bef l i k)):=by
 refine zY.of_body (c:=(xa Try.prog zD zq 10)) ⟨Try.func32,rfl,Try.ntmps32,by kernel_rfl⟩ zC zp rfl ?_;change FW _ _ _ ⟨[(0,.int .i64 i),(1,.int .i64 k),(2,.eptr 1 [[.list 8 (l.map OpV.fv)]] 0 0)],[]⟩;refine za ?_;refine zV (Wm l i k hi hk) (by repeat (first|exact zx.nil|refine zx.cons zt ?_)) rfl rfl ?_;refine za ?_;exact FW.ret ⟨.inl rfl,zm rfl rfl rfl rfl⟩
def zdZ (l:List OpV) (s:Bool):List (List FV):=
 [[.int .i64 2,.fn 29 [ziJ l]],[.int .i64 3,.fn 30 [ziJ l]],[.int .i64 4,.fn 31 [zfq l]]]++if s=true then [[.int .i64 5,.fn 32 [zfq l]]] else []
theorem zff (l:List OpV) (s:Bool):zY Try.prog 11 [.list 8 (l.map OpV.fv),.bool s] .sh (.list 2 (zdZ l s)):=by
 refine zY.of_body (c:=(xa Try.prog zD zq 22)) ⟨Try.func11,rfl,Try.ntmps11,by kernel_rfl⟩ zC zp rfl ?_;change FW _ _ _ ⟨[(0,.list 8 (l.map OpV.fv)),(1,.bool s)],[]⟩
 (repeat (first|refine FW.seq ?_|refine FW.region ?_|refine zi.nil ?_|refine zgt rfl rfl rfl rfl rfl ?_|refine zO rfl rfl rfl ?_))
 refine zi.le ?_ (FLe.shareP 2 rfl rfl)
 (repeat (first|refine Yz rfl rfl rfl rfl ?_))
 refine zb2 rfl rfl rfl rfl rfl ?_
 (repeat (first|refine FW.seq ?_|refine FW.region ?_|refine zi.nil ?_|refine ze8 rfl rfl rfl rfl rfl rfl (by simp;done) rfl ?_))
 refine zi.le ?_ (FLe.ofH 5 rfl rfl);refine zi.le ?_ (FLe.shareP 5 rfl rfl);refine za ?_;refine Xq (es:=[[.int .i64 2,.fn 29 [ziJ l]],[.int .i64 3,.fn 30 [ziJ l]],[.int .i64 4,.fn 31 [zfq l]]]) rfl rfl rfl (by refine xw.agg rfl rfl rfl ?_;refine xw.agg rfl rfl rfl ?_;refine xw.agg rfl rfl rfl ?_;exact xw.nil) rfl rfl rfl rfl rfl rfl ?_;refine za ?_;refine FW.cond rfl (fun h=>?_) (fun h=>?_)
 ·subst h;refine za ?_;refine FW.le ?_ (FLe.share 4 rfl rfl rfl);exact FW.ret ⟨.inl rfl,.sh (.cons (.tmp 4 rfl rfl) .nil) rfl rfl⟩
 ·subst h;refine za ?_;refine FW.le ?_ (FLe.share 4 rfl rfl rfl);exact FW.ret ⟨.inl rfl,.sh (.cons (.tmp 4 rfl rfl) .nil) rfl rfl⟩
def zc8 (l:List OpV) (i k:Nat):Nat→Bool
 | 0 => xg (nth l i) (nth l k) 0
 | 1 => xg (nth l i) (nth l k) 2
 | 2 => YP i k (nth l i) (nth l k)
 | _ => bef l i k
def Wp (s:Bool):Nat:=if s=true then 4 else 3
theorem zfd (l:List OpV) (s:Bool):(zdZ l s).length=Wp s:=by cases s <;> rfl
theorem zfe (l:List OpV) (s:Bool) {j:Nat} (hj:j<Wp s):∃ f caps,nth (zdZ l s) j=[.int .i64 ((j:Int)+2),.fn f caps]∧∀ i k:Nat,i<l.length→k<l.length→zY Try.prog f ([.int .i64 i,.int .i64 k]++caps) .fr (.bool (zc8 l i k j)):=by
 have h4:j=0∨j=1∨j=2∨(j=3∧s=true):=by
  unfold Wp at hj;cases s with
  | true => rw [if_pos rfl] at hj; simp; omega
  | false => rw [if_neg zg] at hj; simp; omega
 rcases h4 with rfl|rfl|rfl|⟨rfl,rfl⟩
 ·exact ⟨_,_,by cases s <;> rfl,fun i k hi hk=>zc9 l i k hi hk⟩
 ·exact ⟨_,_,by cases s <;> rfl,fun i k hi hk=>zda l i k hi hk⟩
 ·exact ⟨_,_,by cases s <;> rfl,fun i k hi hk=>zdb l i k hi hk⟩
 ·exact ⟨_,_,rfl,fun i k hi hk=>zdc l i k hi hk⟩
def xv (l:List OpV) (i k:Nat):Nat→List Int
 | 0 => []
 | j+1 => xv l i k j ++ xP (zc8 l i k j) ((j:Int)+2)
theorem zfc (l:List OpV) (s:Bool) (i k:Nat):xv l i k (Wp s)=zh7 l s i k:=by
 unfold zh7;cases s with
 | true => simp [Wp, xv, zc8]
 | false => simp [Wp, xv, zc8, xP]
theorem zaa (l:List OpV) (i k:Nat):∀ j,(xv l i k j).length≤j
 | 0 => Nat.zero_le _
 | j+1 => by
  have:=zaa l i k j;have:=xD (zc8 l i k j) ((j:Int)+2);rw [xv,List.length_append];omega
def zjc (d:Nat):Operand→Bool
 | .tmp k => !Nat.beq k d
 | _ => true
theorem Wr (w:World) (xs ys:Array Value) (T:TypeId):(w.alloc (.cells xs T)).setRow w.heap.size ys=w.alloc (.cells ys T):=by
 unfold World.setRow World.alloc;dsimp only;congr 1;apply Array.ext
 ·simp
 ·intro i h1 h2;rw [Array.getElem_modify];by_cases e:w.heap.size=i
  ·subst e;simp
  ·rw [if_neg e];have hi:i<w.heap.size:=by simp at h2;omega
   rw [Array.getElem_push_lt hi,Array.getElem_push_lt hi]
section
variable {c:Ctx} {ops:Array Oper} {rest:List Oper} {t:List (Nat×FV)} {ob:List (Nat×zn)} {d:Nat} {ty ty2:TypeId} {pos pos2:String} {af af2:Array Edge} {QS:FSt→Prop}
theorem zc5 {T sz by_:Nat} {kk:TK} {z fs:List FV} {x:Operand} {v0 E0 sz0:Nat} {lf0:zX} {es0:List (List FV)} (hx:(⟨t,ob⟩:FSt).ev x=.agg fs) (hxd:zjc d x=true) (hT:c.ty T=⟨kk,sz,by_,z⟩) (hk:kk.known=true) (h1:fs.all FV.one=true) (hl:fs.length=sz) (hv:(⟨t,ob⟩:FSt).ob d=⟨v0,lf0,E0,sz0,es0⟩) (hd:Nat.blt d c.N=true)
  (k:zi c ops rest ⟨((d,(.ptr d (v0+1) 0 0))::t),((d,⟨v0+1,.own,T,sz,[fs]⟩)::ob)⟩ QS) :
  zi c ops ((⟨some d,.alloc T,ty,pos,af,none⟩:Oper)::(⟨none,.store T (.tmp d) x,ty2,pos2,af2,none⟩:Oper)::rest) ⟨t,ob⟩ QS:=fun QQ w0 J a w β hQ hF=>by
 have hkn:(c.ty T).k≠.other:=fun e=>by rw [hT] at e;dsimp only at e;rw [e] at hk;cases hk
 have hdN:d<c.N:=Nat.le_of_ble_eq_true hd;obtain ⟨vb,wb,βb,hrun,hFb,hVb,hverb⟩:=zdD (ty:=ty) (pos:=pos) (after:=af) (g:=none) hF d (T:=T) x hx h1;have hbox:(execOp a.eval ⟨some d,.box T x,ty,pos,af,none⟩).run c.P w=.ok (.value (.pointer (some ⟨w.heap.size,0,none⟩))) (w.alloc (.cells (a.eval x).cells T)):=by
  simp [execOp,Instr.box,newVar,newRow]
 rw [hbox] at hrun;injection hrun with e1 e2
 injection e1 with e1
 subst e1;subst e2;obtain ⟨zv,z1,_,z3⟩:=yw (c:=c) (T:=T) hkn w;have hall:(execOp a.eval ⟨some d,.alloc T,ty,pos,af,none⟩).run c.P w=.ok (.value (.pointer (some ⟨w.heap.size,0,none⟩))) (w.alloc (.cells zv.cells T)):=by
  simp [execOp,Instr.alloc,z1,newVar,newRow]
 unfold wpList;rw [if_pos (zM.model hF (show zM ops ⟨t,ob⟩ (⟨some d,.alloc T,ty,pos,af,none⟩:Oper) true from rfl))];refine .inl ?_;unfold Oper.wp;rw [hall,Oper.upon_value];have hrd:=hF.ev_rd hx (Rd.nohand h1);obtain ⟨hc1,hc2⟩:=hrd.cells h1;have hcl:(a.eval x).cells.toList.length=(c.ty T).size:=by rw [hc1.1,hT];exact hl
 have hzs:zv.cells.size=(c.ty T).size:=z3;have hevx:(a.put (some d) (.pointer (some ⟨w.heap.size,0,none⟩))).eval x=a.eval x:=by
  cases x with
  | tmp i =>
   show (a.put (some d) _).tmps.getD i undef=a.tmps.getD i undef;rw [Xh a d _ i (by rw [hF.size];exact hdN)];rw [if_neg (fun e=>by subst e;simp [zjc] at hxd)]
  | _ => rfl
 have hevd:(a.put (some d) (.pointer (some ⟨w.heap.size,0,none⟩))).eval (.tmp d)=.pointer (some ⟨w.heap.size,0,none⟩):=by
  show (a.put (some d) _).tmps.getD d undef=_;rw [Xh a d _ d (by rw [hF.size];exact hdN),if_pos rfl]
 have hblk:(w.alloc (.cells zv.cells T)).heap[w.heap.size]? = some (.cells zv.cells T (0,0)):=by show (w.heap.push _)[w.heap.size]? = _;simp
 have hst:=run_storeCells_at c.P w.heap.size 0 T (a.eval x).cells.toList 0 zv.cells (w.alloc (.cells zv.cells T)) hblk zb hc2;have hfill:(splice zv.cells.toList 0 (a.eval x).cells.toList).toArray=(a.eval x).cells:=by
  apply Array.ext';show List.take 0 _++_++List.drop _ _=_;rw [List.take_zero,List.nil_append,List.drop_of_length_le (by simp at hcl ⊢;omega),List.append_nil]
 have hst' : (storeCells ⟨w.heap.size,0,none⟩ (a.eval x).cells.toList).run c.P (w.alloc (.cells zv.cells T))=.ok () (w.alloc (.cells (a.eval x).cells T)):=by
  rw [← Wr w zv.cells (a.eval x).cells T];simp only [Nat.add_zero,Nat.zero_add] at hst;have hf2:(zv.cells.toList.take 0++(a.eval x).cells.toList++zv.cells.toList.drop (a.eval x).cells.toList.length).toArray=(a.eval x).cells:=by
   have:=hfill;unfold splice at this;simpa using this
  rw [hf2] at hst;exact hst
 have hs:=yi (c:=c) hkn (w.alloc (.cells zv.cells T));have hcs:(a.eval x).cells.size=(c.ty T).size:=by simpa using hcl
 have hstore:(execOp (a.put (some d) (.pointer (some ⟨w.heap.size,0,none⟩))).eval ⟨none,.store T (.tmp d) x,ty2,pos2,af2,none⟩).run c.P (w.alloc (.cells zv.cells T))=.ok .skip (w.alloc (.cells (a.eval x).cells T)):=by
  simp [execOp,Instr.storeAt,storeVar,hevd,hevx,Instr.sureAddr,hs,hcs,hst']
 show wpList c.P ops QQ (_::rest) _ _;unfold wpList;rw [if_pos (by rfl)];refine .inl ?_;unfold Oper.wp;rw [hstore,Oper.upon_skip];rw [hv] at hFb hVb hverb;dsimp only [FV.cells] at hFb hVb hverb;rw [hl] at hFb hVb hverb;exact k QQ w0 J _ _ _ hQ (hFb.put hdN hVb hverb)
theorem zeo {w0 w:World} {J:JJ} {s:FSt} {a:Act} {β:Nat→Option Nat} {g:Option (Nat×Bool)} {dst:Option Nat} (h:FR c.N w0 J s a w β) {T e:Nat} (hT:(c.ty T).k=.slice e) (he:(c.ty e).k≠.other) (hz:(c.ty e).size=1) {f0:FV} (hz0:(c.ty e).zero=[f0]) (h1:f0.one=true) (x:Operand) {id ver o m:Nat} (ex:s.ev x=.own id ver o m) (hl:(s.ob id).life=.own) (hv:(s.ob id).ver=ver) (hsz:(s.ob id).sz=1) (hm0:0<m) :
  ∃ W,(execOp a.eval ⟨dst,.call { callee:=.builtin .clear,args:=#[x],argTypes:=#[T] },ty,pos,af,g⟩).run c.P w=.ok (.value (.tuple #[])) W∧FR c.N w0 J (s.wr [(id,{ s.ob id with es:=splice (s.ob id).es o (List.replicate m [f0]) })]) a W β:=by
 have hlive:(s.ob id).life≠.dead:=by rw [hl];decide
 have hrl:(s.ob id).life.row=true:=by rw [hl];rfl
 obtain ⟨dd,ii,z,ht⟩:=c.get hT zc;have hd:=ht.k;rw [hT] at hd;obtain rfl:=yo hd;obtain ⟨zv,z1,z2,z3⟩:=yw he w;rw [hz] at z3;rw [hz0] at z2;obtain ⟨u,hu⟩:∃ u,zv.cells=#[u]:=by
  have hl:zv.cells.toList.length=1:=by simpa using z3
  obtain ⟨u,hu⟩:=List.length_eq_one_iff.1 hl;exact ⟨u,by apply Array.ext';rw [hu]⟩
 have hrz:RdL w (Imm J w β s) [u] [f0]:=by have:=RdL.zeros (w:=w) (I:=Imm J w β s) z2;rwa [hu] at this
 have hru:=hrz.2 0 u f0 rfl rfl;have hou:=hru.oneCell h1;obtain ⟨A,cc,e1,e2,e3,e4,e5⟩:=(h.ev_own ex hlive hv).ex;obtain ⟨b,hb⟩:∃ b,β id=some b:=by
  cases hbb:β id with
  | none => obtain ⟨q1, q2⟩ := e4 hbb; omega
  | some b => exact ⟨b, rfl⟩
 obtain ⟨o',rfl,k2,k3⟩:=e5 b hb;have:=k2 (.inl zb);subst this;obtain ⟨cur,cap,hblk,hn,hm,hcs,hr,hrow⟩:=h.block hlive hrl hb;have hw:=((h.obj id hlive).rowR hrl).wide;have hone:=((h.obj id hlive).rowR hrl).one;rw [hsz] at hw hcs hr hrow e1;simp only [Nat.mul_one] at hcs hr hrow e1;generalize hes:(s.ob id).es=es at hn hr hrow hw hone e3;obtain ⟨us,hus⟩:∃ us,List.replicate m u=us:=⟨_,rfl⟩
 have husl:us.length=m:=by rw [← hus];simp
 obtain ⟨q2,hq2⟩:∃ q2,List.replicate m [f0]=q2:=⟨_,rfl⟩
 have hq2l:q2.length=m:=by rw [← hq2];simp
 have hd1:∀ q∈q2,q.length=1:=fun q hq=>by rw [← hq2] at hq;rw [List.eq_of_mem_replicate hq];rfl
 have hqf:q2.flatten=List.replicate m f0:=by rw [← hq2,List.flatten_replicate_singleton]
 have hr3:RdL w (Imm J w β s) us q2.flatten:=by
  rw [hqf,← hus];refine ⟨by simp,fun j v f hv hf=>?_⟩;have a1:=List.eq_of_mem_replicate (List.mem_of_getElem? hv);have a2:=List.eq_of_mem_replicate (List.mem_of_getElem? hf);rw [a1,a2];exact hru
 have h1u:∀ v∈us,v.oneCell'=true:=fun v hv=>by rw [← hus] at hv;rw [List.eq_of_mem_replicate hv];exact hou
 have hfit:o+us.length≤cur.size:=by rw [husl,hcs];omega
 have hst:=run_storeCells_at c.P b o (s.ob id).E us 0 cur w hblk zb h1u;simp only [Nat.add_zero] at hst;obtain ⟨W,hW⟩:∃ W,W=w.setRow b (splice cur.toList o us).toArray:=⟨_,rfl⟩
 have hst' : (storeCells ⟨b,o,none⟩ us).run c.P w=.ok () W:=by rw [hW];exact hst
 have hWb:W.heap[b]? = some (.cells (splice cur.toList o us).toArray (s.ob id).E (0,0)):=by rw [hW];exact yp w b _ cur _ hblk
 have hgrown:w.grownBy W (β id):=by
  subst hW;refine ⟨rfl,rfl,rfl,by simp [World.setRow],fun k hk hne=>yx w b k _ (fun e=>hne (by rw [e,hb]))⟩
 have hcl:cur.toList.length=cap:=by simpa using hcs
 have htl:(cur.toList.take es.length).length=es.length:=by rw [List.length_take,hcl];omega
 have hslen:(splice es o q2).length=es.length:=yt zb;have hrow' : W.ownsRow w0.heap.size (s.ob id).E 1 (.slice (some ⟨b,0,none⟩) es.length cap) (splice es o q2).length (splice (cur.toList.take es.length) o us):=by
  rw [hslen];refine ⟨?_,.inr ⟨b,cap,_,rfl,((h.obj id hlive).lt hb).1,hWb,hn,hm,?_,?_⟩⟩
  ·rw [yt zb,htl,Nat.mul_one]
  ·simp only [List.size_toArray];rw [yt zb,hcl,Nat.mul_one]
  ·rw [Nat.mul_one];have key:∀ (L p:Nat) (cs ds:List Value),p+ds.length≤L→L≤cs.length→(splice cs p ds).take L=splice (cs.take L) p ds:=by
    intro L p cs ds h1 h2;unfold splice;rw [List.append_assoc,List.append_assoc,List.take_append,List.length_take,Nat.min_eq_left zb,List.take_append,List.take_take,List.take_take,Nat.min_eq_right zb,Nat.min_eq_left zb,List.take_of_length_le (by omega:ds.length≤L - p),List.drop_take];congr 3;omega
   exact key _ _ _ _ zb zb
 refine ⟨W,?_,?_⟩
 ·have hzc:(Builtin.zeroCells zv.cells m).toList=us:=by
   rw [hu,← hus];simp [Builtin.zeroCells];apply List.ext_getElem
   ·simp
   ·intro i h1 h2;simp [Nat.mod_one]
  obtain ⟨m',rfl⟩:∃ m',m=m'+1:=⟨m - 1,by omega⟩
  have hrunc:(Builtin.clear_ #[T] ty #[.slice (some ⟨b,o,none⟩) (m'+1) cc]).run c.P w=.ok (.tuple #[]) W:=by
   simp [Builtin.clear_,run_underlying ht.u,z1,hzc,hst']
  simp [execOp,resolve,invoke,builtin,e1,hrunc]
 ·refine h.write id (es:=splice es o q2) (v:=.slice (some ⟨b,0,none⟩) es.length cap) (xs:=splice (cur.toList.take es.length) o us) hl hgrown ?_ ?_ ?_ hb.symm ?_ ?_ ?_ (fun k=>?_) (fun k=>FSt.wr_get _ _ _)
  ·rw [hsz];intro q hq;rcases Zm hq with hq|hq
   ·exact hw q hq
   ·exact hd1 q hq
  ·intro f hf;obtain ⟨q,hq,hfq⟩:=List.mem_flatten.1 hf;rcases Zm hq with hq|hq
   ·exact hone f (List.mem_flatten.2 ⟨q,hq,hfq⟩)
   ·have hff:f∈q2.flatten:=List.mem_flatten.2 ⟨q,hq,hfq⟩;rw [hqf] at hff;rw [List.eq_of_mem_replicate hff];exact h1
  ·rw [hsz];exact hrow'
  ·rw [Wj hw hd1];exact hr.splice hr3 _
  ·rw [hes,hslen]
  ·intro b' cur1 cur2 hb' h1 h2;rw [hb] at hb';injection hb' with hb'
   subst hb';rw [hblk] at h1;injection h1 with h1
   injection h1 with h1 _ _
   subst h1;rw [hWb] at h2;injection h2 with h2
   injection h2 with h2 _ _
   rw [← h2];simp only [List.size_toArray];rw [yt zb,hcl,hcs]
  ·rw [← hes,← hq2];exact FSt.ob_set s id _ k
theorem zhy {T e by_:Nat} {kk:TK} {f0:FV} {x:Operand} {id ver o m E:Nat} {es:List (List FV)} {gd:Option (Nat×Bool)} (hT:(c.ty T).k=.slice e) (he:c.ty e=⟨kk,1,by_,[f0]⟩) (hk:kk.known=true) (h1:f0.one=true) (hx:(⟨t,ob⟩:FSt).ev x=.own id ver o m) (hb:(⟨t,ob⟩:FSt).ob id=⟨ver,.own,E,1,es⟩) (hm0:0<m) (hw:zM ops ⟨t,ob⟩ (⟨none,.call { callee:=.builtin .clear,args:=#[x],argTypes:=#[T] },ty,pos,af,gd⟩:Oper) true)
  (k:zi c ops rest ⟨t,((id,⟨ver,.own,E,1,splice es o (List.replicate m [f0])⟩)::ob)⟩ QS):zi c ops ((⟨none,.call { callee:=.builtin .clear,args:=#[x],argTypes:=#[T] },ty,pos,af,gd⟩:Oper)::rest) ⟨t,ob⟩ QS:=fun QQ w0 J a w β hQ hF=>by
 unfold wpList;rw [if_pos (hw.model hF)];refine .inl ?_;obtain ⟨W,h2,h3⟩:=zeo (ty:=ty) (pos:=pos) (af:=af) (g:=gd) (dst:=none) hF hT (fun e=>by rw [he] at e;dsimp only at e;rw [e] at hk;cases hk) (by rw [he]) (by rw [he]) h1 x hx (by rw [hb]) (by rw [hb]) (by rw [hb]) hm0;unfold Oper.wp;rw [h2,Oper.upon_value];rw [hb] at h3;exact k QQ w0 J _ W β hQ h3
theorem ZF {x:Operand} {i:Nat} {fs:List FV} {f:FV} {gd:Option (Nat×Bool)} (hx:(⟨t,ob⟩:FSt).ev x=.wrap .tup fs) (hf:fs[i]? = some f) (hnw:f.notWrap=true) (hd:Nat.blt d c.N=true) (hw:zM ops ⟨t,ob⟩ (⟨some d,.extract x i,ty,pos,af,gd⟩:Oper) true)
  (k:zi c ops rest ⟨((d,f)::t),ob⟩ QS):zi c ops ((⟨some d,.extract x i,ty,pos,af,gd⟩:Oper)::rest) ⟨t,ob⟩ QS:=fun QQ w0 J a w β hQ hF=>by
 unfold wpList;rw [if_pos (hw.model hF)];refine .inl ?_;have hv:=hF.ev x;rw [hx] at hv;obtain ⟨us,ev,hul,hur⟩:=hv;have ev' : a.eval x=.tuple us.toArray:=ev;have hi:i<fs.length:=(List.getElem?_eq_some_iff.1 hf).1;have hiu:i<us.length:=by rw [hul];exact hi
 have h1:=hur i us[i] f (by simp [hiu]) hf;have hrun:(execOp a.eval ⟨some d,.extract x i,ty,pos,af,gd⟩).run c.P w=.ok (.value us[i]) w:=by
  simp [execOp,Instr.extract,ev',hiu]
 have hver:∀ id ver,(id,ver)∈f.hands→ver≤((⟨t,ob⟩:FSt).ob id).ver:=fun id ver hm=>by
  refine hF.evers x (id:=id) (ver:=ver) ?_;rw [hx];refine List.mem_filterMap.2 ⟨f,List.mem_of_getElem? hf,?_⟩;cases f with
  | own|ptr|omap => rw [List.mem_singleton.1 hm]; rfl
  | wrap k fs => cases hnw
  | _ => exact (FV.no_hands rfl hm).elim
 exact yL.wp (f:=f) (wr:=[]) (yL.pure hF hrun (VR.of1 h1) hver) (fun d' e=>by injection e with e;subst e;exact Nat.le_of_ble_eq_true hd) fun a' w' β' hF'=>k QQ w0 J a' w' β' hQ hF'
end
end
end Go.Proofs.Ytlnehfplfoikaaa
