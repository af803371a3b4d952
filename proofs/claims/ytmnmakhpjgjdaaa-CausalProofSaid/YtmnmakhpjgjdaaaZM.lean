/-
  Some texts as one: FmRef03, TopoRef, FmWalks, CycRef, FmLives03, EdgeCongr, FmCau9.
-/
import Derived.Test.YtmnmakhpjgjdaaaZR
import Derived.Test.YtmnmakhpjgjdaaaZK
import Derived.Test.YtmnmakhpjgjdaaaZL
import Derived.Test.YtmnmakhpjgjdaaaZKeyTwo
import Derived.Test.YtmnmakhpjgjdaaaZFmCyc2
import Derived.Test.YtmnmakhpjgjdaaaZFmCau6
namespace Go.Proofs.Ytmnmakhpjgjdaaa
set_option linter.unusedVariables false
set_option maxHeartbeats 16000000
section
open Go.RowKit
def zag (E:List (Nat×Nat)) (a b:Int):Bool:=E.any fun e=>decide ((e.1:Int)=a) && decide ((e.2:Int)=b)
def znf (e:Nat×Nat):Nat×Nat:=(min e.1 e.2,max e.1 e.2)
def zlx (E:List (Nat×Nat)):Nat→List (Nat×Nat)
 | 0 => E
 | k+1 => if k % 7=6 then zlx E k else (zlx E k).set k (znf (nth (zlx E k) k))
def zbW (E:List (Nat×Nat)) (v:Int) (out:List Int):Bool:=E.all fun e=>!decide ((e.2:Int)=v) || zgO out e.1
def zlC (p:Nat→Bool) (n:Nat):Nat→Int
 | 0 => -1
 | k+1 => if p (n - (k+1))=true then ((n - (k+1):Nat):Int) else zlC p n k
def zcH (E:List (Nat×Nat)) (out:List Int) (v:Nat):Bool:=!zgO out v && zbW E v out
def rtK (E:List (Nat×Nat)) (n:Nat):Nat→List Int→Option (List Int)
 | 0, out => some out
 | k+1, out => if zlC (zcH E out) n n<0 then none else rtK E n k (out ++ [zlC (zcH E out) n n])
def zm9:Option (List Int)→FV
 | none => .tup [.list 1 [], .bool false]
 | some l => .tup [.list 1 (l.map zp), .bool true]
end
theorem zdZ (p:Nat→Bool) (n:Nat):∀ k,k≤n→(zlC p n k = -1∧∀ v,n - k≤v→v<n→p v=false)∨∃ v,zlC p n k=(v:Nat)∧n - k≤v∧v<n∧p v=true∧∀ u,n - k≤u→u<v→p u=false
 | 0, _ => .inl ⟨rfl, fun v h1 h2 => by omega⟩
 | k+1,hk=>by
  have ih:=zdZ p n k za
  unfold zlC
  by_cases hp:p (n - (k+1))=true
  ·rw [if_pos hp]
   exact .inr ⟨_,rfl,Nat.le_refl _,by omega,hp,fun u h1 h2=>by omega⟩
  ·rw [if_neg hp]
   have hp' : p (n - (k+1))=false:=by simpa using hp
   rcases ih with ⟨e,h⟩|⟨v,e,h1,h2,h3,h4⟩
   ·refine .inl ⟨e,fun v q1 q2=>?_⟩
    by_cases hv:v=n - (k+1)
    ·subst hv;exact hp'
    ·exact h v za q2
   ·refine .inr ⟨v,e,by omega,h2,h3,fun u q1 q2=>?_⟩
    by_cases hv:u=n - (k+1)
    ·subst hv;exact hp'
    ·exact h4 u za q2
theorem zjk {n:Nat} {E:List (Nat×Nat)} (h:InN n E) (out:List Int) (v:Nat):zbW E v out=true↔zco n E out v=0:=by
 unfold zbW zco
 rw [List.all_eq_true,List.countP_eq_zero]
 constructor
 ·intro hr u hu hc
  simp only [Bool.and_eq_true,decide_eq_true_eq] at hc
  obtain ⟨e,he,h1,h2⟩:=xe.1 hc.2
  have:=hr e he
  subst h1
  have h3:((e.2:Nat):Int)=(v:Int):=h2
  rw [h3] at this
  unfold zgO at this
  simp at this
  exact hc.1 this
 ·intro hc e he
  have hin:=h e he
  by_cases hv:((e.2:Nat):Int)=v
  ·have:=hc e.1 (List.mem_range.2 hin.1)
   simp only [Bool.and_eq_true,decide_eq_true_eq,not_and] at this
   unfold zgO
   by_cases hm:((e.1:Nat):Int)∈out
   ·simp [hm]
   ·exact absurd (xe.2 ⟨e,he,rfl,hv⟩) (this hm)
  ·simp [hv]
theorem TI.next {n:Nat} {E:List (Nat×Nat)} (hE:InN n E) {s:zbl} (h:TI n E s) (v:Nat) (hv:v<n):zcH E s.out v=true↔(v:Int)∈s.h:=by
 rw [h.hM,Int.toNat_natCast,h.cnt v hv]
 unfold zcH zgO
 rw [Bool.and_eq_true,zjk hE]
 constructor
 ·rintro ⟨h1,h2⟩
  exact ⟨by omega,by simpa using h1,by omega⟩
 ·rintro ⟨_,h1,h2⟩
  exact ⟨by simpa using h1,by omega⟩
theorem zge {n:Nat} {E:List (Nat×Nat)} (hE:InN n E):∀ (k f:Nat) (s:zbl),TI n E s→s.out.length+k=n→n<s.out.length+f→rtK E n k s.out=if (zS E f s).out.length<n then none else some (zS E f s).out
 | k, 0, s, h, _, hf => by have := h.le; omega
 | k, f+1,s,h,hk,hf=>by
  have hl:=zdZ (zcH E s.out) n n (Nat.le_refl _)
  by_cases h0:s.h=[]
  ·rw [YD E (f+1) s h0]
   cases k with
   | zero =>
    rw [if_neg za];rfl
   | succ k=>
    rw [if_pos za]
    unfold rtK
    rcases hl with ⟨e,_⟩|⟨v,e,_,h2,h3,_⟩
    ·rw [if_pos za]
    ·have:=(h.next hE v h2).1 h3
     rw [h0] at this;cases this
  ·obtain ⟨q,hq⟩:∃ q,s.h.length=q+1:=⟨s.h.length - 1,by have:=List.length_pos_iff.2 h0;omega⟩
   obtain ⟨v,hv,hvn,hvo,hm0,hmin,hD,hN,hR⟩:=h.first hq
   have hvh:(v:Int)∈s.h:=by
    rw [h.hM];exact ⟨by omega,hvo,by rw [Int.toNat_natCast];exact hm0⟩
   have hso:(yx E s).out=s.out++[(v:Int)]:=by
    unfold yx
    dsimp only
    rw [show s.h.length - 1=q by omega,hv]
   have e1:zS E (f+1) s=zS E f (yx E s):=if_neg h0
   cases k with
   | zero =>
    have:=xD hN hR
    simp at this
    omega
   | succ k=>
    have hlv:zlC (zcH E s.out) n n=v:=by
     rcases hl with ⟨_,hno⟩|⟨u,e,_,h2,h3,h4⟩
     ·have:=hno v za hvn
      rw [(h.next hE v hvn).2 hvh] at this;cases this
     ·have hu:=(h.next hE u h2).1 h3
      have hle:=hmin _ hu
      rcases Nat.lt_or_ge v u with hlt|hge
      ·have:=h4 v za hlt
       rw [(h.next hE v hvn).2 hvh] at this;cases this
      ·rw [e];omega
    unfold rtK
    rw [hlv,if_neg za,← hso,e1]
    exact zge hE k f (yx E s) (h.step hE h0) (by rw [Xh];omega) (by rw [Xh];omega)
theorem zjY {n:Nat} {E:List (Nat×Nat)} (hE:InN n E):rtK E n n []=if (zV n E).length<n then none else some (zV n E):=
 zge hE n (n+1) (yf n E) (TI.start hE) (Nat.zero_add n) (by show n<0+(n+1);omega)
section
open Go.RowKit
def zkz:List Int→List Int→Bool
 | x :: a, y :: b => if x=y then zkz a b else decide (x<y)
 | [], b => decide (0<b.length)
 | _ :: _, [] => false
def Xj (out:List (List Int)) (tg ab k v w:Nat):List Int:=if k=1 then (if w=tg then [(v:Int)] else []) else if ab<w∧nth out w≠[] then (v:Int)::nth out w else []
def zjV (E:List (Nat×Nat)) (out:List (List Int)) (tg ab k v:Nat) (cur:List Int) (w:Nat):List Int:=
 if zag E v w=true∧Xj out tg ab k v w≠[]∧(cur=[]∨zkz (Xj out tg ab k v w) cur=true) then Xj out tg ab k v w else cur
def zj4 (E:List (Nat×Nat)) (out:List (List Int)) (tg ab k v j:Nat):List Int:=(List.range j).foldl (zjV E out tg ab k v) []
def zbL (E:List (Nat×Nat)) (out:List (List Int)) (tg ab k n i:Nat):List (List Int):=(List.range n).map fun v=>if v<i then zj4 E out tg ab k v n else []
def yy (E:List (Nat×Nat)) (tg ab n:Nat):Nat→List (List Int)
 | 0 => List.replicate n []
 | k+1 => zbL E (yy E tg ab n k) tg ab (k+1) n n
theorem zg1 (E:List (Nat×Nat)) (out:List (List Int)) (tg ab k n i:Nat):(zbL E out tg ab k n i).length=n:=by simp [zbL]
theorem zfq (E:List (Nat×Nat)) (tg ab n:Nat):∀ k,(yy E tg ab n k).length=n
 | 0 => by simp [yy]
 | k+1 => zg1 _ _ _ _ _ _ _
theorem zh8 (E:List (Nat×Nat)) (out:List (List Int)) (tg ab k v j:Nat):zj4 E out tg ab k v (j+1)=zjV E out tg ab k v (zj4 E out tg ab k v j) j:=by
 unfold zj4
 rw [List.range_succ,List.foldl_append];rfl
def XK (E:List (Nat×Nat)) (n len s:Nat):List Int:=nth (yy E s s n len) s
def ZQ (E:List (Nat×Nat)) (n len:Nat):Nat→Nat→List Int
 | 0, _ => []
 | k+1, s => if XK E n len s=[] then ZQ E n len k (s+1) else XK E n len s
def YQ (E:List (Nat×Nat)) (n:Nat):Nat→Nat→List Int
 | 0, _ => []
 | k+1, len => if ZQ E n len n 0=[] then YQ E n k (len+1) else ZQ E n len n 0
def xI (E:List (Nat×Nat)) (n:Nat):List Int:=YQ E n n 1
end
theorem zgV {E:List (Nat×Nat)} {a b:Nat}:zag E a b=true↔(b:Int)∈zj E a:=by
 unfold zag
 rw [List.any_eq_true,xe]
 constructor
 ·rintro ⟨e,he,h⟩
  simp only [Bool.and_eq_true,decide_eq_true_eq] at h
  exact ⟨e,he,by omega,h.2⟩
 ·rintro ⟨e,he,h1,h2⟩
  exact ⟨e,he,by simp only [Bool.and_eq_true,decide_eq_true_eq];omega⟩
def Wx (n:Nat) (E:List (Nat×Nat)) (s:Nat):Nat→Nat→Prop
 | 0, _ => False
 | 1, v => (s:Int) ∈ zj E v
 | k+2, v => ∃ w:Nat, w<n ∧ (w:Int) ∈ zj E v ∧ s<w ∧ Wx n E s (k+1) w
def zk1 (E:List (Nat×Nat)) (O:List (List Int)) (tg ab k v w:Nat):Prop:=zag E v w=true∧Xj O tg ab k v w≠[]
theorem Xp {E:List (Nat×Nat)} {O:List (List Int)} {s k v:Nat} (hh:∀ w,nth O w≠[]→∃ r,nth O w=(w:Int)::r):∀ j,(zj4 E O s s k v j=[]∧∀ w,w<j→¬ zk1 E O s s k v w)∨∃ w,w<j∧zk1 E O s s k v w∧(∀ u,u<w→¬ zk1 E O s s k v u)∧zj4 E O s s k v j=Xj O s s k v w
 | 0 => .inl ⟨rfl, fun w hw => by omega⟩
 | j + 1=>by
  rw [zh8]
  rcases Xp (E:=E) (O:=O) (s:=s) (k:=k) (v:=v) hh j with ⟨e,h⟩|⟨w,h1,h2,h3,e⟩
  ·rw [e]
   unfold zjV
   by_cases hc:zk1 E O s s k v j
   ·rw [if_pos ⟨hc.1,hc.2,.inl rfl⟩]
    exact .inr ⟨j,Nat.lt_succ_self _,hc,fun u hu=>h u hu,rfl⟩
   ·rw [if_neg (fun q=>hc ⟨q.1,q.2.1⟩)]
    refine .inl ⟨rfl,fun w hw=>?_⟩
    by_cases hwj:w=j
    ·subst hwj;exact hc
    ·exact h w za
  ·rw [e]
   refine .inr ⟨w,by omega,h2,h3,?_⟩
   unfold zjV
   refine if_neg fun q=>?_
   obtain ⟨q1,q2,q3⟩:=q
   rcases q3 with q3|q3
   ·exact h2.2 q3
   ·have hw2:=h2.2
    unfold Xj at q2 q3 hw2
    by_cases hk:k=1
    ·rw [if_pos hk] at q2 hw2
     rw [if_pos hk,if_pos hk] at q3
     by_cases e1:j=s
     ·by_cases e2:w=s
      ·omega
      ·rw [if_neg e2] at hw2;exact hw2 rfl
     ·rw [if_neg e1] at q2;exact q2 rfl
    ·rw [if_neg hk] at q2 hw2
     rw [if_neg hk,if_neg hk] at q3
     by_cases e1:s<j∧nth O j≠[]
     ·by_cases e2:s<w∧nth O w≠[]
      ·rw [if_pos e1,if_pos e2] at q3
       obtain ⟨r1,f1⟩:=hh j e1.2
       obtain ⟨r2,f2⟩:=hh w e2.2
       rw [f1,f2] at q3
       unfold zkz at q3
       rw [if_pos rfl] at q3
       unfold zkz at q3
       rw [if_neg za] at q3
       simp at q3
       omega
      ·rw [if_neg e2] at hw2;exact hw2 rfl
     ·rw [if_neg e1] at q2;exact q2 rfl
theorem zaY {E:List (Nat×Nat)} {s n k v:Nat} (hv:v<n):nth (yy E s s n (k+1)) v=zj4 E (yy E s s n k) s s (k+1) v n:=by
 have e:yy E s s n (k+1)=(List.range n).map fun v=>if v<n then zj4 E (yy E s s n k) s s (k+1) v n else []:=rfl
 rw [e,nth_eq (by simpa using hv)]
 simp [hv]
theorem VD {E:List (Nat×Nat)} {s n:Nat}:∀ (k w:Nat),nth (yy E s s n k) w≠[]→w<n∧∃ r,nth (yy E s s n k) w=(w:Int)::r
 | 0, w, h => by
  refine absurd ?_ h
  rcases Nat.lt_or_ge w n with hw|hw
  ·rw [nth_eq (by simpa [yy] using hw)];simp [yy]
  ·unfold nth;rw [List.getD_eq_getElem?_getD,List.getElem?_eq_none (by simpa [yy] using hw)];rfl
 | k + 1,w,h=>by
  have hw:w<n:=by
   rcases Nat.lt_or_ge w n with hw|hw
   ·exact hw
   ·refine absurd ?_ h
    unfold nth;rw [List.getD_eq_getElem?_getD,List.getElem?_eq_none (by rw [zfq];exact hw)];rfl
  refine ⟨hw,?_⟩
  rw [zaY hw] at h ⊢
  rcases Xp (E:=E) (s:=s) (k:=k+1) (v:=w) (fun u hu=>(VD k u hu).2) n with ⟨e,_⟩|⟨u,_,hc,_,e⟩
  ·exact absurd e h
  ·rw [e]
   have h2:=hc.2
   unfold Xj at h2 ⊢
   split at h2
   ·split at h2
    ·rename_i h3 h4
     rw [if_pos h3,if_pos h4];exact ⟨_,rfl⟩
    ·exact absurd rfl h2
   ·split at h2
    ·rename_i h3 h4
     rw [if_neg h3,if_pos h4];exact ⟨_,rfl⟩
    ·exact absurd rfl h2
theorem Xm {E:List (Nat×Nat)} {s n k v w:Nat}:zk1 E (yy E s s n k) s s (k+1) v w↔(w:Int)∈zj E v∧if k=0 then w=s else s<w∧nth (yy E s s n k) w≠[]:=by
 unfold zk1
 rw [zgV]
 refine and_congr Iff.rfl ?_
 unfold Xj
 by_cases hk:k=0
 ·subst hk
  rw [if_pos rfl,if_pos rfl]
  by_cases e:w=s
  ·rw [if_pos e];simp [e]
  ·rw [if_neg e];simp [e]
 ·rw [if_neg za,if_neg hk]
  by_cases e:s<w∧nth (yy E s s n k) w≠[]
  ·rw [if_pos e];simp [e.1,e.2]
  ·rw [if_neg e]
   constructor
   ·intro q;exact absurd rfl q
   ·intro q;exact absurd q e
theorem Ym {n:Nat} {E:List (Nat×Nat)} (h:InN n E) {s:Nat} (hs:s<n):∀ (k v:Nat),v<n→(nth (yy E s s n (k+1)) v≠[]↔Wx n E s (k+1) v)
 | k,v,hv=>by
  rw [zaY hv]
  have hex:zj4 E (yy E s s n k) s s (k+1) v n≠[]↔∃ w,w<n∧zk1 E (yy E s s n k) s s (k+1) v w:=by
   rcases Xp (E:=E) (s:=s) (k:=k+1) (v:=v) (fun u hu=>(VD k u hu).2) n with ⟨e,hno⟩|⟨u,h1,hc,_,e⟩
   ·constructor
    ·intro q;exact absurd e q
    ·rintro ⟨w,h1,h2⟩;exact absurd h2 (hno w h1)
   ·constructor
    ·intro _;exact ⟨u,h1,hc⟩
    ·intro _;rw [e];exact hc.2
  rw [hex]
  cases k with
  | zero=>
   constructor
   ·rintro ⟨w,_,hc⟩
    obtain ⟨c1,c2⟩:=Xm.1 hc
    rw [if_pos rfl] at c2
    subst c2;exact c1
   ·intro hm
    exact ⟨s,hs,Xm.2 ⟨hm,by rw [if_pos rfl]⟩⟩
  | succ k=>
   constructor
   ·rintro ⟨w,hw,hc⟩
    obtain ⟨c1,c2⟩:=Xm.1 hc
    rw [if_neg za] at c2
    exact ⟨w,hw,c1,c2.1,(Ym h hs k w hw).1 c2.2⟩
   ·rintro ⟨w,hw,hm,hsw,hx⟩
    exact ⟨w,hw,Xm.2 ⟨hm,by rw [if_neg za];exact ⟨hsw,(Ym h hs k w hw).2 hx⟩⟩⟩
section
variable {n:Nat} {E:List (Nat×Nat)} (h:InN n E) {s:Nat} (hs:s<n)
include h hs
theorem Wx.dist:∀ (k w:Nat),w<n→s<w→Wx n E s (k+1) w→0≤nth (zP n E s) w∧nth (zP n E s) w≤(k+1:Nat)
 | 0, w, hw, hsw, hx => by
  have h0:=zfC h hs
  have:=Vf h hs hs hw (show (s:Int)∈zj E w from hx) hsw za
  omega
 | k+1, w, hw, hsw, hx => by
  obtain ⟨u,hu,hm,hsu,hxu⟩:=hx
  have h1:=Wx.dist k u hu hsu hxu
  have:=Vf h hs hu hw hm hsw h1.1
  omega
theorem zcr:∀ (k w:Nat),w<n→nth (zP n E s) w=(k+1:Nat)→s<w∧Wx n E s (k+1) w
 | 0, w, hw, hd => by
  refine ⟨Wo h hs hw za,?_⟩
  obtain ⟨u,hu,hm,hdu⟩:=UF h hs hw za
  have:u=s:=zbr h hs hu za
  subst this;exact hm
 | k+1, w, hw, hd => by
  refine ⟨Wo h hs hw za,?_⟩
  obtain ⟨u,hu,hm,hdu⟩:=UF h hs hw za
  obtain ⟨h1,h2⟩:=zcr k u hu za
  exact ⟨u,hu,hm,h1,h2⟩
end
theorem zaT (d:List Int) (st:Int):∀ (row:List Int) (len:Int),0≤len→(0<len→row.foldl (yo d st) len≤len∧0<row.foldl (yo d st) len)∧∀ w∈row,st≤w→0≤nth d w.toNat→0<row.foldl (yo d st) len∧row.foldl (yo d st) len≤nth d w.toNat+1
 | [], len, _ => ⟨fun h => ⟨Int.le_refl _, h⟩, fun w hw => by cases hw⟩
 | x::row,len,h0=>by
  rw [List.foldl_cons]
  have hs:0≤yo d st len x∧(0<len→yo d st len x≤len∧0<yo d st len x)∧(st≤x→0≤nth d x.toNat→0<yo d st len x∧yo d st len x≤nth d x.toNat+1):=by
   unfold yo
   split <;> rename_i hc
   ·refine ⟨by omega,fun _=>?_,fun _ _=>by omega⟩
    rcases hc.2 with h|h <;> omega
   ·refine ⟨h0,fun _=>by omega,fun h1 h2=>?_⟩
    have:¬ (len=0∨nth d x.toNat+1<len):=fun q=>hc ⟨⟨h1,h2⟩,q⟩
    omega
  obtain ⟨i1,i2⟩:=zaT d st row (yo d st len x) hs.1
  refine ⟨fun h=>?_,fun w hw h1 h2=>?_⟩
  ·have:=hs.2.1 h
   have:=i1 this.2
   omega
  ·rcases List.mem_cons.1 hw with rfl|hw
   ·have h3:=hs.2.2 h1 h2
    have:=i1 h3.1
    omega
   ·exact i2 w hw h1 h2
theorem XY {d:List Int} {st:Int} {row:List Int} {w:Int} (hw:w∈row) (h1:st≤w) (h2:0≤nth d w.toNat):0<yX d st row∧yX d st row≤nth d w.toNat+1:=(zaT d st row 0 (Int.le_refl _)).2 w hw h1 h2
theorem VM (p:Int→Bool) (r:List Int):∀ (k i j:Nat),YG p r k i=(j:Int)→∀ q,i≤q→q<j→p (nth r q)=false
 | 0, i, j, h, q, _, _ => by
  have:(-1:Int)=j:=h
  omega
 | k+1,i,j,h,q,h1,h2=>by
  unfold YG at h
  by_cases hp:p (nth r i)=true
  ·rw [if_pos hp] at h;omega
  ·rw [if_neg hp] at h
   by_cases e:q=i
   ·subst e;simpa using hp
   ·exact VM p r k (i+1) j h q za h2
section
variable {n:Nat} {E:List (Nat×Nat)} (h:InN n E) {s:Nat} (hs:s<n)
include h hs
theorem zbJ {L:Nat} (hx:Wx n E s (L+1) s):0<yX (zP n E s) s (zj E s)∧yX (zP n E s) s (zj E s)≤(L+1:Nat):=by
 cases L with
 | zero =>
  have h0:=zfC h hs
  have:=XY (d:=zP n E s) (st:=s) (show (s:Int)∈zj E s from hx) (Int.le_refl _) (by rw [Int.toNat_natCast];omega)
  rw [Int.toNat_natCast] at this
  omega
 | succ L =>
  obtain ⟨w,hw,hm,hsw,hxw⟩:=hx
  have hd:=Wx.dist h hs L w hw hsw hxw
  have:=XY (d:=zP n E s) (st:=s) hm za (by rw [Int.toNat_natCast];omega)
  rw [Int.toNat_natCast] at this
  omega
theorem zcc {L:Nat} (hL:yX (zP n E s) s (zj E s)=(L+1:Nat)):Wx n E s (L+1) s:=by
 rcases Vq (zP n E s) s (zj E s) with e|⟨w,hw,h1,h2,h3⟩
 ·omega
 ·have hin:=yb h hw
  obtain ⟨w,rfl⟩:∃ w' : Nat,w=w':=⟨w.toNat,by omega⟩
  rw [Int.toNat_natCast] at h2 h3
  cases L with
  | zero =>
   have:w=s:=zbr h hs za za
   subst this;exact hw
  | succ L =>
   obtain ⟨k1,k2⟩:=zcr h hs L w za za
   exact ⟨w,by omega,hw,k1,k2⟩
theorem zgh:∀ (k v:Nat),v<n→Wx n E s (k+1) v→(∀ w:Nat,(w:Int)∈zj E v→s<w→0≤nth (zP n E s) w→(k:Int)≤nth (zP n E s) w)→nth (yy E s s n (k+1)) v=(v:Int)::ZO E (zP n E s) s k v
 | k, v, hv,hx,hmin=>by
  have hne:=(Ym h hs k v hv).2 hx
  rw [zaY hv] at hne ⊢
  rcases Xp (E:=E) (s:=s) (k:=k+1) (v:=v) (fun u hu=>(VD k u hu).2) n with ⟨e,_⟩|⟨u,hu,hc,hfirst,e⟩
  ·exact absurd e hne
  ·rw [e]
   obtain ⟨c1,c2⟩:=Xm.1 hc
   cases k with
   | zero =>
    rw [if_pos rfl] at c2
    unfold Xj
    rw [if_pos rfl,if_pos c2];rfl
   | succ k=>
    rw [if_neg za] at c2
    have hxu:=(Ym h hs k u hu).1 c2.2
    have hdu:=Wx.dist h hs k u hu c2.1 hxu
    have hmu:=hmin u c1 c2.1 hdu.1
    have hdu' : nth (zP n E s) u=(k+1:Nat):=by omega
    have hon:XZ (zP n E s) s (k+1:Nat) u=true:=by
     unfold XZ
     rw [decide_eq_true_eq,Int.toNat_natCast]
     exact ⟨by omega,hdu'⟩
    obtain ⟨j,hj,hfx,hpj⟩:=XV c1 hon
    have hin:=yb h (zu hj)
    obtain ⟨x,hxn⟩:∃ x:Nat,nth (zj E v) j=x:=⟨(nth (zj E v) j).toNat,by omega⟩
    have hux:u=x:=by
     rw [hxn] at hpj hin
     unfold XZ at hpj
     rw [decide_eq_true_eq,Int.toNat_natCast] at hpj
     have hxm:(x:Int)∈zj E v:=by rw [← hxn];exact zu hj
     obtain ⟨_,hwx⟩:=zcr h hs k x za hpj.2
     have hcx:zk1 E (yy E s s n (k+1)) s s (k+1+1) v x:=Xm.2 ⟨hxm,by rw [if_neg za];exact ⟨by omega,(Ym h hs k x za).2 hwx⟩⟩
     rcases Nat.lt_trichotomy u x with hlt|heq|hgt
     ·-- u stands ahead of x in the row,and VN takes the first
      obtain ⟨q,hq,hqu⟩:=List.getElem_of_mem c1
      have hqj:q<j:=by
       rcases Nat.lt_or_ge q j with q1|q1
       ·exact q1
       ·have hasc:=List.pairwise_iff_getElem.1 (zez E v)
        rcases Nat.lt_or_ge j q with q2|q2
        ·have:=hasc j q hj hq q2
         rw [← nth_eq hj,hxn,hqu] at this
         omega
        ·obtain rfl:q=j:=by omega
         rw [nth_eq hq,hqu] at hxn
         omega
      have:=VM (XZ (zP n E s) s (k+1:Nat)) (zj E v) (zj E v).length 0 j hfx q (Nat.zero_le _) hqj
      rw [nth_eq hq,hqu] at this
      rw [hon] at this;cases this
     ·exact heq
     ·exact absurd hcx (hfirst x hgt)
    have hstep:xy E (zP n E s) s (k+1:Nat) v=u:=by
     unfold xy
     rw [hfx,Int.toNat_natCast,hxn,hux,Int.toNat_natCast]
    show Xj (yy E s s n (k+1)) s s (k+1+1) v u=(v:Int)::ZO E (zP n E s) s (k+1) v
    unfold Xj
    rw [if_neg za,if_pos c2]
    have ih:=zgh k u hu hxu fun w hw hsw h0=>by
     have hwin:=yb h hw
     have:=Vf h hs (u:=w) (v:=u) za hu hw c2.1 h0
     omega
    rw [ih]
    show _=(v:Int)::((xy E (zP n E s) s (k+1:Nat) v:Nat):Int)::ZO E (zP n E s) s k (xy E (zP n E s) s (k+1:Nat) v)
    rw [hstep]
end
theorem zgY (d:List Int) (st:Int) (row:List Int):0≤yX d st row:=by
 rcases Vq d st row with e|⟨w,_,_,h2,h3⟩ <;> omega
def lenOf (n:Nat) (E:List (Nat×Nat)) (s:Nat):Int:=yX (zP n E s) s (zj E s)
section
variable {n:Nat} {E:List (Nat×Nat)} (h:InN n E)
include h
theorem zcD {s:Nat} (hs:s<n) (h0:lenOf n E s≠0):∃ K:Nat,lenOf n E s=(K+1:Nat)∧K<n∧XK E n (K+1) s=(s:Int)::ZO E (zP n E s) s K s:=by
 obtain ⟨K,hK,hKn,_⟩:=Yy h hs h0
 refine ⟨K,hK,hKn,zgh h hs K s hs (zcc h hs hK) fun w hw hsw hd=>?_⟩
 have:=XY (d:=zP n E s) (st:=s) hw za (by rw [Int.toNat_natCast];exact hd)
 rw [Int.toNat_natCast,hK] at this
 omega
theorem zc1 {s L:Nat} (hs:s<n) (h0:XK E n (L+1) s≠[]):0<lenOf n E s∧lenOf n E s≤(L+1:Nat):=zbJ h hs ((Ym h hs L s hs).1 h0)
theorem Ui:∀ i,i≤n→(zc5 n E i=[]∧∀ s,s<i→lenOf n E s=0)∨∃ s0 K,s0<i∧lenOf n E s0=((K+1:Nat):Int)∧zc5 n E i=(s0:Int)::ZO E (zP n E s0) s0 K s0∧(∀ s,s<i→lenOf n E s≠0→((K+1:Nat):Int)≤lenOf n E s)∧∀ s,s<s0→lenOf n E s≠0→((K+1:Nat):Int)<lenOf n E s
 | 0, _ => .inl ⟨rfl, fun s hs => by omega⟩
 | i + 1,hi=>by
  rw [UG]
  have hL:yX (zP n E i) i (zj E i)=lenOf n E i:=rfl
  have hnn:0≤lenOf n E i:=zgY _ _ _
  unfold XS
  dsimp only
  rw [hL]
  rcases Ui i za with ⟨e,hz⟩|⟨s0,K,h1,h2,e,h4,h5⟩
  ·rw [e]
   by_cases h0:lenOf n E i=0
   ·rw [if_pos (.inl h0)]
    refine .inl ⟨rfl,fun s hs=>?_⟩
    by_cases hsi:s=i
    ·subst hsi;exact h0
    ·exact hz s za
   ·rw [if_neg (by rintro (q|q);exact h0 q;exact q.1 rfl)]
    obtain ⟨K,hK,_,_⟩:=zcD h za h0
    refine .inr ⟨i,K,Nat.lt_succ_self _,hK,by rw [hK,Int.toNat_natCast];rfl,fun s hs hne=>?_,fun s hs hne=>absurd (hz s hs) hne⟩
    by_cases hsi:s=i
    ·subst hsi;omega
    ·exact absurd (hz s za) hne
  ·have hlen:(zc5 n E i).length=K+1:=by rw [e,List.length_cons,Vb]
   by_cases hc:lenOf n E i=0∨(zc5 n E i≠[]∧((zc5 n E i).length:Int)≤lenOf n E i)
   ·rw [if_pos hc]
    refine .inr ⟨s0,K,by omega,h2,e,fun s hs hne=>?_,h5⟩
    by_cases hsi:s=i
    ·subst hsi
     rcases hc with q|q
     ·exact absurd q hne
     ·rw [hlen] at q;exact q.2
    ·exact h4 s za hne
   ·rw [if_neg hc]
    have h0:lenOf n E i≠0:=fun q=>hc (.inl q)
    have hlt:lenOf n E i<((K+1:Nat):Int):=by
     have:¬ ((zc5 n E i).length:Int)≤lenOf n E i:=fun q=>hc (.inr ⟨by rw [e];exact List.cons_ne_nil _ _,q⟩)
     rw [hlen] at this;omega
    obtain ⟨K',hK,_,_⟩:=zcD h za h0
    refine .inr ⟨i,K',Nat.lt_succ_self _,hK,by rw [hK,Int.toNat_natCast];rfl,fun s hs hne=>?_,fun s hs hne=>?_⟩
    ·by_cases hsi:s=i
     ·subst hsi;omega
     ·have:=h4 s za hne;omega
    ·have:=h4 s hs hne;omega
end
theorem Vh {E:List (Nat×Nat)} {n len:Nat}:∀ (k s:Nat),(∀ u,s≤u→u<s+k→XK E n len u=[])→ZQ E n len k s=[]
 | 0, _, _ => rfl
 | k+1, s, h => by
  unfold ZQ
  rw [if_pos (h s (Nat.le_refl _) za)]
  exact Vh k (s+1) fun u h1 h2=>h u za za
theorem VJ {E:List (Nat×Nat)} {n len s0:Nat} (h0:XK E n len s0≠[]):∀ (k s:Nat),s≤s0→s0<s+k→(∀ u,s≤u→u<s0→XK E n len u=[])→ZQ E n len k s=XK E n len s0
 | 0, s, h1, h2, _ => by omega
 | k+1,s,h1,h2,h=>by
  unfold ZQ
  by_cases e:s=s0
  ·subst e;rw [if_neg h0]
  ·rw [if_pos (h s (Nat.le_refl _) za)]
   exact VJ h0 k (s+1) za za fun u q1 q2=>h u za q2
theorem UH {E:List (Nat×Nat)} {n:Nat}:∀ (k len:Nat),(∀ l,len≤l→l<len+k→ZQ E n l n 0=[])→YQ E n k len=[]
 | 0, _, _ => rfl
 | k+1, len, h => by
  unfold YQ
  rw [if_pos (h len (Nat.le_refl _) za)]
  exact UH k (len+1) fun u h1 h2=>h u za za
theorem Wq {E:List (Nat×Nat)} {n l0:Nat} (h0:ZQ E n l0 n 0≠[]):∀ (k len:Nat),len≤l0→l0<len+k→(∀ l,len≤l→l<l0→ZQ E n l n 0=[])→YQ E n k len=ZQ E n l0 n 0
 | 0, len, h1, h2, _ => by omega
 | k+1,len,h1,h2,h=>by
  unfold YQ
  by_cases e:len=l0
  ·subst e;rw [if_neg h0]
  ·rw [if_pos (h len (Nat.le_refl _) za)]
   exact Wq h0 k (len+1) za za fun u q1 q2=>h u za q2
theorem Uj {n:Nat} {E:List (Nat×Nat)} (h:InN n E):zdB n E=xI E n:=by
 rcases Ui h n (Nat.le_refl _) with ⟨e,hz⟩|⟨s0,K,h1,h2,e,h4,h5⟩
 ·show zc5 n E n=_
  rw [e]
  refine (UH n 1 fun l hl1 hl2=>Vh n 0 fun u _ hu=>?_).symm
  obtain ⟨l,rfl⟩:∃ l',l=l'+1:=⟨l - 1,by omega⟩
  by_cases hc:XK E n (l+1) u=[]
  ·exact hc
  ·have:=zc1 h za hc
   have:=hz u za
   omega
 ·show zc5 n E n=_
  rw [e]
  obtain ⟨K',hK',hKn,hw⟩:=zcD h h1 za
  obtain rfl:K'=K:=by omega
  have hne:XK E n (K'+1) s0≠[]:=by rw [hw];exact List.cons_ne_nil _ _
  have hrow:ZQ E n (K'+1) n 0=XK E n (K'+1) s0:=VJ hne n 0 (Nat.zero_le _) za fun u _ hu=>by
   by_cases hc:XK E n (K'+1) u=[]
   ·exact hc
   ·have q:=zc1 h za hc
    have:=h5 u hu za
    omega
  unfold xI
  rw [Wq (l0:=K'+1) (by rw [hrow];exact hne) n 1 za za fun l hl1 hl2=>Vh n 0 fun u _ hu=>?_,hrow,hw]
  obtain ⟨l,rfl⟩:∃ l',l=l'+1:=⟨l - 1,by omega⟩
  by_cases hc:XK E n (l+1) u=[]
  ·exact hc
  ·have q:=zc1 h za hc
   have:=h4 u za za
   omega
section
open Go.RowKit
theorem zhJ (n:Nat) (E:List (Nat×Nat)) (hn:n≤300) (hE:E.length≤100000) (hin:InN n E):zU Try.prog 36 [.int .i64 n,.list 2 (E.map edf)] .sh (zm9 (rtK E n n [])):=by
 rw [zjY hin]
 have:=zjZ n E hn hE hin
 by_cases h:(zV n E).length<n
 ·rw [if_pos h,show decide ((zV n E).length<n)=true by simpa using h] at this
  rw [if_pos h];exact this
 ·rw [if_neg h,show decide ((zV n E).length<n)=false by simpa using h] at this
  rw [if_neg h];exact this
theorem zeQ (n:Nat) (E:List (Nat×Nat)) (hn:n≤14) (hE:E.length≤1000) (hin:InN n E):zU Try.prog 56 [.int .i64 n,.list 2 (E.map edf)] .sh (.list 1 ((xI E n).map zp)):=by
 rw [← Uj hin];exact zgu n E hn hE hin
end
section
variable {E E' : List (Nat×Nat)} (h:∀ e,e∈E↔e∈E')
include h
theorem ze8:zag E=zag E':=by
 funext a b
 unfold zag
 rw [Bool.eq_iff_iff,List.any_eq_true,List.any_eq_true]
 exact ⟨fun ⟨e,he,hp⟩=>⟨e,(h e).1 he,hp⟩,fun ⟨e,he,hp⟩=>⟨e,(h e).2 he,hp⟩⟩
theorem zfh:zbW E=zbW E':=by
 funext a b
 unfold zbW
 rw [Bool.eq_iff_iff,List.all_eq_true,List.all_eq_true]
 exact ⟨fun H e he=>H e ((h e).2 he),fun H e he=>H e ((h e).1 he)⟩
theorem zaX (tg ab n:Nat):∀ k,yy E tg ab n k=yy E' tg ab n k
 | 0 => rfl
 | k+1 => by
  show zbL E _ _ _ _ _ _=zbL E' _ _ _ _ _ _
  rw [zaX tg ab n k]
  unfold zbL zj4 zjV
  rw [ze8 h]
theorem zeL (n len s:Nat):XK E n len s=XK E' n len s:=by unfold XK;rw [zaX h]
theorem VI (n len:Nat):∀ k s,ZQ E n len k s=ZQ E' n len k s
 | 0, _ => rfl
 | k+1, s => by
  show (if _ then _ else _)=(if _ then _ else _)
  rw [zeL h,VI n len k]
theorem Wp (n:Nat):∀ k len,YQ E n k len=YQ E' n k len
 | 0, _ => rfl
 | k+1, len => by
  show (if _ then _ else _)=(if _ then _ else _)
  rw [VI h,Wp n k]
theorem VS (n:Nat):xI E n=xI E' n:=Wp h n n 1
theorem zet (n:Nat):∀ k out,rtK E n k out=rtK E' n k out
 | 0, _ => rfl
 | k+1, out => by
  have e:zcH E out=zcH E' out:=by funext v;unfold zcH;rw [zfh h]
  show (if _ then _ else _)=(if _ then _ else _)
  rw [e,zet n k]
end
section
open Go.RowKit
def zlF (sz:Nat):List (List FV)→FV
 | [] => .nil
 | e :: es => .list sz (e :: es)
def VV (ck cls arg:Int) (ord:List Nat) (ed:List EdC):List FV:=[.int .i64 ck,.int .i64 cls,.int .i64 arg,zlF 1 (ord.map ym),zlF 3 (ed.map EdC.fv)]
def zef (l:List OpV):FV:=zhl l (.list 1 ((zI l l.length).map ym)) (.list 1 ((List.range l.length).map fun q=>[xb (KC l q)]))
def zhI (l:List OpV):FV:=match zbk l with
 | some i => .tup [.agg (VV 0 2 (nth l i).key [i] []), .bool true]
 | none => .tup [.agg (VV 0 0 0 [] []), .bool false]
theorem YS {α:Type} [Inhabited α] {p:α→Bool} {l:List α} {j:Nat} (h:∀ i,i<j→p (nth l i)=false) (hj:j<l.length) (hp:p (nth l j)=true):l.find? p=some (nth l j):=by
 rw [nth_eq hj] at hp ⊢
 have:l=l.take j++l[j]::l.drop (j+1):=by rw [← List.drop_eq_getElem_cons hj,List.take_append_drop]
 rw [List.find?_eq_some_iff_append]
 refine ⟨hp,l.take j,l.drop (j+1),this,fun a ha=>?_⟩
 obtain ⟨i,hi,rfl⟩:=List.getElem_of_mem ha
 have hij:i<j:=by rw [List.length_take] at hi;omega
 have:=h i hij
 rw [nth_eq za] at this
 rw [List.getElem_take,this];rfl
theorem Vm {α:Type} [Inhabited α] {p:α→Bool} {l:List α} (h:∀ i,i<l.length→p (nth l i)=false):l.find? p=none:=by
 rw [List.find?_eq_none]
 intro x hx
 obtain ⟨i,hi,rfl⟩:=List.getElem_of_mem hx
 have:=h i hi
 rw [nth_eq hi] at this
 simp [this]
theorem zjW (l:List OpV) (hl:l.length≤1000) (hin:∀ o∈l,za2 o):zU Try.prog 32 [zef l] .sh (zhI l):=by
 obtain ⟨F3,hF3⟩:∃ F3,F3=FV.list 1 ((List.range l.length).map fun q=>[xb (KC l q)]):=⟨_,rfl⟩
 obtain ⟨I,hI⟩:∃ I,I=zI l l.length:=⟨_,rfl⟩
 have hfr:=fun i hi=>UR l (.list 1 (I.map ym)) F3 rfl (by rw [hF3];rfl) i hi za hin
 have hIl:I.length≤l.length:=by rw [hI];exact ZZ l l.length
 have hIm:∀ j,j<I.length→nth I j<l.length:=fun j hj=>by have:=zu hj;rw [hI] at this ⊢;exact yR this
 unfold zef
 rw [← hF3,← hI]
 obtain ⟨R,hR⟩:∃ R,zhI l=R:=⟨_,rfl⟩
 have hRh:R.hand=none:=by rw [← hR];unfold zhI;split <;> rfl
 rw [hR]
 have hyes:∀ j,j<I.length→(∀ i,i<j→WZ l (nth I i)=false)→WZ l (nth I j)=true→R=.tup [.agg (VV 0 2 (nth l (nth I j)).key [nth I j] []),.bool true]:=fun j h1 h2 h3=>by
  rw [← hR];unfold zhI zbk;rw [← hI,YS h2 h1 h3]
 have hno:(∀ i,i<I.length→WZ l (nth I i)=false)→R=.tup [.agg (VV 0 0 0 [] []),.bool false]:=fun h=>by
  rw [← hR];unfold zhI zbk;rw [← hI,Vm h]
 clear hR
 refine zU.of_body (c:=(xT Try.prog zE zt 51)) ⟨Try.func32,rfl,Try.ntmps32,by kernel_rfl⟩ (by simp [FV.hand,zhl]) zw hRh ?_
 unfold zhl at hfr ⊢
 change FW _ _ _ ⟨[(0,.eptr 4 [[.list 8 (l.map OpV.fv),.list 1 (I.map ym),.smap (yE l l.length),F3]] 0 0)],[]⟩
 refine zb ?_
 refine FW.loop (fun j:Nat=>⟨[(0,.eptr 4 [[.list 8 (l.map OpV.fv),.list 1 (I.map ym),.smap (yE l l.length),F3]] 0 0),(2,.ptr 102 0 0 0),(12,.list 1 (I.map ym)),(13,.int .i64 I.length),(14,.int .i64 j)],[(102,⟨0,.own,36,5,[[.int .i64 0,.int .i64 0,.int .i64 0,.nil,.nil]]⟩)]⟩) (fun j=>j≤I.length∧∀ i,i<j→WZ l (nth I i)=false) (fun j=>I.length - j) 0 ⟨Nat.zero_le _,fun i hi=>absurd hi (Nat.not_lt_zero _)⟩ ?_ ?_
 ·exact (FLe.cv [⟨102,some 2,0+1,⟨0,.own,36,5,[[.int .i64 0,.int .i64 0,.int .i64 0,.nil,.nil]]⟩⟩] (by repeat (first|exact .nil|refine .old rfl zc rfl ?_)) (by repeat (first|exact .nil|refine .cons (.plain rfl rfl rfl) ?_|refine .cons (.ptr rfl (.head _) rfl) ?_)))
 rintro j ⟨hj,hpre⟩
 refine zb ?_
 refine FW.cond rfl (fun h=>?_) (fun h=>?_)
 ·have hjl:j<I.length:=by simpa using h
  clear h
  have hyes:=hyes j hjl hpre
  have hnext:WZ l (nth I j)=false→∀ i,i<j+1→WZ l (nth I i)=false:=fun h i hi=>by
   rcases Nat.lt_succ_iff_lt_or_eq.1 hi with h'|rfl
   ·exact hpre i h'
   ·exact h
  have hii:=hIm j hjl
  obtain ⟨i,hi⟩:∃ i,nth I j=i:=⟨_,rfl⟩
  rw [hi] at hii hyes hnext
  have hfr:=hfr i hii
  have htb:WZ l i=(decide ((nth l i).k=0) && decide ((nth l i).res≠0) && (xu l i).isNone):=rfl
  unfold zgC at hfr
  obtain ⟨o,ho⟩:∃ o,nth l i=o:=⟨_,rfl⟩
  rw [ho] at htb hyes
  generalize xu l i=C at hfr htb
  refine zb ?_
  rw [hi]
  skip
  rw [ho]
  skip
  refine yu hfr (by repeat (first|exact zA.nil|refine zA.cons zy ?_)) rfl rfl ?_
  refine zb ?_
  refine zN (fun h1=>?_) (fun h1=>?_)
  ·refine zb ?_
   refine zN (fun h2=>?_) (fun h2=>?_)
   ·refine zb ?_
    refine FW.cond rfl (fun h3=>?_) (fun h3=>?_)
    ·have hCn:C.isNone=true:=by cases C with|none=>rfl|some w=>cases h3
     rw [hyes (by rw [htb,h1,h2,hCn];rfl)]
     (repeat (first|refine FW.seq ?_|refine FW.region ?_|refine zB rfl rfl rfl ?_|refine Xb rfl rfl rfl rfl rfl rfl zc rfl rfl ?_|refine xU rfl rfl rfl rfl rfl yY rfl rfl rfl rfl rfl ?_|refine XB rfl rfl rfl rfl rfl rfl rfl rfl ?_))
     refine zn.le ?_ (FLe.share 46 rfl rfl rfl)
     refine zb ?_
     exact FW.ret ⟨.inl rfl,.sh (.cons (ye rfl rfl rfl rfl rfl rfl zc) (.cons (.tmp 3 rfl rfl) .nil)) rfl rfl⟩
    ·have hCn:C.isNone=false:=by cases C with|none=>cases h3|some w=>rfl
     refine zb ?_
     refine ⟨j+1,⟨by omega,hnext ?_⟩,by omega,(FLe.cv [⟨102,some 102,0,⟨0,.own,36,5,[[.int .i64 0,.int .i64 0,.int .i64 0,.nil,.nil]]⟩⟩] (by repeat (first|exact .nil|refine .old rfl zc rfl ?_)) (by repeat (first|exact .nil|refine .cons (.plain rfl rfl rfl) ?_|refine .cons (.ptr rfl (.head _) rfl) ?_)))⟩
     rw [htb,hCn,Bool.and_false]
   ·refine zb ?_
    refine ⟨j+1,⟨by omega,hnext ?_⟩,by omega,(FLe.cv [⟨102,some 102,0,⟨0,.own,36,5,[[.int .i64 0,.int .i64 0,.int .i64 0,.nil,.nil]]⟩⟩] (by repeat (first|exact .nil|refine .old rfl zc rfl ?_)) (by repeat (first|exact .nil|refine .cons (.plain rfl rfl rfl) ?_|refine .cons (.ptr rfl (.head _) rfl) ?_)))⟩
    rw [htb,h2,Bool.and_false,Bool.false_and]
  ·refine zb ?_
   refine ⟨j+1,⟨by omega,hnext ?_⟩,by omega,(FLe.cv [⟨102,some 102,0,⟨0,.own,36,5,[[.int .i64 0,.int .i64 0,.int .i64 0,.nil,.nil]]⟩⟩] (by repeat (first|exact .nil|refine .old rfl zc rfl ?_)) (by repeat (first|exact .nil|refine .cons (.plain rfl rfl rfl) ?_|refine .cons (.ptr rfl (.head _) rfl) ?_)))⟩
   rw [htb,h1,Bool.false_and,Bool.false_and]
 ·have hje:j=I.length:=by simp at h;omega
  subst hje
  rw [hno hpre]
  refine zb ?_
  exact FW.ret ⟨.inl rfl,.sh (.cons (ye rfl rfl rfl rfl rfl rfl zc) (.cons (.tmp 3 rfl rfl) .nil)) rfl rfl⟩
end
end Go.Proofs.Ytmnmakhpjgjdaaa
