/-
  Lemmas, in parts.
-/
import Derived.Test.YtphidhljdcledaaGreatZFmViol
import Derived.Test.YtphidhljdcledaaGreatZFmLin2
import Derived.Test.YtphidhljdcledaaGreatZD
namespace Go.Proofs.YtphidhljdcledaaGreat
set_option linter.unusedVariables false
set_option maxHeartbeats 16000000
variable {I L X Y c out:List Nat} {E a b i j k n q sz ae x:Nat} {l:List aq} {C:List dx} {R:Nat→Nat→Bool} {p:Int} {o:List Int} {t:List (Nat×FV)} {ob:List (Nat×zE)} {es:List (List FV)}
section
open Go.RowKit
def oy (R:Nat→Nat→Bool) (n:Nat) (out:List Nat):List Int:=(List.range n).map fun b=>(kD R n out b:Int)
def lN (n:Nat) (out:List Nat):List Bool:=(List.range n).map fun a=>decide (a∈out)
def nr (R:Nat→Nat→Bool) (n:Nat) (out:List Nat) (a b:Nat):List Int:=(List.range n).map fun j=>if j<b then (kD R n (out++[a]) j:Int) else (kD R n out j:Int)
section
variable {R:Nat→Nat→Bool} {n:Nat}
theorem Dw (out:List Nat):(oy R n out).length=n:=by simp [oy]
theorem DJ (out:List Nat):(lN n out).length=n:=by simp [lN]
theorem YX (out:List Nat) (a b:Nat):(nr R n out a b).length=n:=by simp [nr]
theorem LJ (h:j<n):nth (oy R n out) j=kD R n out j:=by unfold oy;rw [ak (by simpa using h)];simp
theorem Lu (h:j<n):nth (lN n out) j=decide (j∈out):=by unfold lN;rw [ak (by simpa using h)];simp
theorem Wm (h:j<n):nth (nr R n out a b) j=if j<b then (kD R n (out++[a]) j:Int) else (kD R n out j:Int):=by unfold nr;rw [ak (by simpa using h)];simp
theorem zvh:oy R n []=ke R n n 0:=by
 refine ya (by rw [Dw,Xf]) fun i hi=>?_;rw [Dw] at hi;rw [LJ hi,XU hi];unfold kD;simp
theorem zue:lN n []=List.replicate n false:=by
 refine ya (by simp [DJ]) fun i hi=>?_;rw [DJ] at hi;rw [Lu hi,ak (show i<(List.replicate n false).length by simpa using hi)];simp
theorem zud (ha:a<n):lN n (out++[a])=(lN n out).set a true:=by
 refine ya (by simp [DJ]) fun i hi=>?_;rw [DJ] at hi;rw [Lu hi,YH (by rw [DJ];exact hi),Lu hi];by_cases e:a=i
 ·subst e;simp
 ·rw [if_neg e];have:¬ i=a:=fun e2=>e e2.symm;simp [this]
theorem zpq (out:List Nat) (a:Nat):nr R n out a 0=oy R n out:=by
 refine ya (by rw [YX,Dw]) fun i hi=>?_;rw [YX] at hi;rw [Wm hi,LJ hi,if_neg za]
theorem zrp (out:List Nat) (a:Nat):nr R n out a n=oy R n (out++[a]):=by
 refine ya (by rw [YX,Dw]) fun i hi=>?_;rw [YX] at hi;rw [Wm hi,LJ hi,if_pos hi]
theorem zrq (ha:a<n) (bl:a∉out) (hb:b<n) (h:R a b=true):nr R n out a (b+1)=(nr R n out a b).set b (nth (nr R n out a b) b - 1):=by
 refine ya (by simp [YX]) fun i hi=>?_;rw [YX] at hi;rw [YH (by rw [YX];exact hi),Wm hi,Wm hi,Wm hb];by_cases e:b=i
 ·subst e;rw [if_pos za,if_pos rfl,if_neg za];have:=zob (R:=R) (b:=b) ha bl;rw [if_pos h] at this;omega
 ·rw [if_neg e];by_cases h2:i<b
  ·rw [if_pos h2,if_pos za]
  ·rw [if_neg h2,if_neg za]
theorem zuc (ha:a<n) (bl:a∉out) (h:R a b=false):nr R n out a (b+1)=nr R n out a b:=by
 refine ya (by simp [YX]) fun i hi=>?_;rw [YX] at hi;rw [Wm hi,Wm hi];by_cases e:b=i
 ·subst e;rw [if_pos za,if_neg za];have:=zob (R:=R) (b:=b) ha bl;rw [if_neg (by rw [h];decide)] at this;omega
 ·by_cases h2:i<b
  ·rw [if_pos h2,if_pos za]
  ·rw [if_neg h2,if_neg za]
theorem zub (h:j<n):0≤nth (nr R n out a b) j∧nth (nr R n out a b) j≤n:=by
 rw [Wm h];have:=zri (R:=R) (n:=n) out j;have:=zri (R:=R) (n:=n) (out++[a]) j;split <;> omega
end
theorem Z8 (n:Nat) (R:Nat→Nat→Bool) (hn:n≤1000000) (hr:Ix R n):xA Tryz.prog 40 [tY n R] (.ow 3 1) (.list 1 ((ZV R n n).map yx)):=by
 have lD:=fun a b=>ziL n R a b hn;have lz:=zpg n R hn;rw [← zvh] at lz;have hw0:=Dw (R:=R) (n:=n) [];unfold tY Et at lD lz ⊢;obtain ⟨S,hS⟩:∃ S,(List.range n).map (setRow n R)=S:=⟨_,rfl⟩
 rw [hS] at lD lz ⊢;refine ym 61 Tryz.func40 Tryz.ntmps40 rfl ?_;change FW _ _ _ ⟨[(0,.ax 2 [[.int .i64 n,.list 1 S]] 0 0)],[]⟩;refine zb ?_;refine Yr lz (by repeat (first|exact zH.nil|refine zH.cons zB ?_)) (zj _) rfl rfl rfl ?_;rw [hw0];refine zb ?_;refine FW.loop (fun k:Nat=>⟨[(0,.ax 2 [[.int .i64 n,.list 1 S]] 0 0),(3,.own 100 0 0 n),(4,.own 101 0 0 n),(5,.own 102 0 0 k),(18,.int .i64 n),(19,.int .i64 k)],[(100,⟨0,.own,3,1,(oy R n (ZV R n k)).map zJ⟩),(101,⟨0,.own,4,1,(lN n (ZV R n k)).map dz⟩),(102,⟨0,.own,3,1,(ZV R n k).map yx⟩)]⟩) (fun k=>k≤n) (fun k=>n - k) 0 (zp _) ?_ ?_
 ·show ar _ ⟨[(0,.ax 2 [[.int .i64 n,.list 1 S]] 0 0),(3,.own 100 0 0 n),(4,.own 101 0 0 n),(5,.own 102 0 0 0),(18,.int .i64 n),(19,.int .i64 0)],[(100,⟨0,.own,3,1,(oy R n []).map zJ⟩),(101,⟨0,.own,4,1,(lN n []).map dz⟩),(102,⟨0,.own,3,1,[]⟩)]⟩;rw [zue,Wc];exact (ar.cv [⟨100,some 9,0+1,⟨0,.own,3,1,(oy R n []).map zJ⟩⟩,⟨101,some 14,0+1,⟨0,.own,4,1,List.replicate n (dz false)⟩⟩,⟨102,none,0,⟨0,.own,3,1,[]⟩⟩] zh zf)
 intro k hk;refine zb ?_;refine FW.cond rfl (fun h=>?_) (fun h=>?_)
 ·have aA:k<n:=by simpa using h
  clear h;have AW:=YY (R:=R) (n:=n) k;have lC:ZV R n (k+1)=ZV R n k++[sI R n (ZV R n k)]:=rfl;have Dg:=R6 hr (out:=ZV R n k) (by rw [AW];exact aA);generalize ZV R n k=out at AW lC Dg;obtain ⟨p,hp⟩:∃ p,sI R n out=p:=⟨_,rfl⟩
  rw [hp] at lC Dg;obtain ⟨p1,p2,p3⟩:=Dg;have qD:=Dw (R:=R) (n:=n) out;have td:=DJ (n:=n) out;refine zb ?_;refine FW.loop (fun a:Nat=>⟨[(0,.ax 2 [[.int .i64 n,.list 1 S]] 0 0),(3,.own 100 0 0 n),(4,.own 101 0 0 n),(5,.own 102 0 0 k),(6,.int .i64 a),(18,.int .i64 n),(19,.int .i64 k)],[(100,⟨0,.own,3,1,(oy R n out).map zJ⟩),(101,⟨0,.own,4,1,(lN n out).map dz⟩),(102,⟨0,.own,3,1,out.map yx⟩)]⟩) (fun a=>a≤p) (fun a=>p - a) 0 (zp _) ?_ ?_
  ·exact (ar.cv [⟨100,some 100,0,⟨0,.own,3,1,(oy R n out).map zJ⟩⟩,⟨101,some 101,0,⟨0,.own,4,1,(lN n out).map dz⟩⟩,⟨102,some 102,0,⟨0,.own,3,1,out.map yx⟩⟩] zh zf)
  intro a ha;have pn:a<n:=by omega
  have pP:=LJ (R:=R) (out:=out) pn;have fq:=Lu (n:=n) (out:=out) pn;have ij:sJ R n out a=(decide (a∈out) || decide (0<kD R n out a)):=rfl;obtain ⟨q,hq⟩:∃ q,decide (a∈out)=q:=⟨_,rfl⟩
  rw [hq] at fq ij;refine zb ?_;rw [fq];cases q with
  | true =>
   have Fl:sJ R n out a=true:=by rw [ij,HR]
   have aN:a≠p:=fun e=>by rw [e,p2] at Fl;cases Fl
   refine zb ?_;exact ⟨a+1,by omega,by omega,(ar.cv [⟨100,some 100,0,⟨0,.own,3,1,(oy R n out).map zJ⟩⟩,⟨101,some 101,0,⟨0,.own,4,1,(lN n out).map dz⟩⟩,⟨102,some 102,0,⟨0,.own,3,1,out.map yx⟩⟩] zh zf)⟩
  | false=>
   rw [ZR] at ij;refine zb ?_;rw [pP];skip;refine FW.cond rfl (fun h=>?_) (fun h=>?_)
   ·have Fl:sJ R n out a=true:=by
     rw [ij];have h:0<(kD R n out a:Int):=by simpa using h
     exact decide_eq_true za
    have aN:a≠p:=fun e=>by rw [e,p2] at Fl;cases Fl
    refine zb ?_;exact ⟨a+1,by omega,by omega,(ar.cv [⟨100,some 100,0,⟨0,.own,3,1,(oy R n out).map zJ⟩⟩,⟨101,some 101,0,⟨0,.own,4,1,(lN n out).map dz⟩⟩,⟨102,some 102,0,⟨0,.own,3,1,out.map yx⟩⟩] zh zf)⟩
   ·have vM:a=p:=by
     refine ZS fun aN=>?_;have h1:=p3 a za;rw [ij] at h1;have h1:0<kD R n out a:=of_decide_eq_true h1;have h:¬ 0<(kD R n out a:Int):=by simpa using h
     omega
    subst vM;have bl:a∉out:=of_decide_eq_false hq;have Fu:=zud (n:=n) (out:=out) pn;have Fs:=zpq (R:=R) (n:=n) out a;have Fv:=zrp (R:=R) (n:=n) out a;have er:(out++[a]).map yx=out.map yx++[yx a]:=by rw [zF];rfl
    refine zb ?_;refine FW.loop (fun b:Nat=>⟨[(0,.ax 2 [[.int .i64 n,.list 1 S]] 0 0),(3,.own 100 0 0 n),(4,.own 101 0 0 n),(5,.own 102 0 0 (k+1)),(6,.int .i64 a),(18,.int .i64 n),(19,.int .i64 k),(44,.int .i64 n),(45,.int .i64 b)],[(100,⟨0,.own,3,1,(nr R n out a b).map zJ⟩),(101,⟨0,.own,4,1,(lN n (out++[a])).map dz⟩),(102,⟨0,.own,3,1,(out++[a]).map yx⟩)]⟩) (fun b=>b≤n) (fun b=>n - b) 0 (zp _) ?_ ?_
    ·rw [Fs,Fu,er,xc];exact (ar.cv [⟨100,some 100,0,⟨0,.own,3,1,(oy R n out).map zJ⟩⟩,⟨101,some 101,0,⟨0,.own,4,1,((lN n out).map dz).set a (dz true)⟩⟩,⟨102,some 40,0+1,⟨0,.own,3,1,out.map yx++[yx a]⟩⟩] zh zf)
    intro b hb;refine zb ?_;refine FW.cond rfl (fun h=>?_) (fun h=>?_)
    ·have jW:b<n:=by simpa using h
     clear h;have hl:=lD a b pn jW;have hy:=fun h=>zrq (R:=R) pn bl jW h;have ja:=fun h=>zuc (R:=R) (b:=b) pn bl h;have ij:=YX (R:=R) (n:=n) out a b;have ff:=zub (R:=R) (out:=out) (a:=a) (b:=b) jW;generalize nr R n out a b=Z at hy ja ij ff;obtain ⟨z,hz⟩:∃ z,nth Z b=z:=⟨_,rfl⟩
     rw [hz] at hy ff;refine zb ?_;refine yP hl (by repeat (first|exact zH.nil|refine zH.cons zB ?_)) rfl rfl ?_;refine zb ?_;refine FW.cond rfl (fun h=>?_) (fun h=>?_)
     ·have hy:=hy h;refine zb ?_;rw [hz];skip;refine ⟨b+1,by omega,by omega,?_⟩;rw [hy,xc];exact (ar.cv [⟨100,some 100,0,⟨0,.own,3,1,(Z.map zJ).set b (zJ (z - 1))⟩⟩,⟨101,some 101,0,⟨0,.own,4,1,(lN n (out++[a])).map dz⟩⟩,⟨102,some 102,0,⟨0,.own,3,1,(out++[a]).map yx⟩⟩] zh zf)
     ·have ja:=ja h;refine zb ?_;refine ⟨b+1,by omega,by omega,?_⟩;rw [ja];exact (ar.cv [⟨100,some 100,0,⟨0,.own,3,1,Z.map zJ⟩⟩,⟨101,some 101,0,⟨0,.own,4,1,(lN n (out++[a])).map dz⟩⟩,⟨102,some 102,0,⟨0,.own,3,1,(out++[a]).map yx⟩⟩] zh zf)
    ·obtain rfl:b=n:=by simp at h;omega
     refine zb ?_;refine ⟨k+1,by omega,by omega,?_⟩;rw [lC,← Fv];exact (ar.cv [⟨100,some 100,0,⟨0,.own,3,1,(nr R b out a b).map zJ⟩⟩,⟨101,some 101,0,⟨0,.own,4,1,(lN b (out++[a])).map dz⟩⟩,⟨102,some 102,0,⟨0,.own,3,1,(out++[a]).map yx⟩⟩] zh zf)
 ·obtain rfl:k=n:=by simp at h;omega
  refine zb ?_;exact FW.ret ⟨.inl rfl,tF rfl rfl rfl (by rw [zj,YY]) zd rfl (fun e he=>by obtain ⟨b,_,rfl⟩:=zi.1 he;rfl)⟩
end
section
variable {l:List aq}
theorem zoo {c:List Nat}:∀ {k:Nat},k≤c.length→∀ j,j<k→Uw (nth l (tM l c k))≤Uw (nth l (nth c j))
 | 0, _, j, hj => by omega
 | k+1,hk,j,hj=>by
  rw [PC za];unfold Eo;by_cases tq:j=k
  ·subst tq;split
   ·exact XR _
   ·omega
  ·have:=zoo (c:=c) (k:=k) za j za;split
   ·omega
   ·exact this
theorem zoC {c:List Nat}:∀ {k:Nat},k≤c.length→∀ j,j<k→(nth l (nth c j)).call≤(nth l (vd l c k)).call
 | 0, _, j, hj => by omega
 | k+1,hk,j,hj=>by
  rw [PF za];unfold Es;by_cases tq:j=k
  ·subst tq;split
   ·exact XR _
   ·omega
  ·have:=zoC (c:=c) (k:=k) za j za;split
   ·omega
   ·exact this
theorem zrO (h:i∈c):iA l c≤Uw (nth l i):=by
 obtain ⟨j,hj,e⟩:=zU h;have:=zoo (l:=l) (zg c.length) j hj;rw [QH,ak hj,e] at this;exact this
theorem ztw (h:i∈c):(nth l i).call≤jn l c:=by
 obtain ⟨j,hj,e⟩:=zU h;have:=zoC (l:=l) (zg c.length) j hj;rw [Qt,ak hj,e] at this;exact this
theorem zle (h0:0<c.length):mS l c∈c:=by rw [← QH];exact QJ h0 (zg _)
theorem zlL (h0:0<c.length):nv l c∈c:=by rw [← Qt];exact Qu h0 (zg _)
end
def vB (l:List aq) (x y:dx):Bool:=x.iF || decide (iA l x.ops<jn l y.ops)
def tZ (l:List aq) (C:List dx) (i k:Nat):eQ:=((List.range k).filter fun k=>decide (i≠k) && vB l (nth C i) (nth C k)).map fun k=>(i,k)
def sO (l:List aq) (C:List dx) (i:Nat):eQ:=(List.range i).flatMap fun i=>tZ l C i C.length
def qj (l:List aq) (C:List dx):eQ:=sO l C C.length
theorem zsQ (l:List aq) (C:List dx) (i k:Nat):tZ l C i (k+1)=tZ l C i k++if (decide (i≠k) && vB l (nth C i) (nth C k))=true then [(i,k)] else []:=by
 unfold tZ;rw [yQ,ZT,zF];congr 1;by_cases h:(decide (i≠k) && vB l (nth C i) (nth C k))=true
 ·rw [if_pos h,HW (by exact h)];rfl
 ·rw [if_neg h,HU (by exact h)];rfl
theorem zlU (l:List aq) (C:List dx) (i:Nat):sO l C (i+1)=sO l C i++tZ l C i C.length:=by
 unfold sO;rw [yQ,DD];simp
theorem zoO (l:List aq) (C:List dx) (i k:Nat):(tZ l C i k).length≤k:=by
 unfold tZ;rw [zj];exact yc (xV _ _) zc
theorem Ry (l:List aq) (C:List dx):∀ i,(sO l C i).length≤i * C.length
 | 0 => by simp [sO]
 | i+1 => by
  rw [zlU,zN];have:=Ry l C i;have:=zoO l C i C.length;rw [Wi];omega
theorem Rx:(i,k)∈qj l C↔i<C.length∧k<C.length∧i≠k∧vB l (nth C i) (nth C k)=true:=by
 unfold qj sO;rw [Vb];constructor
 ·rintro ⟨i',h1,h2⟩;unfold tZ at h2;obtain ⟨k',h3,h4⟩:=zi.1 h2;obtain ⟨h5,h6⟩:=zY.1 h3;simp only [xf] at h4;obtain ⟨rfl,rfl⟩:=h4;simp only [zx,decide_eq_true_eq] at h6;exact ⟨zn.1 h1,zn.1 h5,h6.1,h6.2⟩
 ·rintro ⟨h1,h2,h3,h4⟩;refine ⟨i,zn.2 h1,zi.2 ⟨k,zY.2 ⟨zn.2 h2,?_⟩,rfl⟩⟩;rw [decide_eq_true h3,h4];rfl
theorem Vl {x y:dx}:mU l x y=[]↔jn l x.ops≤iA l y.ops∨(x.iF=false∧jn l y.ops≤iA l x.ops):=by
 unfold mU;by_cases h1:iA l y.ops≥jn l x.ops
 ·rw [if_pos h1];exact ⟨fun _=>.inl h1,fun _=>rfl⟩
 ·rw [if_neg h1];by_cases h2:x.iF=true
  ·rw [if_pos h2,h2];constructor
   ·intro h;cases h
   ·rintro (h|h)
    ·exact absurd h h1
    ·cases h.1
  ·rw [if_neg h2];by_cases h3:iA l x.ops<jn l y.ops
   ·rw [if_pos h3];constructor
    ·intro h;cases h
    ·rintro (h|h)
     ·exact absurd h h1
     ·omega
   ·rw [if_neg h3];exact ⟨fun _=>.inr ⟨by simpa using h2,by omega⟩,fun _=>rfl⟩
def wQ (l:List aq) (x:dx):Nat:=if x.iF=true then 0 else 1+2 * (min (iA l x.ops) (jn l x.ops)).toNat+if iA l x.ops<jn l x.ops then 1 else 0
theorem zuR (hC:∀ a j,a<j→j<C.length→mU l (nth C a) (nth C j)=[]) (FG:∀ j,j<C.length→(nth C j).iF=true→j=0)
  (h0:∀ j,j<C.length→0≤iA l (nth C j).ops∧0≤jn l (nth C j).ops):∀ e∈qj l C,wQ l (nth C e.1)<wQ l (nth C e.2):=by
 rintro ⟨i,k⟩ he;obtain ⟨hi,hk,aN,hp⟩:=Rx.1 he;dsimp only;unfold vB at hp;rw [xB,decide_eq_true_eq] at hp;have O4:(nth C k).iF=true→False:=fun h=>by
  have e:=FG k hk h;have:=Vl.1 (hC k i za hi);rw [h] at this;rcases this with h1|h1
  ·rcases hp with h2|h2
   ·have:=FG i hi h2;omega
   ·omega
  ·cases h1.1
 have kf:(nth C k).iF=false:=by
  cases h:(nth C k).iF with
  | false => rfl
  | true => exact (O4 h).elim
 unfold wQ;rw [kf,if_neg (show ¬ false=true by decide)];cases cy:(nth C i).iF with
 | true => rw [if_pos rfl]; omega
 | false=>
  rw [if_neg zd];have hp:iA l (nth C i).ops<jn l (nth C k).ops:=hp.resolve_left (by rw [cy];decide);have hnc:jn l (nth C i).ops≤iA l (nth C k).ops:=by
   rcases HE aN with h|h
   ·rcases Vl.1 (hC i k h hk) with h1|h1
    ·exact h1
    ·omega
   ·rcases Vl.1 (hC k i h hi) with h1|h1
    ·omega
    ·exact h1.2
  obtain ⟨i1,i2⟩:=h0 i hi;obtain ⟨k1,k2⟩:=h0 k hk;split <;> split <;> omega
theorem CB.mem (h:CB R n L) (hb:b<n):b∈L:=by
 refine ZS fun bl=>?_;have key:∀ (l m:List Nat),l.Nodup→(∀ x∈l,x∈m)→l.length≤m.length:=by
  intro l
  induction l with
  | nil => intro m _ _; exact zp _
  | cons x l ih =>
   intro m hn hs;obtain ⟨h1,h2⟩:=yp.1 hn;have hx:=hs x zc;have hl:=Yt hx;have bm:0<m.length:=Xp hx;have:=ih (m.erase x) h2 fun y hy=>(YO (fun e:y=x=>h1 (by rw [← e];exact hy))).2 (hs y (by simp [hy]));rw [yS];omega
 have hs:=key L ((List.range n).erase b) h.nd fun x hx=>(YO (fun e:x=b=>bl (by rw [← e];exact hx))).2 (zn.2 (h.cW x hx));rw [Yt (zn.2 hb),YN,h.len] at hs;omega
def fY (L:List Nat) (x:Nat):Nat:=L.idxOf x
theorem wV (h:x∈L):fY L x<L.length:=zkG h
theorem XV (h:x∈L):nth L (fY L x)=x:=by
 rw [ak (wV h)];exact List.getElem_idxOf _
theorem LW (hn:L.Nodup) (hi:i<L.length):fY L (nth L i)=i:=by
 rw [ak hi];exact hn.idxOf_getElem i hi
theorem zoM {y:Nat} (hx:x∈L) (hy:y∈L) (e:fY L x=fY L y):x=y:=by
 rw [← XV hx,e,XV hy]
theorem CB.lt (h:CB R n L) (ha:a<n) (hb:b<n) (hr:R a b=true):fY L a<fY L b:=by
 have ma:=h.mem ha;have mb:=h.mem hb;have:=h.ord (fY L a) (fY L b) (by rw [← h.len];exact wV ma) (by rw [← h.len];exact wV mb);rw [XV ma,XV mb] at this;exact this hr
structure VO (l:List aq) (c:Int):Prop where
 thin:∀ i,i<l.length→(nth l i).key=c→vh l i=false
 early:∀ i,i<l.length→(nth l i).key=c→DZ l i=false
 EF:tL l c=[]
def lI (l:List aq) (c:Int):Nat:=(ZI l c).length
noncomputable def sM (l:List aq) (c:Int):List Nat:=ZV (YK (qj l (ZI l c))) (lI l c) (lI l c)
noncomputable def fj (l:List aq) (c:Int):List Nat:=(sM l c).flatMap fun j=>(nth (ZI l c) j).ops
def ov (l:List aq) (c:Int) (i:Nat):Nat:=((List.range (lI l c)).find? fun j=>decide (Ux l c j=iJ (nth l i))).getD 0
noncomputable def iw (l:List aq) (c:Int) (i:Nat):Nat:=fY (sM l c) (ov l c i) * (l.length+2)+if (nth l i).k=1 then 0 else i+1
section
variable {l:List aq} {c:Int}
theorem Q4 (hj:j<(ZI l c).length):(nth (ZI l c) j).iF=true→j=0∧Ah l c=true:=by
 rw [B7] at hj;have h1:nth (ZI l c) j=_:=Cc hj;rw [h1];show (nth (Uf l c l.length) j).1=true→_;unfold Uf at hj ⊢;intro h;by_cases h0:Ah l c=true
 ·rw [if_pos h0] at h hj;refine ⟨ZS fun aN=>?_,h0⟩;obtain ⟨j,rfl⟩:∃ j',j=j'+1:=⟨j - 1,by omega⟩
  simp only [zN,yS,HA] at hj;rw [ak (by simp at hj ⊢;omega)] at h;simp at h
 ·rw [if_neg h0] at h hj;rw [YQ] at h hj;rw [ak hj] at h;simp at h
theorem Qh (D:yE l) (hj:j<lI l c) (hk:k<lI l c) (e:Ux l c j=Ux l c k):j=k:=by
 have hn:=zml (c:=c) D (zg l.length);unfold lI at hj hk;rw [B7] at hj hk;unfold Ux at e;rw [ak hj,ak hk] at e;refine (WI hn (h₀:=by simpa using hj) (h₁:=by simpa using hk)).1 ?_;simpa using e
theorem wW (D:yE l) (V:VO l c) (h1:i<l.length) (h2:(nth l i).key=c) (h4:yC l i=true):ov l c i<lI l c∧Ux l c (ov l c i)=iJ (nth l i):=by
 have hex:∃ j,j<lI l c∧Ux l c j=iJ (nth l i):=by
  unfold lI;rw [B7];unfold Ux;rcases D.kind h1 with hk|hk
  ·obtain ⟨j,j1,j2⟩:=zmk D h1 h2 hk (xk hk h4) (V.thin i h1 h2);exact ⟨j,j1,by rw [j2,UQ hk]⟩
  ·have hm:(false,[i],(nth l i).arg)∈Uf l c l.length:=WL.2 (.inr ⟨i,h1,VG.2 ⟨h2,hk,h4⟩,rfl⟩);obtain ⟨j,hj,e⟩:=zU hm;exact ⟨j,hj,by rw [ak hj,e,VC hk]⟩
 obtain ⟨j,j1,j2⟩:=hex;unfold ov;cases hf:(List.range (lI l c)).find? fun j=>decide (Ux l c j=iJ (nth l i)) with
 | none =>
  have:=xq.1 hf j (zn.2 j1);rw [j2] at this;simp at this
 | some z =>
  rw [HX] at hf;exact ⟨zn.1 hf.2.1,by simpa using hf.1⟩
theorem zvN (D:yE l) (V:VO l c) (hj:j<lI l c) (hi:i∈(nth (ZI l c) j).ops):ov l c i=j:=by
 obtain ⟨h1,h2,h3,h4⟩:=(Yn D hj).1 hi;obtain ⟨c1,c2⟩:=wW D V h1 h2 h4;exact Qh D c1 hj (by rw [c2,h3])
theorem Ih (D:yE l) (hw:∀ i,i<l.length→0≤(nth l i).call∧(nth l i).call<(nth l i).ret) (V:VO l c):(∀ e∈qj l (ZI l c),wQ l (nth (ZI l c) e.1)<wQ l (nth (ZI l c) e.2))∧CB (YK (qj l (ZI l c))) (lI l c) (sM l c):=by
 have h:=zuR (l:=l) (C:=ZI l c) (fun a j Jy hj=>RO.1 V.EF a za za j Jy hj) (fun j hj h=>(Q4 hj h).1) (fun j hj=>by
  have h0:=Ij D hj;have m1:=(Yn D hj).1 (zle (l:=l) h0);have m2:=(Yn D hj).1 (zlL (l:=l) h0);have w1:=hw _ m1.1;have w2:=hw _ m2.1;refine ⟨?_,w2.1⟩;unfold iA Uw;split <;> omega)
 exact ⟨h,zoi (VW (f:=fun j=>wQ l (nth (ZI l c) j)) h)⟩
theorem Xg (D:yE l) (hw:∀ i,i<l.length→0≤(nth l i).call∧(nth l i).call<(nth l i).ret) (V:VO l c):i∈fj l c↔i<l.length∧(nth l i).key=c∧yC l i=true:=by
 obtain ⟨_,E⟩:=Ih D hw V;unfold fj;rw [Vb];constructor
 ·rintro ⟨j,hj,hi⟩;obtain ⟨h1,h2,h3,h4⟩:=(Yn D (E.cW j hj)).1 hi;exact ⟨h1,h2,h4⟩
 ·rintro ⟨h1,h2,h4⟩;obtain ⟨c1,c2⟩:=wW D V h1 h2 h4;exact ⟨_,E.mem c1,(Yn D c1).2 ⟨h1,h2,c2.symm,h4⟩⟩
theorem L8 (D:yE l) (V:VO l c) (hj:j<lI l c) (hi:i∈(nth (ZI l c) j).ops):iw l c i=fY (sM l c) j * (l.length+2)+if (nth l i).k=1 then 0 else i+1:=by
 unfold iw;rw [zvN D V hj hi]
theorem Iq (h:i<l.length):(if (nth l i).k=1 then 0 else i+1)<l.length+2:=by split <;> omega
theorem IJ {B y:Nat} (h:a<b) (hx:x<B):a * B+x<b * B+y:=by
 have:=ZG B (show a+1≤b by omega);rw [Wi] at this;omega
theorem zhf (D:yE l) (hw:∀ i,i<l.length→0≤(nth l i).call∧(nth l i).call<(nth l i).ret) (V:VO l c):(fj l c).Pairwise fun a b=>iw l c a<iw l c b:=by
 obtain ⟨_,E⟩:=Ih D hw V;unfold fj;rw [List.pairwise_flatMap];constructor
 ·intro j hj;have gj:=E.cW j hj;have gC:∀ v,(lM l c v l.length).Pairwise fun a b=>a<b∧(nth l a).k=0∧(nth l b).k=0:=fun v=>by
   have h1:(lM l c v l.length).Pairwise fun a b=>a<b:=List.pairwise_lt_range.sublist Li;refine h1.imp_of_mem fun ha hb eX=>⟨eX,?_,?_⟩
   ·exact (ZW.1 (Hw.1 ha).2).1
   ·exact (ZW.1 (Hw.1 hb).2).1
  have hp:(nth (ZI l c) j).ops.Pairwise fun a b=>(if (nth l a).k=1 then 0 else a+1)<if (nth l b).k=1 then 0 else b+1:=by
   rcases Vk gj with ⟨h0,h1,h2⟩|⟨w,w1,w2,h1,h2⟩
   ·rw [h2];refine (gC 0).imp fun h=>?_;rw [if_neg za,if_neg za];omega
   ·rw [h2];refine Vc.2 ⟨fun b hb=>?_,(gC _).imp fun h=>?_⟩
    ·have:=(ZW.1 (Hw.1 hb).2).1;rw [if_pos (VG.1 w2).2.1,if_neg za];omega
    ·rw [if_neg za,if_neg za];omega
  refine hp.imp_of_mem fun ha hb h=>?_;rw [L8 D V gj ha,L8 D V gj hb];omega
 ·rw [Zw];intro p q hp hq nT x hx y hy;have h1:=E.cW _ (xH hp);have h2:=E.cW _ (xH hq);rw [L8 D V h1 hx,L8 D V h2 hy];have e1:=LW E.nd hp;have e2:=LW E.nd hq;rw [ak hp] at e1;rw [ak hq] at e2;rw [e1,e2];exact IJ nT (Iq ((Yn D h1).1 hx).1)
theorem zvx (D:yE l) (hw:∀ i,i<l.length→0≤(nth l i).call∧(nth l i).call<(nth l i).ret) (V:VO l c) (hi:i<lI l c) (hk:k<lI l c) (aN:i≠k) (h:vB l (nth (ZI l c) i) (nth (ZI l c) k)=true):fY (sM l c) i<fY (sM l c) k:=
 (Ih D hw V).2.lt hi hk (XN.2 (.one (Rx.2 ⟨hi,hk,aN,h⟩)))
theorem zwr (D:yE l) (hc:∀ i j,i<l.length→j<l.length→(nth l i).call<(nth l j).call→i<j) (hw:∀ i,i<l.length→0≤(nth l i).call∧(nth l i).call<(nth l i).ret) (V:VO l c) (hi:i∈fj l c) (hk:k∈fj l c) (hb:gN l i k=true):iw l c i<iw l c k:=by
 obtain ⟨i1,i2,i4⟩:=(Xg D hw V).1 hi;obtain ⟨k1,k2,k4⟩:=(Xg D hw V).1 hk;obtain ⟨ci,vi⟩:=wW D V i1 i2 i4;obtain ⟨ck,vk⟩:=wW D V k1 k2 k4;have mi:=(Yn D ci).2 ⟨i1,i2,vi.symm,i4⟩;have mk:=(Yn D ck).2 ⟨k1,k2,vk.symm,k4⟩;have Fm:=zn1 (fun i h=>(hw i h).2) i1 hb;have dS:=hc i k i1 k1 Fm;have kO:=hb;unfold gN at kO;simp only [zx,decide_eq_true_eq] at kO;unfold iw;by_cases e:ov l c i=ov l c k
 ·rw [e];have hv:iJ (nth l i)=iJ (nth l k):=by rw [← vi,← vk,e]
  rcases D.kind i1 with ki|ki
  ·rcases D.kind k1 with kk|kk
   ·rw [if_neg za,if_neg za];omega
   ·exfalso;rw [UQ ki,VC kk] at hv;have he:=V.early i i1 i2;have e1:=Sp D k1 kk;rw [k2,← hv,← i2] at e1;have ha:=D.arg k1 kk;unfold DZ at he;rw [e1,decide_eq_true ki,kO.1,decide_eq_true (show (nth l i).res≠0 by omega)] at he;have he:gN l i k=false:=by simpa using he
    rw [hb] at he;cases he
  ·rcases D.kind k1 with kk|kk
   ·rw [if_pos ki,if_neg za];omega
   ·exfalso;rw [VC ki,VC kk] at hv;have:=D.uniq i1 k1 ki kk (i2.trans k2.symm) hv;omega
 ·refine IJ (zvx D hw V ci ck e ?_) (Iq i1);unfold vB;rw [xB,decide_eq_true_eq];refine .inr ?_;have h1:=zrO (l:=l) mi;have h2:=ztw (l:=l) mk;have h3:Uw (nth l i)=(nth l i).ret:=by unfold Uw;rw [kO.1];rfl
  omega
theorem zwq (D:yE l) (hw:∀ i,i<l.length→0≤(nth l i).call∧(nth l i).call<(nth l i).ret) (V:VO l c) {r:Nat} (hr:r<l.length) (JQ:(nth l r).key=c) (h0:(nth l r).k=0) (hd:(nth l r).done=true) :
  ((nth l r).res=0∧∀ w,jI l c w→iw l c r<iw l c w)∨∃ w,jI l c w∧(nth l w).arg=(nth l r).res∧iw l c w<iw l c r∧∀ w',jI l c w'→w'≠w→iw l c w'<iw l c w∨iw l c r<iw l c w':=by
 obtain ⟨cr,vr⟩:=wW D V hr JQ (WT hd);rw [UQ h0] at vr;by_cases hz:(nth l r).res=0
 ·refine .inl ⟨hz,fun w jd=>?_⟩;obtain ⟨w1,w2,w3,w4⟩:=jd;obtain ⟨cw,vw⟩:=wW D V w1 w2 w4;rw [VC w3] at vw;have ha:=D.arg w1 w3;have aN:ov l c r≠ov l c w:=fun e=>by rw [e,vw] at vr;omega
  unfold iw;refine IJ (zvx D hw V cr cw aN ?_) (Iq hr);unfold vB;rw [xB];left;rcases Vk cr with ⟨h0,h1,h2⟩|⟨u,u1,u2,h1,h2⟩
  ·rw [h2]
  ·exact absurd (by rw [← h1,vr,hz]) (D.arg u1 (VG.1 u2).2.1)
 ·have ht:=V.thin r hr JQ;unfold vh at ht;rw [decide_eq_true h0,hd,decide_eq_true hz] at ht;simp only [yN] at ht;cases rY:jH l (nth l r).key (nth l r).res with
  | none => rw [rY] at ht; cases ht
  | some w=>
   obtain ⟨w1,w2,_⟩:=WM rY;rw [ZM] at w2;obtain ⟨w2,w3,w5⟩:=w2;have w4:=ztI hr h0 hd w1 w2 w3 w5;have wc:(nth l w).key=c:=w3.trans JQ;obtain ⟨cw,vw⟩:=wW D V w1 wc w4;rw [VC w2] at vw;have bI:ov l c w=ov l c r:=Qh D cw cr (by rw [vw,vr,w5]);refine .inr ⟨w,⟨w1,wc,w2,w4⟩,w5,?_,?_⟩
   ·unfold iw;rw [bI,if_pos w2,if_neg za];omega
   ·rintro w' ⟨x1,x2,x3,x4⟩ aN;obtain ⟨cx,vx⟩:=wW D V x1 x2 x4;rw [VC x3] at vx;have Nw:ov l c w'≠ov l c w:=fun e=>by
     rw [e,vw] at vx;exact aN (D.uniq x1 w1 x3 w2 (x2.trans wc.symm) vx.symm)
    have E:=(Ih D hw V).2;have Ou:fY (sM l c) (ov l c w')≠fY (sM l c) (ov l c w):=fun e=>Nw (zoM (E.mem cx) (E.mem cw) e);rcases HE Ou with h|h
    ·left;unfold iw;exact IJ h (Iq x1)
    ·right;unfold iw;rw [← bI];exact IJ h (Iq hr)
end
def vE (h:Nat→Nat) (L:List Nat):Nat:=L.foldr (fun x m=>max (h x) m) 0
theorem LZ {h:Nat→Nat} {x:Nat}:∀ {L:List Nat},x∈L→h x≤vE h L
 | y :: L, hx => by
  show h x≤max (h y) (vE h L);rcases zA.1 hx with rfl|hx
  ·omega
  ·have:=LZ (h:=h) hx;omega
theorem RZ {h:Nat→Nat}:∀ (L:List Nat),vE h L=0∨∃ x∈L,h x=vE h L
 | [] => .inl rfl
 | y::L=>by
  show max (h y) (vE h L)=0∨∃ x∈y::L,h x=max (h y) (vE h L);rcases Nat.le_total (vE h L) (h y) with hle|hle
  ·exact .inr ⟨y,by simp,by omega⟩
  ·rcases RZ (h:=h) L with e|⟨x,hx,e⟩
   ·by_cases h0:h y=0
    ·left;omega
    ·exact .inr ⟨y,by simp,by omega⟩
   ·exact .inr ⟨x,by simp [hx],by omega⟩
theorem PM {α:Type} [BEq α] [LawfulBEq α]:∀ {l m:List α},l.Nodup→(∀ x∈l,x∈m)→l.length≤m.length
 | [], m, _, _ => zp _
 | x :: l, m, hn, hs => by
  have h1:=yp.1 hn;have hx:=hs x zc;have hl:=Yt hx;have bm:0<m.length:=Xp hx;have:=PM (m:=m.erase x) h1.2 fun y hy=>(YO (fun e:y=x=>h1.1 (by rw [← e];exact hy))).2 (hs y (by simp [hy]));rw [yS];omega
def Wz (l:List aq):List Nat:=(List.range l.length).filter (yC l)
def oA (l:List aq) (i:Nat):Nat:=fY (Wz l) i
def qV (l:List aq) (row:List Nat) (k:Nat):eQ:=(List.range k).map fun i=>(oA l (nth row i),oA l (nth row (i+1)))
def I3 (l:List aq) (row:List Nat):eQ:=qV l row (row.length - 1)
noncomputable def o9 (l:List aq) (K:List Int):eQ:=K.flatMap fun c=>I3 l (fj l c)
def tC (l:List aq) (a k:Nat):eQ:=((List.range k).filter fun b=>gN l (nth (Wz l) a) (nth (Wz l) b)).map fun b=>(a,b)
def pY (l:List aq) (a:Nat):eQ:=(List.range a).flatMap fun a=>tC l a (Wz l).length
noncomputable def sS (l:List aq) (K:List Int):eQ:=o9 l K++pY l (Wz l).length
noncomputable def Ai (l:List aq) (K:List Int):List Nat:=ZV (YK (sS l K)) (Wz l).length (Wz l).length
noncomputable def lj (l:List aq) (K:List Int):List Nat:=(Ai l K).map fun a=>nth (Wz l) a
theorem ztg (l:List aq) (row:List Nat) (k:Nat):qV l row (k+1)=qV l row k++[(oA l (nth row k),oA l (nth row (k+1)))]:=by
 unfold qV;rw [yQ,zF];rfl
theorem zoV (l:List aq) (row:List Nat) (k:Nat):(qV l row k).length=k:=by simp [qV]
theorem zu2 (l:List aq) (a k:Nat):tC l a (k+1)=tC l a k++if gN l (nth (Wz l) a) (nth (Wz l) k)=true then [(a,k)] else []:=by
 unfold tC;rw [yQ,ZT,zF];congr 1;by_cases h:gN l (nth (Wz l) a) (nth (Wz l) k)=true
 ·rw [if_pos h,HW (by exact h)];rfl
 ·rw [if_neg h,HU (by exact h)];rfl
theorem zoW (l:List aq) (a:Nat):pY l (a+1)=pY l a++tC l a (Wz l).length:=by
 unfold pY;rw [yQ,DD];simp
theorem ztl (l:List aq) (a k:Nat):(tC l a k).length≤k:=by
 unfold tC;rw [zj];exact yc (xV _ _) zc
theorem ztm (l:List aq):∀ i,(pY l i).length≤i * (Wz l).length
 | 0 => by simp [pY]
 | i+1 => by
  rw [zoW,zN];have:=ztm l i;have:=ztl l i (Wz l).length;rw [Wi];omega
theorem Yp:i∈Wz l↔i<l.length∧yC l i=true:=by unfold Wz;rw [zY,zn]
theorem zv2 (l:List aq):(Wz l).Nodup:=List.nodup_range.sublist Li
theorem zv1 (l:List aq):(Wz l).length≤l.length:=by unfold Wz;exact yc (xV _ _) zc
theorem Uc (h:i∈Wz l):oA l i<(Wz l).length:=wV h
theorem Ib (h:i∈Wz l):nth (Wz l) (oA l i)=i:=XV h
theorem R4 (h:a<(Wz l).length):oA l (nth (Wz l) a)=a:=LW (zv2 l) h
section
variable {l:List aq} {K:List Int}
theorem RX:(a,b)∈pY l (Wz l).length↔a<(Wz l).length∧b<(Wz l).length∧gN l (nth (Wz l) a) (nth (Wz l) b)=true:=by
 unfold pY;rw [Vb];constructor
 ·rintro ⟨i',h1,h2⟩;unfold tC at h2;obtain ⟨k',h3,h4⟩:=zi.1 h2;obtain ⟨h5,h6⟩:=zY.1 h3;simp only [xf] at h4;obtain ⟨rfl,rfl⟩:=h4;exact ⟨zn.1 h1,zn.1 h5,h6⟩
 ·rintro ⟨h1,h2,h3⟩;exact ⟨a,zn.2 h1,zi.2 ⟨b,zY.2 ⟨zn.2 h2,h3⟩,rfl⟩⟩
theorem Lx {x:Nat×Nat}:x∈o9 l K↔∃ c∈K,∃ i,i+1<(fj l c).length∧x=(oA l (nth (fj l c) i),oA l (nth (fj l c) (i+1))):=by
 unfold o9 I3 qV;rw [Vb];constructor
 ·rintro ⟨c,hc,h⟩;obtain ⟨i,hi,e⟩:=zi.1 h;exact ⟨c,hc,i,by have:=zn.1 hi;omega,e.symm⟩
 ·rintro ⟨c,hc,i,hi,e⟩;exact ⟨c,hc,zi.2 ⟨i,zn.2 za,e.symm⟩⟩
structure lq (l:List aq):Prop where
 dom:yE l
 ord:∀ i j,i<l.length→j<l.length→(nth l i).call<(nth l j).call→i<j
 wf:∀ i,i<l.length→0≤(nth l i).call∧(nth l i).call<(nth l i).ret
theorem zoX (H:lq l) {c:Int} (V:VO l c):(fj l c).length≤l.length:=by
 have hn:(fj l c).Nodup:=(zhf H.dom H.wf V).imp fun h e=>by rw [e] at h;omega
 have:=PM (m:=List.range l.length) hn fun x hx=>zn.2 ((Xg H.dom H.wf V).1 hx).1;simpa using this
theorem zov (H:lq l) (V:∀ c∈K,VO l c):∀ i,i≤K.length→(o9 l (K.take i)).length≤i * l.length
 | 0, _ => by simp [o9]
 | i+1, hi => by
  have h1:=zov H V i za;have h2:=zoX H (V _ (zu (l:=K) (i:=i) za));rw [XW za];unfold o9 at h1 ⊢;rw [DD,zN,List.flatMap_singleton,Wi];have h3:(I3 l (fj l (nth K i))).length=(fj l (nth K i)).length - 1:=by unfold I3;rw [zoV]
  omega
theorem zsk (hi:i<K.length):o9 l (K.take (i+1))=o9 l (K.take i)++I3 l (fj l (nth K i)):=by
 rw [XW hi];unfold o9;rw [DD,List.flatMap_singleton]
theorem zvA (H:lq l) {c:Int} (V:VO l c) {p:Nat} (hq:q<(fj l c).length) (nT:p<q):iw l c (nth (fj l c) p)<iw l c (nth (fj l c) q):=by
 have:=Zw.1 (zhf H.dom H.wf V) p q za hq nT;rw [ak hq,ak za];exact this
theorem zuF (H:lq l) (V:∀ c∈K,VO l c) (hK:∀ i,i<l.length→(nth l i).key∈K):∃ f:Nat→Nat,(∀ i k,i<l.length→k<l.length→yC l i=true→yC l k=true→gN l i k=true→f i<f k)∧
  ∀ i k,i<l.length→k<l.length→yC l i=true→yC l k=true→(nth l i).key=(nth l k).key→iw l (nth l i).key i<iw l (nth l i).key k→f i<f k:=by
 obtain ⟨FK,S6⟩:∃ FK:Nat→Nat,FK=fun a=>iw l (nth l a).key a:=⟨_,rfl⟩
 have eH:∀ a b,a<l.length→b<l.length→yC l a=true→yC l b=true→(nth l a).key=(nth l b).key→gN l a b=true→FK a<FK b:=fun a b ha hb ia ib e kO=>by
  rw [S6];dsimp only;rw [← e];have V':=V _ (hK a ha);exact zwr H.dom H.ord H.wf V' ((Xg H.dom H.wf V').2 ⟨ha,rfl,ia⟩) ((Xg H.dom H.wf V').2 ⟨hb,e.symm,ib⟩) kO
 obtain ⟨B,hB⟩:∃ B,B=vE FK (List.range l.length)+1:=⟨_,rfl⟩
 have aA:∀ a,a<l.length→FK a<B:=fun a ha=>by
  have:=LZ (h:=FK) (zn.2 ha);omega
 obtain ⟨S,hS⟩:∃ S:Nat→List Nat,S=fun a=>(List.range l.length).filter fun b=>yC l b && decide ((nth l b).key=(nth l a).key) && decide (FK b≤FK a):=⟨_,rfl⟩
 have CT:∀ a b,b∈S a↔b<l.length∧yC l b=true∧(nth l b).key=(nth l a).key∧FK b≤FK a:=fun a b=>by
  rw [hS];dsimp only;rw [zY,zn];simp only [zx,decide_eq_true_eq,and_assoc]
 obtain ⟨g,hg⟩:∃ g:Nat→Nat,g=fun a=>vE (fun b=>(nth l b).call.toNat) (S a):=⟨_,rfl⟩
 have same:∀ a b,a<l.length→b<l.length→(nth l a).key=(nth l b).key→FK a<FK b→g a * B+FK a<g b * B+FK b:=fun a b ha hb hk h1=>by
  have h2:g a≤g b:=by
   rw [hg];dsimp only;rcases RZ (h:=fun b=>(nth l b).call.toNat) (S a) with e|⟨x,hx,e⟩
   ·omega
   ·rw [← e];obtain ⟨x1,x2,x3,x4⟩:=(CT a x).1 hx;exact LZ (h:=fun b=>(nth l b).call.toNat) ((CT b x).2 ⟨x1,x2,x3.trans hk,by omega⟩)
  have:=ZG B h2;omega
 refine ⟨fun a=>g a * B+FK a,fun a b ha hb ia ib kO=>?_,fun a b ha hb ia ib hk hs=>?_⟩
 ·dsimp only;by_cases hk:(nth l a).key=(nth l b).key
  ·exact same a b ha hb hk (eH a b ha hb ia ib hk kO)
  ·have hbf':=kO;unfold gN at kO;simp only [zx,decide_eq_true_eq] at kO;have hwa:=H.wf a ha;have JV:=H.wf b hb;have h1:g a≤(nth l a).ret.toNat:=by
    rw [hg];dsimp only;rcases RZ (h:=fun b=>(nth l b).call.toNat) (S a) with e|⟨x,hx,e⟩
    ·omega
    ·rw [← e];obtain ⟨x1,x2,x3,x4⟩:=(CT a x).1 hx;have rY:=H.wf x x1;by_cases eM:(nth l a).ret<(nth l x).call
     ·exfalso;have:=eH a x ha x1 ia x2 x3.symm (by unfold gN;simp [kO.1,eM]);omega
     ·omega
   have h2:(nth l b).call.toNat≤g b:=by
    rw [hg];dsimp only;exact LZ (h:=fun b=>(nth l b).call.toNat) ((CT b b).2 ⟨hb,ib,rfl,zg _⟩)
   have h3:g a+1≤g b:=by omega
   have h4:=ZG B h3;rw [Wi] at h4;have:=aA a ha;omega
 ·dsimp only;refine same a b ha hb hk ?_;rw [S6];dsimp only;rw [← hk];exact hs
theorem zv5 (H:lq l) (V:∀ c∈K,VO l c):∀ e∈sS l K,e.1<(Wz l).length∧e.2<(Wz l).length:=by
 rintro ⟨a,b⟩ he;rcases zC.1 he with he|he
 ·obtain ⟨c,hc,i,hi,e⟩:=Lx.1 he;simp only [xf] at e;obtain ⟨rfl,rfl⟩:=e;have m1:=(Xg H.dom H.wf (V c hc)).1 (zu (show i<(fj l c).length by omega));have m2:=(Xg H.dom H.wf (V c hc)).1 (zu hi);exact ⟨Uc (Yp.2 ⟨m1.1,m1.2.2⟩),Uc (Yp.2 ⟨m2.1,m2.2.2⟩)⟩
 ·obtain ⟨h1,h2,_⟩:=RX.1 he;exact ⟨h1,h2⟩
theorem zlG (H:lq l) (V:∀ c∈K,VO l c) (hK:∀ i,i<l.length→(nth l i).key∈K):∃ f:Nat→Nat,∀ e∈sS l K,f e.1<f e.2:=by
 obtain ⟨f,f1,f2⟩:=zuF H V hK;refine ⟨fun a=>f (nth (Wz l) a),?_⟩;rintro ⟨a,b⟩ he;dsimp only;rcases zC.1 he with he|he
 ·obtain ⟨c,hc,i,hi,e⟩:=Lx.1 he;simp only [xf] at e;obtain ⟨rfl,rfl⟩:=e;have m1:=(Xg H.dom H.wf (V c hc)).1 (zu (show i<(fj l c).length by omega));have m2:=(Xg H.dom H.wf (V c hc)).1 (zu hi);rw [Ib (Yp.2 ⟨m1.1,m1.2.2⟩),Ib (Yp.2 ⟨m2.1,m2.2.2⟩)];refine f2 _ _ m1.1 m2.1 m1.2.2 m2.2.2 (m1.2.1.trans m2.2.1.symm) ?_;rw [m1.2.1];exact zvA H (V c hc) hi za
 ·obtain ⟨h1,h2,h3⟩:=RX.1 he;have m1:=Yp.1 (zu h1);have m2:=Yp.1 (zu h2);exact f1 _ _ m1.1 m2.1 m1.2 m2.2 h3
theorem Ce (H:lq l) (V:∀ c∈K,VO l c) (hK:∀ i,i<l.length→(nth l i).key∈K):CB (YK (sS l K)) (Wz l).length (Ai l K):=by
 obtain ⟨f,hf⟩:=zlG H V hK;exact zoi (VW hf)
theorem Rf (H:lq l) (V:∀ c∈K,VO l c) (hK:∀ i,i<l.length→(nth l i).key∈K):i∈lj l K↔i<l.length∧yC l i=true:=by
 have E:=Ce H V hK;unfold lj;rw [zi];constructor
 ·rintro ⟨a,ha,rfl⟩;exact Yp.1 (zu (E.cW a ha))
 ·intro h;have:=Yp.2 h;exact ⟨oA l i,E.mem (Uc this),Ib this⟩
theorem zuD (H:lq l) (V:∀ c∈K,VO l c) (hK:∀ i,i<l.length→(nth l i).key∈K):(lj l K).length=(Wz l).length:=by
 unfold lj;rw [zj];exact (Ce H V hK).len
theorem zv4 (H:lq l) (V:∀ c∈K,VO l c) (hK:∀ i,i<l.length→(nth l i).key∈K):(lj l K).Nodup:=by
 have E:=Ce H V hK;unfold lj List.Nodup;rw [Um];refine E.nd.imp_of_mem fun ha hb eX e=>eX ?_;rw [← R4 (E.cW _ ha),e,R4 (E.cW _ hb)]
noncomputable def IP (l:List aq) (K:List Int) (i:Nat):Nat:=fY (Ai l K) (oA l i)
theorem zwv (H:lq l) (V:∀ c∈K,VO l c) (hK:∀ i,i<l.length→(nth l i).key∈K) {p:Nat} (hp:p<(lj l K).length):IP l K (nth (lj l K) p)=p:=by
 have E:=Ce H V hK;have wq : p<(Ai l K).length:=by unfold lj at hp;simpa using hp
 have e:nth (lj l K) p=nth (Wz l) (nth (Ai l K) p):=by
  unfold lj at hp ⊢;rw [ak hp,ak wq,Xu]
 unfold IP;rw [e,R4 (E.cW _ (zu wq)),LW E.nd wq]
theorem L3 (H:lq l) (V:∀ c∈K,VO l c) (hK:∀ i,i<l.length→(nth l i).key∈K) (ha:a<l.length) (hb:b<l.length) (ia:yC l a=true) (ib:yC l b=true) {c:Int} (ka:(nth l a).key=c) (kb:(nth l b).key=c) (h:iw l c a<iw l c b):IP l K a<IP l K b:=by
 have E:=Ce H V hK;have hc:c∈K:=by rw [← ka];exact hK a ha
 have V':=V c hc;have ma:=(Xg H.dom H.wf V').2 ⟨ha,ka,ia⟩;have mb:=(Xg H.dom H.wf V').2 ⟨hb,kb,ib⟩;have reach:∀ d p,p+d+1<(fj l c).length→vz (sS l K) (oA l (nth (fj l c) p)) (oA l (nth (fj l c) (p+d+1))):=by
  intro d
  induction d with
  | zero => intro p hp; exact .one (xm _ (Lx.2 ⟨c, hc, p, hp, rfl⟩))
  | succ d ih =>
   intro p hp;refine .step (b:=oA l (nth (fj l c) (p+1))) (xm _ (Lx.2 ⟨c,hc,p,by omega,rfl⟩)) ?_;have:=ih (p+1) za;rw [show p+1+d+1=p+(d+1)+1 by omega] at this;exact this
 have hpa:=wV ma;have JN:=wV mb;have aA:fY (fj l c) a<fY (fj l c) b:=by
  refine KG fun hle=>?_;rcases KH hle with h2|h2
  ·have:=zvA H V' hpa h2;rw [XV ma,XV mb] at this;omega
  ·have:=zoM mb ma h2;subst this;omega
 have h1:=reach (fY (fj l c) b - fY (fj l c) a - 1) (fY (fj l c) a) za;rw [show fY (fj l c) a+(fY (fj l c) b - fY (fj l c) a - 1)+1=fY (fj l c) b by omega,XV ma,XV mb] at h1;exact E.lt (Uc (Yp.2 ⟨ha,ia⟩)) (Uc (Yp.2 ⟨hb,ib⟩)) (XN.2 h1)
theorem zuE (H:lq l) (V:∀ c∈K,VO l c) (hK:∀ i,i<l.length→(nth l i).key∈K):Af l (IP l K) where
 rt i k hi hk ii ik hb:=by
  have E:=Ce H V hK;have mi:=Yp.2 ⟨hi,ii⟩;have mk:=Yp.2 ⟨hk,ik⟩;refine E.lt (Uc mi) (Uc mk) (XN.2 (.one (zX _ (RX.2 ⟨Uc mi,Uc mk,?_⟩))));rw [Ib mi,Ib mk];exact hb
 rd r hr h0 hd:=by
  have V':=V _ (hK r hr);have ir:=WT hd;rcases zwq H.dom H.wf V' hr rfl h0 hd with ⟨e,h⟩|⟨w,hw,ha,aA,ho⟩
  ·exact .inl ⟨e,fun w hw=>KD (L3 H V hK hr hw.1 ir hw.2.2.2 rfl hw.2.1 (h w hw))⟩
  ·refine .inr ⟨w,hw,ha,KD (L3 H V hK hw.1 hr hw.2.2.2 ir hw.2.1 rfl aA),fun w' hw' aN=>?_⟩;rcases ho w' hw' aN with h|h
   ·exact .inl (L3 H V hK hw'.1 hw.1 hw'.2.2.2 hw.2.2.2 hw'.2.1 hw.2.1 h)
   ·exact .inr (L3 H V hK hr hw'.1 ir hw'.2.2.2 rfl hw'.2.1 h)
end
theorem zic (h:Zj l=0):l.length≤300∧∀ j,j<l.length→kg l j=0:=by
 unfold Zj at h;split at h
 ·cases h
 ·refine ⟨by omega,fun j hj=>?_⟩;have key:∀ (n k:Nat),xj l k n=0→∀ j,k≤j→j<k+n→kg l j=0:=by
   intro n
   induction n with
   | zero => intro k _ j h1 h2; omega
   | succ n ih=>
    intro k hk j h1 h2;unfold xj at hk;split at hk
    ·rename_i he;rcases Vf h1 with e|e
     ·rw [← e];exact he
     ·exact ih (k+1) hk j e za
    ·rename_i he;exact absurd hk he
  exact key l.length 0 h j (zp _) za
theorem Rw (h:Zj l=0) (hj:j<l.length):iH (nth l j)=true∧(0<j→(nth l (j - 1)).call<(nth l j).call):=by
 have:=(zic h).2 j hj;unfold kg at this;by_cases hw:iH (nth l j)=false
 ·rw [if_pos hw] at this;cases this
 ·rw [if_neg hw] at this;refine ⟨by simpa using hw,fun h0=>?_⟩;by_cases hc:0<j∧(nth l j).call≤(nth l (j - 1)).call
  ·rw [if_pos hc] at this;cases this
  ·omega
theorem zkQ {l:List aq} (h:Zj l=0) {i:Nat}:∀ {d:Nat},i+d+1<l.length→(nth l i).call<(nth l (i+d+1)).call
 | 0, hd => (Rw h hd).2 za
 | d+1, hd => by
  have h1:=zkQ h (i:=i) (d:=d) za;have h2:=(Rw h hd).2 za;rw [show i+(d+1)+1 - 1=i+d+1 by omega] at h2;omega
theorem zkP (h:Zj l=0) (D:yE l):lq l where
 dom:=D
 ord i j hi hj hc:=by
  refine KG fun hle=>?_;rcases KH hle with h2|h2
  ·have:=zkQ h (i:=j) (d:=i - j - 1) za;rw [show j+(i - j - 1)+1=i by omega] at this;omega
  ·subst h2;omega
 wf i hi:=by
  have:=(Rw h hi).1;simp only [iH,zx,decide_eq_true_eq] at this;omega
theorem Sm {c:Int}:(jP l c).cls=0↔VO l c:=by
 unfold jP;cases h1:(List.range l.length).find? (tK l c) with
 | some i =>
  rw [HX] at h1;refine ⟨fun h=>(by cases h),fun V=>?_⟩;have:=h1.1;unfold tK at this;rw [zx,decide_eq_true_eq] at this;rw [V.thin i (zn.1 h1.2.1) this.1] at this;cases this.2
 | none=>
  dsimp only;cases h2:(List.range l.length).find? (UA l c) with
  | some i =>
   rw [HX] at h2;refine ⟨fun h=>(by cases h),fun V=>?_⟩;have:=h2.1;unfold UA at this;rw [zx,decide_eq_true_eq] at this;rw [V.early i (zn.1 h2.2.1) this.1] at this;cases this.2
  | none=>
   dsimp only;by_cases h3:tL l c=[]
   ·rw [if_pos h3];refine ⟨fun _=>⟨fun i hi hk=>?_,fun i hi hk=>?_,h3⟩,fun _=>rfl⟩
    ·have:=xq.1 h1 i (zn.2 hi);unfold tK at this;rw [decide_eq_true hk,yN] at this;simpa using this
    ·have:=xq.1 h2 i (zn.2 hi);unfold UA at this;rw [decide_eq_true hk,yN] at this;simpa using this
   ·rw [if_neg h3];exact ⟨fun h=>(by cases h),fun V=>absurd V.EF h3⟩
def vF (l:List aq):Option Int:=(Wy l).find? fun c=>decide ((jP l c).cls≠0)
structure Mq where
 cls:Int
 arg:Int
 ord:List Nat
 ed:List (Nat×Nat)
noncomputable def qU (l:List aq):Mq:=
 match vF l with
 | some c => ⟨(jP l c).cls, c, (jP l c).ord, (jP l c).ed⟩
 | none => ⟨0, 0, lj l (Wy l), []⟩
theorem zmm:vF l=none↔∀ c∈Wy l,VO l c:=by
 unfold vF;rw [xq];constructor
 ·intro h c hc;have:=h c hc;exact Sm.1 (by simpa using this)
 ·intro h c hc;have:=Sm.2 (h c hc);simpa using this
theorem zwz (hi:i<(Wy l).length) (h:∀ j,j<i→(jP l (nth (Wy l) j)).cls=0) (h2:(jP l (nth (Wy l) i)).cls≠0):vF l=some (nth (Wy l) i):=by
 unfold vF;rw [List.find?_eq_some_iff_getElem];refine ⟨by simpa using h2,i,hi,(ak hi).symm,fun j hj=>?_⟩;have:=h j hj;rw [ak za] at this;simpa using this
theorem zr4 (l:List aq):∀ i,i<l.length→(nth l i).key∈Wy l:=fun i hi=>(Ho l _).2 ⟨_,zu hi,rfl⟩
theorem zp7:(qU l).cls=0↔∀ c∈Wy l,VO l c:=by
 unfold qU;rw [← zmm];cases h:vF l with
 | none => exact ⟨fun _ => rfl, fun _ => rfl⟩
 | some c =>
  refine ⟨fun h2=>?_,fun h2=>(by cases h2)⟩;exfalso;unfold vF at h;have:=WF h;simp at this;exact this h2
def zxd (l:List aq) (c v w:Int) (i k:Nat):Bool:=decide ((nth l i).key=c) && (decide ((nth l k).key=c) && (decide (iJ (nth l i)=v) && (decide (iJ (nth l k)=w) && (yC l i && (yC l k && gN l i k)))))
def IE (l:List aq) (c v w:Int):Bool:=(List.range l.length).any fun i=>(List.range l.length).any fun k=>zxd l c v w i k
def Sy (l:List aq) (c:Int) (i k:Nat):Bool:=decide ((nth l k).key=c) && (decide ((nth l k).k=1) && (yC l k && (IE l c (nth l i).arg (nth l k).arg && IE l c (nth l k).arg (nth l i).arg)))
def Sz (l:List aq) (c:Int) (i:Nat):Bool:=decide ((nth l i).key=c) && (decide ((nth l i).k=1) && yC l i)
def Sx (l:List aq) (c:Int) (i:Nat):Bool:=Sz l c i && (IE l c (nth l i).arg 0 || (List.range i).any (Sy l c i))
def Sq (l:List aq) (c:Int):Bool:=(List.range l.length).any (Sx l c)
section
variable {l:List aq} {c:Int}
theorem La {v w:Int}:IE l c v w=true↔Ep l c v w:=by
 unfold IE Ep tW;rw [Ht];simp only [Ht];unfold zxd;simp only [zx,decide_eq_true_eq];constructor
 ·rintro ⟨i,hi,k,hk,h1,h2,h3,h4,h5,h6,h7⟩;exact ⟨i,k,⟨hi,h1,h3,h5⟩,⟨hk,h2,h4,h6⟩,h7⟩
 ·rintro ⟨i,k,⟨hi,h1,h3,h5⟩,⟨hk,h2,h4,h6⟩,h7⟩;exact ⟨i,hi,k,hk,h1,h2,h3,h4,h5,h6,h7⟩
theorem zo7 (hi:i<l.length):Sz l c i=true↔jI l c i:=by
 unfold Sz jI;simp only [zx,decide_eq_true_eq];exact ⟨fun h=>⟨hi,h⟩,fun h=>h.2⟩
theorem PV:Sq l c=true↔IB l c:=by
 unfold Sq IB;rw [Ht];constructor
 ·rintro ⟨i,hi,h⟩;unfold Sx at h;rw [zx,zo7 hi,xB,La,Ht] at h;refine ⟨i,h.1,h.2.imp id ?_⟩;rintro ⟨k,hk,h2⟩;unfold Sy at h2;simp only [zx,decide_eq_true_eq,La] at h2;exact ⟨k,hk,⟨by omega,h2.1,h2.2.1,h2.2.2.1⟩,h2.2.2.2.1,h2.2.2.2.2⟩
 ·rintro ⟨i,hi,h⟩;refine ⟨i,hi.1,?_⟩;unfold Sx;rw [zx,zo7 hi.1,xB,La,Ht];refine ⟨hi,h.imp id ?_⟩;rintro ⟨k,hk,hw,h1,h2⟩;refine ⟨k,hk,?_⟩;unfold Sy;simp only [zx,decide_eq_true_eq,La];exact ⟨hw.2.1,hw.2.2.1,hw.2.2.2,h1,h2⟩
theorem zrg {w:Nat} (hw:jI l c w):∃ j,j<(ZI l c).length∧Ux l c j=(nth l w).arg:=by
 rw [B7];have hm:(false,[w],(nth l w).arg)∈Uf l c l.length:=WL.2 (.inr ⟨w,hw.1,VG.2 ⟨hw.2.1,hw.2.2.1,hw.2.2.2⟩,rfl⟩);obtain ⟨j,hj,e⟩:=zU hm;exact ⟨j,hj,by unfold Ux;rw [ak hj,e]⟩
theorem zvP (D:yE l) (hb:tW l c 0 b):0<(ZI l c).length∧Ux l c 0=0∧(nth (ZI l c) 0).iF=true:=by
 have h0:Ah l c=true:=by
  obtain ⟨b1,b2,b3,b4⟩:=hb;rcases D.kind b1 with hk|hk
  ·rw [UQ hk] at b3;exact UY.2 ⟨b,b1,ZW.2 ⟨hk,xk hk b4,b2,b3⟩⟩
  ·rw [VC hk] at b3;exact absurd b3 (D.arg b1 hk)
 have hm:(true,[],(0:Int))∈Uf l c l.length:=WL.2 (.inl ⟨h0,rfl⟩);obtain ⟨j,hj,e⟩:=zU hm;have dT : j<(ZI l c).length:=by rw [B7];exact hj
 have hi:(nth (ZI l c) j).iF=true:=by
  have h1:nth (ZI l c) j=_:=Cc hj;rw [h1,ak hj,e]
 have:=(Q4 dT hi).1;subst this;exact ⟨dT,by unfold Ux;rw [ak hj,e],hi⟩
theorem zqO (D:yE l) (h:IB l c):tL l c≠[]:=by
 intro hc;unfold tL at hc;rw [RO] at hc;have kq:∀ a j,a<j→j<(ZI l c).length→mU l (nth (ZI l c) a) (nth (ZI l c) j)=[]:=fun a j Jy hj=>hc a za za j Jy hj;have kO:∀ {p q a b:Nat} {v w:Int},p<(ZI l c).length→q<(ZI l c).length→Ux l c p=v→Ux l c q=w→tW l c v a→tW l c w b→gN l a b=true→iA l (nth (ZI l c) p).ops<jn l (nth (ZI l c) q).ops:=fun {p q a b v w} hp hq vp vq ha hb eX=>by
  have m1:=zrO (l:=l) ((Yn D hp).2 (by rw [vp];exact ha));have m2:=ztw (l:=l) ((Yn D hq).2 (by rw [vq];exact hb));unfold gN at eX;simp only [zx,decide_eq_true_eq] at eX;have:Uw (nth l a)=(nth l a).ret:=by unfold Uw;rw [eX.1];rfl
  omega
 obtain ⟨i,jd,h⟩:=h;obtain ⟨p,hp,vp⟩:=zrg jd;rcases h with ⟨a,b,ha,hb,eX⟩|⟨k,rC,kx,⟨a,b,ha,hb,eX⟩,⟨a',b',Fc,cb,AL⟩⟩
 ·obtain ⟨q1,q2,q3⟩:=zvP D hb;have aA:=kO hp q1 vp q2 ha hb eX;have Oo:p≠0:=fun e=>by
   subst e;rw [q2] at vp;exact D.arg jd.1 jd.2.2.1 vp.symm
  have:=Vl.1 (kq 0 p za hp);rw [q3] at this;rcases this with h|h
  ·omega
  ·cases h.1
 ·obtain ⟨q,hq,vq⟩:=zrg kx;have h1:=kO hp hq vp vq ha hb eX;have h2:=kO hq hp vq vp Fc cb AL;have nT:p≠q:=fun e=>by
   subst e;rw [vp] at vq;have:=D.uniq jd.1 kx.1 jd.2.2.1 kx.2.2.1 (jd.2.1.trans kx.2.1.symm) vq;omega
  rcases HE nT with h|h
  ·rcases Vl.1 (kq p q h hq) with h3|h3 <;> omega
  ·rcases Vl.1 (kq q p h hp) with h3|h3 <;> omega
theorem zpo (D:yE l) (aP:∀ o∈l,Ue o) (Jy:a<j) (hj:j<(ZI l c).length) (h:mU l (nth (ZI l c) a) (nth (ZI l c) j)≠[]):IB l c:=by
 have ha:a<(ZI l c).length:=by omega
 have hn:¬ (jn l (nth (ZI l c) a).ops≤iA l (nth (ZI l c) j).ops∨((nth (ZI l c) a).iF=false∧jn l (nth (ZI l c) j).ops≤iA l (nth (ZI l c) a).ops)):=fun h2=>h (Vl.2 h2);have Bb:∀ {p q:Nat},p<(ZI l c).length→q<(ZI l c).length→iA l (nth (ZI l c) p).ops<jn l (nth (ZI l c) q).ops→Ep l c (Ux l c p) (Ux l c q):=fun {p q} hp hq aA=>by
  have m1:=(Yn D hp).1 (zle (l:=l) (Ij D hp));have m2:=(Yn D hq).1 (zlL (l:=l) (Ij D hq));refine ⟨_,_,m1,m2,?_⟩;have o2:=aP _ (zu m2.1);unfold iA jn Uw at aA;unfold gN;cases hd:(nth l (mS l (nth (ZI l c) p).ops)).done with
  | true =>
   rw [hd] at aA;simp only [if_true] at aA;simpa using aA
  | false =>
   rw [hd] at aA;simp only [Lt,if_false] at aA;unfold Ue bU at o2;omega
 have aA:iA l (nth (ZI l c) j).ops<jn l (nth (ZI l c) a).ops:=Int.lt_of_not_ge fun h2=>hn (.inl h2);have g1:=Bb hj ha aA;have hcj:=Vk hj;rcases hcj with ⟨h0,h1,h2⟩|⟨w,w1,w2,h1,h2⟩
 ·exfalso;have:=(Q4 hj (by rw [h2])).1;omega
 have OX:jI l c w:=by rw [VG] at w2;exact ⟨w1,w2⟩
 rcases Vk ha with ⟨k0,k1,k2⟩|⟨u,u1,u2,k1,k2⟩
 ·rw [h1,k1] at g1;exact ⟨w,OX,.inl g1⟩
 have GK:jI l c u:=by rw [VG] at u2;exact ⟨u1,u2⟩
 have eM:iA l (nth (ZI l c) a).ops<jn l (nth (ZI l c) j).ops:=Int.lt_of_not_ge fun h3=>hn (.inr ⟨by rw [k2],h3⟩);have g2:=Bb ha hj eM;rw [h1,k1] at g1;rw [h1,k1] at g2;have aN:w≠u:=fun e=>by
  subst e;have:=Qh D ha hj (by rw [h1,k1]);omega
 rcases HE aN with h3|h3
 ·exact ⟨u,GK,.inr ⟨w,h3,OX,g2,g1⟩⟩
 ·exact ⟨w,OX,.inr ⟨u,h3,GK,g1,g2⟩⟩
theorem zw1 (D:yE l) (aP:∀ o∈l,Ue o):tL l c=[]↔Sq l c=false:=by
 constructor
 ·intro h;rw [Rk];intro h2;exact zqO D (PV.1 h2) h
 ·intro h;refine ZS fun aN=>?_;obtain ⟨a,j,_,_,h3,h4,h5⟩:=zn6 (l:=l) (C:=ZI l c) (f:=(ZI l c).length) (i:=0) aN;have:=PV.2 (zpo D aP h3 h4 (by rw [← h5];exact aN));rw [h] at this;cases this
end
def sR (l:List aq) (key x:Int):Bool:=decide ((nth l x.toNat).key=key) && decide ((nth l x.toNat).k=1)
def Eu (l:List aq) (key:Int) (o:List Int):Int:=o.foldl (fun v x=>if sR l key x=true then (nth l x.toNat).arg else v) 0
theorem ztD (l:List aq) (key:Int) (o:List Int) (x:Int):Eu l key (o++[x])=if sR l key x=true then (nth l x.toNat).arg else Eu l key o:=by
 unfold Eu;rw [ZU];rfl
theorem K0 (l:List aq) (key:Int) (o:List Int):∀ i,i≤o.length→(Eu l key (o.take i)=0∧∀ j,j<i→sR l key (nth o j)=false)∨
  ∃ j,j<i∧sR l key (nth o j)=true∧Eu l key (o.take i)=(nth l (nth o j).toNat).arg∧∀ q,j<q→q<i→sR l key (nth o q)=false
 | 0, _ => .inl ⟨rfl, fun j hj => by omega⟩
 | i+1,hi=>by
  rw [XW (show i<o.length by omega),ztD];by_cases h:sR l key (nth o i)=true
  ·rw [if_pos h];exact .inr ⟨i,by omega,h,rfl,fun q h1 h2=>by omega⟩
  ·rw [if_neg h];have h' : sR l key (nth o i)=false:=by simpa using h
   rcases K0 l key o i za with ⟨h1,h2⟩|⟨j,h1,h2,h3,h4⟩
   ·refine .inl ⟨h1,fun j hj=>?_⟩;by_cases e:j=i
    ·subst e;exact h'
    ·exact h2 j za
   ·refine .inr ⟨j,by omega,h2,h3,fun q q1 q2=>?_⟩;by_cases e:q=i
    ·subst e;exact h'
    ·exact h4 q q1 za
structure vy (l:List aq) (o:List Int):Prop where
 cW:∀ x∈o,0≤x∧x<l.length
 nd:o.Nodup
 inc:∀ x∈o,yC l x.toNat=true
 all:∀ v:Nat,v<l.length→yC l v=true→(v:Int)∈o
 val:∀ i,i<o.length→(nth l (nth o i).toNat).k=1∨Eu l (nth l (nth o i).toNat).key (o.take i)=(nth l (nth o i).toNat).res
 rt:∀ i j,i<o.length→j<i→gN l (nth o i).toNat (nth o j).toNat=false
theorem zwa (h:o.Nodup) (hi:i<o.length) (hj:j<o.length) (e:nth o i=nth o j):i=j:=by
 rw [ak hi,ak hj] at e;exact (WI h).1 e
theorem zuG {x:Int} (h:x∈o):∃ p,p<o.length∧nth o p=x:=by
 obtain ⟨p,hp,e⟩:=zU h;exact ⟨p,hp,by rw [ak hp,e]⟩
def nA (o:List Int) (i:Nat):Nat:=o.idxOf (i:Int)
theorem LU (h:(i:Int)∈o):nA o i<o.length:=zkG h
theorem YI (h:(i:Int)∈o):nth o (nA o i)=i:=by rw [ak (LU h)];exact List.getElem_idxOf _
section
variable {l:List aq} {o:List Int}
theorem Il (D:yE l) {c:Int} (hx:x<l.length) (hi:yC l x=true):sR l c (x:Int)=true↔jI l c x:=by
 unfold sR jI;rw [zK,zx,decide_eq_true_eq,decide_eq_true_eq];exact ⟨fun h=>⟨hx,h.1,h.2,hi⟩,fun h=>⟨h.2.1,h.2.2.1⟩⟩
theorem vy.cF (D:yE l) (hw:∀ i,i<l.length→(nth l i).call<(nth l i).ret) (h:vy l o):Af l (nA o):=by
 have hm:∀ i,i<l.length→yC l i=true→(i:Int)∈o:=h.all;have Ns:∀ q,q<o.length→∃ x:Nat,nth o q=x∧x<l.length∧yC l x=true∧nA o x=q:=fun q hq=>by
  have hr:=h.cW _ (zu hq);refine ⟨(nth o q).toNat,by omega,by omega,h.inc _ (zu hq),?_⟩;have e:(((nth o q).toNat:Nat):Int)=nth o q:=by omega
  have cO:(((nth o q).toNat:Nat):Int)∈o:=by rw [e];exact zu hq
  exact zwa h.nd (LU cO) hq (by rw [YI cO,e])
 refine ⟨fun i k hi hk ii ik hb=>?_,fun r hr h0 hd=>?_⟩
 ·have mi:=hm i hi ii;have mk:=hm k hk ik;refine KG fun hle=>?_;rcases KH hle with h2|h2
  ·have:=h.rt _ _ (LU mi) h2;rw [YI mi,YI mk,zK,zK,hb] at this;cases this
  ·have e:((k:Int))=i:=by rw [← YI mk,h2,YI mi]
   have:k=i:=by omega
   subst this;have:=zn1 hw hk hb;omega
 ·have ir:=WT (l:=l) hd;have mr:=hm r hr ir;have hp:=LU mr;have hv:=h.val _ hp;rw [YI mr,zK] at hv;have hv:=hv.resolve_left za;rcases K0 l (nth l r).key o (nA o r) za with ⟨h1,h2⟩|⟨j,h1,h2,h3,h4⟩
  ·refine .inl ⟨by rw [← hv,h1],fun w hw=>?_⟩;have mw:=hm w hw.1 hw.2.2.2;refine KE fun aA=>?_;have:=h2 _ aA;rw [YI mw,(Il D hw.1 hw.2.2.2).2 hw] at this;cases this
  ·obtain ⟨w,e,w1,w2,w3⟩:=Ns j za;rw [e,Il D w1 w2] at h2;rw [e,zK] at h3;refine .inr ⟨w,h2,by rw [← h3,hv],by omega,fun w' hw' aN=>?_⟩;have O8:=hm w' hw'.1 hw'.2.2.2;have Ge:nA o w'≠j:=fun e2=>aN (by
    have e3:=YI O8;rw [e2,e] at e3;omega)
   by_cases hq:nA o w'<nA o r
   ·left;rw [w3];refine KG fun hle=>?_;have:=h4 _ za hq;rw [YI O8,(Il D hw'.1 hw'.2.2.2).2 hw'] at this;cases this
   ·right;have:nA o w'≠nA o r:=fun e2=>by
     have e3:=YI O8;rw [e2,YI mr] at e3;have:w'=r:=by omega
     subst this;have:=hw'.2.2.1;omega
    omega
theorem vy.inj (h:vy l o) (hi:i<l.length) (hk:k<l.length) (ii:yC l i=true) (ik:yC l k=true) (e:nA o i=nA o k):i=k:=by
 have e1:=YI (h.all i hi ii);rw [e,YI (h.all k hk ik)] at e1;omega
theorem Af.O6 (D:yE l) {cF:Nat→Nat} (T:Af l cF) (mD:∀ x∈o,0≤x∧x<l.length) (dP:o.Nodup) (e8:∀ x∈o,yC l x.toNat=true) (cR:∀ v:Nat,v<l.length→yC l v=true→(v:Int)∈o)
  (bm:∀ q,q<o.length→cF (nth o q).toNat=q):vy l o:=by
 refine ⟨mD,dP,e8,cR,fun i hi=>?_,fun i j hi hj=>?_⟩
 ·have hr:=mD _ (zu hi);have cy:=e8 _ (zu hi);have Df:=bm i hi;obtain ⟨r,mC⟩:∃ r,(nth o i).toNat=r:=⟨_,rfl⟩
  have bK:r<l.length:=by omega
  rw [mC] at cy Df ⊢;rcases D.kind bK with h0|h1
  ·right;have hd:=xk h0 cy;have TY:∀ j,j<i→sR l (nth l r).key (nth o j)=true→∃ w,jI l (nth l r).key w∧cF w=j∧nth o j=w:=fun j hj hs=>by
    have TJ:=mD _ (zu (show j<o.length by omega));have Be:=e8 _ (zu (show j<o.length by omega));refine ⟨(nth o j).toNat,?_,bm j za,by omega⟩;have e:nth o j=(((nth o j).toNat:Nat):Int):=by omega
    rw [e] at hs;exact (Il D za Be).1 hs
   rcases T.rd r bK h0 hd with ⟨e0,hf⟩|⟨w,hw,ha,hle,ho⟩
   ·rcases K0 l (nth l r).key o i za with ⟨g1,_⟩|⟨j,g1,g2,_,_⟩
    ·rw [g1,e0]
    ·obtain ⟨w,hw,JW,_⟩:=TY j g1 g2;have:=hf w hw;omega
   ·have hwm:=cR w hw.1 hw.2.2.2;obtain ⟨q,hq,wA⟩:=zuG hwm;have hqp:=bm q hq;rw [wA,zK] at hqp;have k7:w≠r:=fun e=>by rw [e] at hw;have:=hw.2.2.1;omega
    have fU:q<i:=by
     have:q≠i:=fun e=>by
      subst e;rw [wA,zK] at mC;exact k7 mC
     omega
    have ng:sR l (nth l r).key (nth o q)=true:=by rw [wA];exact (Il D hw.1 hw.2.2.2).2 hw
    rcases K0 l (nth l r).key o i za with ⟨_,g2⟩|⟨j,g1,g2,g3,g4⟩
    ·rw [g2 q fU] at ng;cases ng
    ·obtain ⟨w',hw',JW,hwe⟩:=TY j g1 g2;by_cases e:w'=w
     ·rw [g3,hwe,zK,e,ha]
     ·exfalso;rcases ho w' hw' e with h2|h2
      ·have:=g4 q za fU;rw [this] at ng;cases ng
      ·omega
  ·exact .inl h1
 ·cases hb:gN l (nth o i).toNat (nth o j).toNat with
  | false => rfl
  | true =>
   have JR:=mD _ (zu hi);have hrj:=mD _ (zu (show j<o.length by omega));have:=T.rt _ _ za za (e8 _ (zu hi)) (e8 _ (zu (show j<o.length by omega))) hb;rw [bm i hi,bm j za] at this;omega
def Cr (L:List Nat):List Int:=L.map fun n:Nat=>(n:Int)
theorem zrc (h:i<L.length):nth (Cr L) i=((nth L i:Nat):Int):=by
 unfold Cr;rw [ak (by simpa using h),ak h,Xu]
theorem zrb (L:List Nat):(Cr L).length=L.length:=by simp [Cr]
theorem zxk {K:List Int} (H:lq l) (V:∀ c∈K,VO l c) (hK:∀ i,i<l.length→(nth l i).key∈K):vy l (Cr (lj l K)):=by
 have cO:∀ x,x∈Cr (lj l K)→∃ n:Nat,x=n∧n∈lj l K:=fun x hx=>by
  obtain ⟨n,hn,e⟩:=zi.1 hx;exact ⟨n,e.symm,hn⟩
 refine (zuE H V hK).O6 H.dom (fun x hx=>?_) ?_ (fun x hx=>?_) (fun v hv hi=>?_) (fun q hq=>?_)
 ·obtain ⟨n,rfl,hn⟩:=cO x hx;have:=((Rf H V hK).1 hn).1;omega
 ·unfold Cr List.Nodup;rw [Um];exact (zv4 H V hK).imp fun h e=>h za
 ·obtain ⟨n,rfl,hn⟩:=cO x hx;rw [zK];exact ((Rf H V hK).1 hn).2
 ·exact zi.2 ⟨v,(Rf H V hK).2 ⟨hv,hi⟩,rfl⟩
 ·rw [zrb] at hq;rw [zrc hq,zK];exact zwv H V hK hq
theorem zxS (D:yE l) (aP:∀ p∈l,Ue p) {c:Int} (h:zvl l c):VO l c:=
 ⟨h.thin,h.early,(zw1 D aP).2 (by rw [Rk];exact fun hz=>h.Aa (PV.1 hz))⟩
theorem zlF (H:lq l) (aP:∀ p∈l,Ue p):(qU l).cls=0↔∃ o,vy l o:=by
 rw [zp7];constructor
 ·intro V;exact ⟨_,zxk H V (zr4 l)⟩
 ·rintro ⟨o,h⟩ c _;exact zxS H.dom aP ((h.cF H.dom fun i hi=>(H.wf i hi).2).BN H.dom (fun i k hi hk ii ik e=>h.inj hi hk ii ik e) c)
end
section
variable {l:List aq}
end
section
open Go.RowKit
theorem zko (l:List aq) (c:Int) (ins:List Bool) (hl:l.length≤300) (aP:∀ o∈l,Ue o) (hc:bU c) (H:lq l) (V:VO l c) (eZ:ins.length=l.length) (iD:∀ i,i<l.length→nth ins i=yC l i) :
  xA Tryz.prog 38 [.list 8 (l.map aq.fv),.int .i64 c,.list 1 (ins.map dz)] (.ow 3 1) (.list 1 ((fj l c).map yx)):=by
 have D:=H.dom;have bk:=W0 l c ins hl aP hc D eZ iD V.thin;obtain ⟨OA,E⟩:=Ih D H.wf V;have hE:sM l c=ZV (YK (qj l (ZI l c))) (lI l c) (lI l c):=rfl;have hS:fj l c=(sM l c).flatMap fun j=>(nth (ZI l c) j).ops:=rfl;have hK:=Y8 (l:=l) (c:=c);have oI:∀ j,j<(ZI l c).length→0<(nth (ZI l c) j).ops.length∧(nth (ZI l c) j).ops.length≤301∧∀ i∈(nth (ZI l c) j).ops,i<l.length:=fun j hj=>⟨Ij D hj,by have:=zre hj;omega,fun i hi=>((Yn D hj).1 hi).1⟩
 have Bp:∀ e∈qj l (ZI l c),e.1<(ZI l c).length∧e.2<(ZI l c).length:=fun e he=>by
  obtain ⟨a,b⟩:=e;have:=Rx.1 he;exact ⟨this.1,this.2.1⟩
 unfold lI at hE E;rw [hS];obtain ⟨L,hL⟩:∃ L,sM l c=L:=⟨_,rfl⟩
 rw [hL] at hE E ⊢;obtain ⟨C,hC⟩:∃ C,ZI l c=C:=⟨_,rfl⟩
 rw [hC] at bk OA hE E hK oI Bp ⊢;have gB:=Ry l C C.length;have hpl2:=YT hK hK;have tv:=zoF C.length (qj l C) za (by unfold qj;have:=YT (show C.length≤301 by omega) (show C.length≤301 by omega);omega) Bp (fun j=>wQ l (nth C j)) OA;have Bh:=Z8 C.length (YK (qj l C)) za (VW (f:=fun j=>wQ l (nth C j)) OA);rw [← hE] at Bh;have Jq:=E.len;refine ym 103 Tryz.func38 Tryz.ntmps38 rfl ?_;change FW _ _ _ ⟨[(0,.list 8 (l.map aq.fv)),(1,.int .i64 c),(2,.list 1 (ins.map dz))],[]⟩;refine zb ?_;refine Zg bk (by repeat (first|exact zH.nil|refine zH.cons zB ?_)) rfl rfl ?_;refine zb ?_;refine FW.loop (fun i:Nat=>⟨[(0,.list 8 (l.map aq.fv)),(7,.list 2 (C.map dx.fv)),(8,.own 100 0 0 (sO l C i).length),(30,.list 2 (C.map dx.fv)),(31,.int .i64 C.length),(32,.int .i64 i)],[(100,⟨0,.own,93,2,(sO l C i).map bZ⟩)]⟩) (fun i=>i≤C.length) (fun i=>C.length - i) 0 (zp _) ?_ ?_
 ·show ar _ ⟨[(0,.list 8 (l.map aq.fv)),(7,.list 2 (C.map dx.fv)),(8,.own 100 0 0 0),(30,.list 2 (C.map dx.fv)),(31,.int .i64 C.length),(32,.int .i64 0)],[(100,⟨0,.own,93,2,[]⟩)]⟩;exact (ar.cv [⟨100,none,0,⟨0,.own,93,2,[]⟩⟩] zh zf)
 intro i hi;refine zb ?_;refine FW.cond rfl (fun h=>?_) (fun h=>?_)
 ·have aA:i<C.length:=by simpa using h
  clear h;obtain ⟨x0,x1,x2⟩:=oI i aA;have pM:=zlU l C i;have nW:=Ry l C i;have htl2:=YT (show i≤301 by omega) (show C.length≤301 by omega);have m7:=fun k=>zsQ l C i k;have sX:=fun k=>zoO l C i k;have Ju:tZ l C i 0=[]:=rfl;generalize tZ l C i=RR at pM m7 sX Ju;generalize sO l C i=PP at pM nW;obtain ⟨X,hX⟩:∃ X,nth C i=X:=⟨_,rfl⟩
  rw [hX] at x0 x1 x2;simp only [hX] at m7;have hex:=K8 l X za za x0 x2;obtain ⟨xi,xo⟩:=X;dsimp only at x0 x1 x2 hex;unfold ID at hex;refine zb ?_;rw [hX];skip;refine yP hex (by repeat (first|exact zH.nil|refine zH.cons zB ?_)) rfl rfl ?_;refine zb ?_;refine FW.loop (fun k:Nat=>⟨[(0,.list 8 (l.map aq.fv)),(7,.list 2 (C.map dx.fv)),(8,.own 100 0 0 (PP++RR k).length),(9,.int .i64 i),(10,.ptr 101 0 0 0),(12,.int .i64 (iA l xo)),(30,.list 2 (C.map dx.fv)),(31,.int .i64 C.length),(32,.int .i64 i),(45,.list 2 (C.map dx.fv)),(46,.int .i64 C.length),(47,.int .i64 k)],[(100,⟨0,.own,93,2,(PP++RR k).map bZ⟩),(101,⟨0,.own,91,2,[[.bool xi,.list 1 (xo.map yx)]]⟩)]⟩) (fun k=>k≤C.length) (fun k=>C.length - k) 0 (zp _) ?_ ?_
  ·rw [Ju,zT];exact (ar.cv [⟨100,some 100,0,⟨0,.own,93,2,PP.map bZ⟩⟩,⟨101,some 10,0+1,⟨0,.own,91,2,[[.bool xi,.list 1 (xo.map yx)]]⟩⟩] zh zf)
  intro k hk;refine zb ?_;refine FW.cond rfl (fun h=>?_) (fun h=>?_)
  ·have Bi:k<C.length:=by simpa using h
   clear h;obtain ⟨y0,y1,y2⟩:=oI k Bi;have m7:=m7 k;have sX:=sX k;obtain ⟨Y,hY⟩:∃ Y,nth C k=Y:=⟨_,rfl⟩
   rw [hY] at y0 y1 y2 m7;have ux:=K8 l Y za za y0 y2;obtain ⟨yi,yo⟩:=Y;dsimp only at y0 y1 y2 ux;unfold ID at ux;unfold vB at m7;refine zb ?_;rw [hY];skip;refine yP ux (by repeat (first|exact zH.nil|refine zH.cons zB ?_)) rfl rfl ?_;refine zb ?_;refine yR (fun h1=>?_) (fun h1=>?_)
   ·have iB : i≠k:=by
     have:=of_decide_eq_true h1;omega
    rw [decide_eq_true iB,yN] at m7;refine zb ?_;cases xi with
    | true =>
     rw [HR,if_pos rfl] at m7;refine zb ?_;refine ⟨k+1,by omega,by omega,?_⟩;rw [m7,show (PP++(RR k++[(i,k)])).map bZ=(PP++RR k).map bZ++[bZ (i,k)] by rw [← yV,zF];rfl];exact (ar.cv [⟨100,some 77,0+1,⟨0,.own,93,2,(PP++RR k).map bZ++[bZ (i,k)]⟩⟩,⟨101,some 101,0,⟨0,.own,91,2,[[.bool true,.list 1 (xo.map yx)]]⟩⟩] zh zf)
    | false=>
     rw [ZR] at m7;refine zb ?_;refine FW.cond rfl (fun h2=>?_) (fun h2=>?_)
     ·rw [if_pos (by exact h2)] at m7;refine zb ?_;refine ⟨k+1,by omega,by omega,?_⟩;rw [m7,show (PP++(RR k++[(i,k)])).map bZ=(PP++RR k).map bZ++[bZ (i,k)] by rw [← yV,zF];rfl];exact (ar.cv [⟨100,some 77,0+1,⟨0,.own,93,2,(PP++RR k).map bZ++[bZ (i,k)]⟩⟩,⟨101,some 101,0,⟨0,.own,91,2,[[.bool false,.list 1 (xo.map yx)]]⟩⟩] zh zf)
     ·rw [if_neg (by rw [show decide (iA l xo<jn l yo)=false from h2];decide),zT] at m7;refine zb ?_;refine ⟨k+1,by omega,by omega,?_⟩;rw [m7];exact (ar.cv [⟨100,some 100,0,⟨0,.own,93,2,(PP++RR k).map bZ⟩⟩,⟨101,some 101,0,⟨0,.own,91,2,[[.bool false,.list 1 (xo.map yx)]]⟩⟩] zh zf)
   ·have iB : i=k:=by
     have:=of_decide_eq_false h1;omega
    rw [decide_eq_false za,Zo,if_neg zd,zT] at m7;refine zb ?_;refine ⟨k+1,by omega,by omega,?_⟩;rw [m7];exact (ar.cv [⟨100,some 100,0,⟨0,.own,93,2,(PP++RR k).map bZ⟩⟩,⟨101,some 101,0,⟨0,.own,91,2,[[.bool xi,.list 1 (xo.map yx)]]⟩⟩] zh zf)
  ·obtain rfl:k=C.length:=by simp at h;omega
   refine zb ?_;refine ⟨i+1,by omega,by omega,?_⟩;rw [pM];exact (ar.cv [⟨100,some 100,0,⟨0,.own,93,2,(PP++RR C.length).map bZ⟩⟩] zh zf)
 ·obtain rfl:i=C.length:=by simp at h;omega
  have TW:qj l C=sO l C C.length:=rfl;rw [← TW] at gB ⊢;generalize qj l C=P at tv gB Bh TW ⊢;refine zb ?_;refine zt.le ?_ (ar.share 83 rfl rfl zc);refine Zg tv (by repeat (first|exact zH.nil|refine zH.cons zB ?_)) rfl rfl ?_;refine zb ?_;refine Yr Bh (by repeat (first|exact zH.nil|refine zH.cons zB ?_)) (zj _) rfl rfl rfl ?_;refine zb ?_;rw [Jq];refine FW.loop (fun i:Nat=>⟨[(7,.list 2 (C.map dx.fv)),(23,.own 102 0 0 ((L.take i).flatMap fun j=>(nth C j).ops).length),(88,.own 103 0 0 C.length),(89,.int .i64 C.length),(90,.int .i64 i)],[(102,⟨0,.own,3,1,((L.take i).flatMap fun j=>(nth C j).ops).map yx⟩),(103,⟨0,.own,3,1,L.map yx⟩)]⟩) (fun i=>i≤C.length∧((L.take i).flatMap fun j=>(nth C j).ops).length≤i * 301) (fun i=>C.length - i) 0 ⟨zp _,by simp⟩ ?_ ?_
  ·show ar _ ⟨[(7,.list 2 (C.map dx.fv)),(23,.own 102 0 0 0),(88,.own 103 0 0 C.length),(89,.int .i64 C.length),(90,.int .i64 0)],[(102,⟨0,.own,3,1,[]⟩),(103,⟨0,.own,3,1,L.map yx⟩)]⟩;exact (ar.cv [⟨102,none,0,⟨0,.own,3,1,[]⟩⟩,⟨103,some 88,0+1,⟨0,.own,3,1,L.map yx⟩⟩] zh zf)
  rintro i ⟨hi,cu⟩;have cy:=ZG 301 (show i≤301 by omega);have aO:=fun h:i<L.length=>congrArg (fun z:List Nat=>z.flatMap fun j=>(nth C j).ops) (XW (l:=L) (k:=i) h);simp only [DD,WG,List.flatMap_nil,zT] at aO;obtain ⟨O,M6⟩:∃ O,(L.take i).flatMap (fun j=>(nth C j).ops)=O:=⟨_,rfl⟩
  rw [M6] at aO cu ⊢;refine zb ?_;refine FW.cond rfl (fun h=>?_) (fun h=>?_)
  ·have aA:i<C.length:=by simpa using h
   clear h;have aO:=aO za;obtain ⟨j,hj⟩:∃ j,nth L i=j:=⟨_,rfl⟩
   have gj:=E.cW _ (zu (l:=L) (i:=i) za);rw [hj] at gj aO;obtain ⟨x0,x1,x2⟩:=oI j gj;obtain ⟨X,hX⟩:∃ X,nth C j=X:=⟨_,rfl⟩
   rw [hX] at x0 x1 x2 aO;obtain ⟨xi,xo⟩:=X;dsimp only at x0 x1 x2 aO
   (repeat (first|refine FW.seq ?_|refine FW.region ?_|refine FW.block ?_|refine FW.skip ?_|refine zt.nil ?_|refine zt.ai (yj rfl) rfl rfl ?_|refine zt.ai (zD rfl) rfl rfl ?_|refine zt.ai (Yc rfl rfl rfl rfl rfl rfl xg) rfl rfl ?_|refine zt.ai (yL rfl rfl rfl rfl rfl rfl zd rfl xg) rfl rfl ?_|refine zt.ai (yX rfl rfl rfl xg Vh rfl rfl) rfl rfl ?_|refine zt.ai (xC rfl rfl rfl rfl rfl xg Vh rfl rfl) rfl rfl ?_|refine zt.ai (Xw rfl rfl rfl rfl rfl) rfl rfl ?_))
   rw [hj];skip;rw [hX];refine zb ?_;refine ⟨i+1,⟨by omega,by rw [aO,zN,Wi];omega⟩,by omega,?_⟩;rw [aO,zF];exact (ar.cv [⟨102,some 100,0+1,⟨0,.own,3,1,O.map yx++xo.map yx⟩⟩,⟨103,some 103,0,⟨0,.own,3,1,L.map yx⟩⟩] zh zf)
  ·obtain rfl:i=C.length:=by simp at h;omega
   rw [zS za] at M6;subst M6;refine zb ?_;exact FW.ret ⟨.inl rfl,tF rfl rfl rfl (by rw [zj]) zd rfl (fun e he=>by obtain ⟨b,_,rfl⟩:=zi.1 he;rfl)⟩
theorem zls (l:List aq):(Wy l).length≤l.length:=by
 have hn:(Wy l).Nodup:=(zr5 l).imp fun h e=>by rw [e] at h;omega
 have:=PM (m:=l.map aq.key) hn fun x hx=>by
  obtain ⟨o,h1,h2⟩:=(Ho l x).1 hx;exact zi.2 ⟨o,h1,h2⟩
 simpa using this
theorem Si:Maps.Keyed Tryz.prog 3:=Maps.int_keyed (q:=.i64) zw
theorem IF {a:Int} (ha:bU a):XH Tryz.prog 3 (.int .i64 a):=⟨rfl,_,P8 (q:=.i64) zw (Cn ha)⟩
def ot (L:List Nat):List (List FV):=(List.range L.length).map fun j=>[.int .i64 (nth L j:Nat),.int .i64 (j:Nat)]
theorem zqf (L:List Nat) (x:Nat):ot (L++[x])=ot L++[[.int .i64 (x:Nat),.int .i64 (L.length:Nat)]]:=by
 unfold ot;rw [zN,Wb,yQ,zF];congr 1
 ·exact yZ fun j hj=>by rw [Q0 (zn.1 hj)]
 ·simp only [zZ,List.map_nil,Q1]
theorem Qv (h:x∈L):[FV.int .i64 (x:Nat),.int .i64 (fY L x:Nat)]∈ot L:=by
 refine zi.2 ⟨fY L x,zn.2 (wV h),?_⟩;rw [XV h]
theorem zqe (h:x∉L):∀ row∈ot L,row.head?≠some (FV.int .i64 (x:Nat)):=fun row hr e=>by
 obtain ⟨j,hj,rfl⟩:=zi.1 hr;simp only [Va,yw,FV.int.injEq,true_and] at e;have:nth L j=x:=by omega
 exact h (by rw [← this];exact zu (zn.1 hj))
theorem zlO (h:∀ x∈L,x≤1000):∀ row∈ot L,∀ kf,row.head? = some kf→XH Tryz.prog 3 kf:=fun row hr kf hk=>by
 obtain ⟨j,hj,rfl⟩:=zi.1 hr;simp only [Va,yw] at hk;subst hk;have:=h _ (zu (zn.1 hj));exact IF ⟨by omega,by omega⟩
def sQ (l:List aq) (k:Nat):List Nat:=(List.range k).filter (yC l)
theorem zse (l:List aq) (k:Nat):sQ l (k+1)=sQ l k++if yC l k=true then [k] else []:=by
 unfold sQ;rw [yQ,ZT];congr 1;by_cases h:yC l k=true
 ·rw [if_pos h,HW (by exact h)];rfl
 ·rw [if_neg h,HU (by exact h)];rfl
theorem zv3 (h:x∈sQ l k):x<k:=zn.1 (zY.1 h).1
theorem zux (l:List aq) (k:Nat):(sQ l k).length≤k:=by unfold sQ;exact yc (xV _ _) zc
theorem zdu (l:List aq) (ins:List Bool) (hl:l.length≤300) (aP:∀ o∈l,Ue o) (H:lq l) (V:∀ c∈Wy l,VO l c) (eZ:ins.length=l.length) (iD:∀ i,i<l.length→nth ins i=yC l i) :
  xA Tryz.prog 17 [.list 8 (l.map aq.fv),.list 1 (ins.map dz)] (.ow 3 1) (.list 1 ((lj l (Wy l)).map yx)):=by
 have hK:∀ i,i<l.length→(nth l i).key∈Wy l:=fun i hi=>(Ho l _).2 ⟨_,zu hi,rfl⟩;have kL:∀ c∈Wy l,bU c:=fun c hc=>by
  obtain ⟨o,h1,h2⟩:=(Ho l c).1 hc;rw [← h2];exact (aP o h1).2.2.1
 have eR:=zix l za;have Da:=zls l;generalize Wy l=K at V hK kL eR Da ⊢;have Jq:=zuD H V hK;have E:=Ce H V hK;obtain ⟨f,hf⟩:=zlG H V hK;have Df:=zv5 H V;have FE:=zv1 l;have Js:sS l K=o9 l K++pY l (Wz l).length:=rfl;have M5:Ai l K=ZV (YK (sS l K)) (Wz l).length (Wz l).length:=rfl;have FQ:=zov H V;have pD:=fun i h=>zsk (l:=l) (K:=K) (i:=i) h;have JT:=fun c hc=>zko l c ins hl aP (kL c hc) H (V c hc) eZ iD;have nc:=fun c hc=>zoX H (V c hc);have dw:=fun c hc i=>(Xg H.dom H.wf (V c hc) (i:=i)).1;have hLe:lj l K=(Ai l K).map fun a=>nth (Wz l) a:=rfl;rw [hLe];generalize Ai l K=N at E M5 ⊢;refine ym 125 Tryz.func17 Tryz.ntmps17 rfl ?_;change FW _ _ _ ⟨[(0,.list 8 (l.map aq.fv)),(1,.list 1 (ins.map dz))],[]⟩;refine zb ?_;refine FW.loop (fun k:Nat=>⟨[(0,.list 8 (l.map aq.fv)),(1,.list 1 (ins.map dz)),(5,.omap 100 0),(6,.own 101 0 0 (sQ l k).length),(23,.list 8 (l.map aq.fv)),(24,.int .i64 l.length),(25,.int .i64 k)],[(100,⟨0,.aC,64,0,ot (sQ l k)⟩),(101,⟨0,.own,3,1,(sQ l k).map yx⟩)]⟩) (fun k=>k≤l.length) (fun k=>l.length - k) 0 (zp _) ?_ ?_
 ·show ar _ ⟨[(0,.list 8 (l.map aq.fv)),(1,.list 1 (ins.map dz)),(5,.omap 100 0),(6,.own 101 0 0 0),(23,.list 8 (l.map aq.fv)),(24,.int .i64 l.length),(25,.int .i64 0)],[(100,⟨0,.aC,64,0,[]⟩),(101,⟨0,.own,3,1,[]⟩)]⟩;exact (ar.cv [⟨100,some 22,0+1,⟨0,.aC,64,0,[]⟩⟩,⟨101,none,0,⟨0,.own,3,1,[]⟩⟩] zh zf)
 intro k hk;have pB:=zse l k;have NN:=zux l k;have uC:=fun x=>zv3 (l:=l) (k:=k) (x:=x);have FD:k=l.length→sQ l k=Wz l:=fun e=>by rw [e];rfl
 generalize sQ l k=I at pB NN uC FD;refine zb ?_;refine FW.cond rfl (fun h=>?_) (fun h=>?_)
 ·have aA:k<l.length:=by simpa using h
  clear h;have iD:=iD k aA;refine zb ?_;rw [iD];cases hB:yC l k with
  | false =>
   rw [hB,if_neg zd,zT] at pB;refine zb ?_;refine ⟨k+1,by omega,by omega,?_⟩;rw [pB];exact (ar.cv [⟨100,some 100,0,⟨0,.aC,64,0,ot I⟩⟩,⟨101,some 101,0,⟨0,.own,3,1,I.map yx⟩⟩] zh zf)
  | true =>
   rw [hB,if_pos rfl] at pB;refine zb ?_;refine YD Si (zlO fun x hx=>by have:=uC x hx;omega) (IF ⟨by omega,by omega⟩) (show qg (ot I) (.int .i64 (k:Nat)) (.int .i64 (I.length:Nat)) (ot (I++[k])) from .inr ⟨zqe (fun hx=>by have:=uC k hx;omega),zqf I k⟩) rfl rfl rfl rfl rfl rfl rfl ?_;refine zb ?_;refine ⟨k+1,by omega,by omega,?_⟩;rw [pB,zF];exact (ar.cv [⟨100,some 100,0,⟨0,.aC,64,0,ot (I++[k])⟩⟩,⟨101,some 39,0+1,⟨0,.own,3,1,I.map yx++[k].map yx⟩⟩] zh zf)
 ·obtain rfl:k=l.length:=by simp at h;omega
  have FD:=FD rfl;have Of:=fun x (h:x∈Wz l)=>Uc h;have Gi:=fun x (h:x∈Wz l)=>Qv h;have rB:=zlO (L:=Wz l) fun x hx=>by have:=uC x (by rw [FD];exact hx);omega
  have kt:=fun c hc i hi=>Yp.2 ⟨(dw c hc i hi).1,(dw c hc i hi).2.2⟩;subst FD;refine FW.le ?_ (ar.mP 5 rfl rfl);refine FW.le ?_ (ar.share 6 rfl rfl zc);refine FW.le (s':=⟨[(0,.list 8 (l.map aq.fv)),(1,.list 1 (ins.map dz)),(5,.smap (ot (Wz l))),(6,.list 1 ((Wz l).map yx))],[]⟩) ?_ (ar.cv [] xu zf);have rI:∀ i,oA l i=fY (Wz l) i:=fun i=>rfl;have rM:=fun x (h:x∈Wz l)=>wV h;have pK:=fun a=>zoW l a;have gW:=fun a k=>zu2 l a k;have rQ:=fun a=>ztm l a;have kv:=fun a k=>ztl l a k;have OE:pY l 0=[]:=rfl;have uK:∀ a,tC l a 0=[]:=fun a=>rfl;have l6:∀ i∈Wz l,i<l.length:=fun i hi=>(Yp.1 hi).1;obtain ⟨I,hI⟩:∃ I,Wz l=I:=⟨_,rfl⟩
  simp only [hI] at rM rQ Of Gi rB kt rI gW pK l6 Js M5 Df E Jq FE ⊢;refine zb ?_;refine Yr eR (by repeat (first|exact zH.nil|refine zH.cons zB ?_)) (zj _) rfl rfl rfl ?_;refine zb ?_;refine FW.loop (fun i:Nat=>⟨[(0,.list 8 (l.map aq.fv)),(1,.list 1 (ins.map dz)),(5,.smap (ot I)),(6,.list 1 (I.map yx)),(8,.own 102 0 0 (o9 l (K.take i)).length),(42,.own 103 0 0 K.length),(43,.int .i64 K.length),(44,.int .i64 i)],[(102,⟨0,.own,93,2,(o9 l (K.take i)).map bZ⟩),(103,⟨0,.own,3,1,K.map zJ⟩)]⟩) (fun i=>i≤K.length) (fun i=>K.length - i) 0 (zp _) ?_ ?_
  ·show ar _ ⟨[(0,.list 8 (l.map aq.fv)),(1,.list 1 (ins.map dz)),(5,.smap (ot I)),(6,.list 1 (I.map yx)),(8,.own 102 0 0 0),(42,.own 103 0 0 K.length),(43,.int .i64 K.length),(44,.int .i64 0)],[(102,⟨0,.own,93,2,[]⟩),(103,⟨0,.own,3,1,K.map zJ⟩)]⟩;exact (ar.cv [⟨102,none,0,⟨0,.own,93,2,[]⟩⟩,⟨103,some 42,0+1,⟨0,.own,3,1,K.map zJ⟩⟩] zh zf)
  intro i hi;refine zb ?_;refine FW.cond rfl (fun h=>?_) (fun h=>?_)
  ·have aA:i<K.length:=by simpa using h
   clear h;have uE:=FQ i hi;have pD:=pD i aA;have NV:=YT (show i≤300 by omega) hl;obtain ⟨c,hc⟩:∃ c,nth K i=c:=⟨_,rfl⟩
   have hcK:c∈K:=by rw [← hc];exact zu aA
   rw [hc] at pD;have JT:=JT c hcK;have nc:=nc c hcK;have kt:=kt c hcK;generalize o9 l (K.take i)=PP at uE pD ⊢;generalize fj l c=S at pD JT nc kt ⊢;refine zb ?_;rw [hc];skip;refine Yr JT (by repeat (first|exact zH.nil|refine zH.cons zB ?_)) (zj _) rfl rfl rfl ?_;refine zt.le ?_ (ar.share 51 rfl rfl zc);refine zb ?_;refine FW.loop (fun q:Nat=>⟨[(0,.list 8 (l.map aq.fv)),(1,.list 1 (ins.map dz)),(5,.smap (ot I)),(6,.list 1 (I.map yx)),(8,.own 102 0 0 (PP++qV l S q).length),(11,.list 1 (S.map yx)),(12,.int .i64 ((q:Int)+1)),(42,.own 103 0 0 K.length),(43,.int .i64 K.length),(44,.int .i64 i)],[(102,⟨0,.own,93,2,(PP++qV l S q).map bZ⟩),(103,⟨0,.own,3,1,K.map zJ⟩)]⟩) (fun q=>q≤S.length - 1) (fun q=>S.length - q) 0 (zp _) ?_ ?_
   ·rw [show qV l S 0=[] from rfl,zT];exact (ar.cv [⟨102,some 102,0,⟨0,.own,93,2,PP.map bZ⟩⟩,⟨103,some 103,0,⟨0,.own,3,1,K.map zJ⟩⟩] zh zf)
   intro q hq;have Bs:=ztg l S q;have JP:=zoV l S q;refine zb ?_;refine FW.cond rfl (fun h=>?_) (fun h=>?_)
   ·have N1:q+1<S.length:=by
     have:=of_decide_eq_true h;omega
    clear h;have m1:=kt _ (zu (show q<S.length by omega));have m2:=kt _ (zu N1);rw [rI,rI] at Bs;generalize qV l S q=RT at Bs JP ⊢;obtain ⟨x,hx⟩:∃ x,nth S q=x:=⟨_,rfl⟩
    obtain ⟨y,hy⟩:∃ y,nth S (q+1)=y:=⟨_,rfl⟩
    rw [hx] at m1 Bs;rw [hy] at m2 Bs;have n1:=Qv m1;have n2:=Qv m2;have xl:=l6 x m1;have yl:=l6 y m2;have pl1:=rM x m1;have pl2:=rM y m2;obtain ⟨px,hpx⟩:∃ z,fY I x=z:=⟨_,rfl⟩
    obtain ⟨py,hpy⟩:∃ z,fY I y=z:=⟨_,rfl⟩
    rw [hpx] at n1 pl1 Bs;rw [hpy] at n2 pl2 Bs;refine Zf ?_;rw [show ((q:Int)+1 - 1).toNat=q by omega,hx];refine QA (e:=3) Si rB (IF ⟨by omega,by omega⟩) (.inl ⟨rfl,n1⟩) rfl rfl rfl rfl rfl rfl rfl ?_;refine yH ?_;rw [hy];refine QA (e:=3) Si rB (IF ⟨by omega,by omega⟩) (.inl ⟨rfl,n2⟩) rfl rfl rfl rfl rfl rfl rfl ?_;refine yH ?_;refine ⟨by kernel_rfl,?_⟩;refine zb ?_;refine ⟨q+1,by omega,by omega,?_⟩;rw [Bs,show (PP++(RT++[(px,py)])).map bZ=(PP++RT).map bZ++[bZ (px,py)] by rw [← yV,zF];rfl];exact (ar.cv [⟨102,some 74,0+1,⟨0,.own,93,2,(PP++RT).map bZ++[bZ (px,py)]⟩⟩,⟨103,some 103,0,⟨0,.own,3,1,K.map zJ⟩⟩] zh zf)
   ·have:q=S.length - 1:=by
     have:=of_decide_eq_false h;omega
    subst this;refine zb ?_;refine ⟨i+1,by omega,by omega,?_⟩;rw [pD];exact (ar.cv [⟨102,some 102,0,⟨0,.own,93,2,(PP++qV l S (S.length - 1)).map bZ⟩⟩,⟨103,some 103,0,⟨0,.own,3,1,K.map zJ⟩⟩] zh zf)
  ·obtain rfl:i=K.length:=by simp at h;omega
   have uE:=FQ K.length (zg _);have NV:=YT (show K.length≤300 by omega) hl;rw [yy] at uE ⊢;generalize o9 l K=KP at Js uE ⊢;refine zb ?_;refine FW.loop (fun a:Nat=>⟨[(0,.list 8 (l.map aq.fv)),(6,.list 1 (I.map yx)),(8,.own 102 0 0 (KP++pY l a).length),(76,.list 1 (I.map yx)),(77,.int .i64 I.length),(78,.int .i64 a)],[(102,⟨0,.own,93,2,(KP++pY l a).map bZ⟩)]⟩) (fun a=>a≤I.length) (fun a=>I.length - a) 0 (zp _) ?_ ?_
   ·rw [OE,zT];exact (ar.cv [⟨102,some 102,0,⟨0,.own,93,2,KP.map bZ⟩⟩] zh zf)
   intro a ha;refine zb ?_;refine FW.cond rfl (fun h=>?_) (fun h=>?_)
   ·have N0:a<I.length:=by simpa using h
    clear h;have pK:=pK a;have Gy:=rQ a;have Gz:=YT (show a≤300 by omega) (show I.length≤300 by omega);have gW:=gW a;have kv:=kv a;have uK:=uK a;obtain ⟨x,hx⟩:∃ x,nth I a=x:=⟨_,rfl⟩
    have GU:x<l.length:=by rw [← hx];exact l6 _ (zu N0)
    simp only [hx] at gW;generalize tC l a=RR at pK gW kv uK;generalize pY l a=PP at pK Gy ⊢;refine zb ?_;rw [hx];skip;refine FW.loop (fun b:Nat=>⟨[(0,.list 8 (l.map aq.fv)),(6,.list 1 (I.map yx)),(8,.own 102 0 0 (KP++PP++RR b).length),(13,.int .i64 a),(14,.int .i64 x),(76,.list 1 (I.map yx)),(77,.int .i64 I.length),(78,.int .i64 a),(83,.list 1 (I.map yx)),(84,.int .i64 I.length),(85,.int .i64 b)],[(102,⟨0,.own,93,2,(KP++PP++RR b).map bZ⟩)]⟩) (fun b=>b≤I.length) (fun b=>I.length - b) 0 (zp _) ?_ ?_
    ·rw [uK,zT];exact (ar.cv [⟨102,some 102,0,⟨0,.own,93,2,(KP++PP).map bZ⟩⟩] zh zf)
    intro b hb;refine zb ?_;refine FW.cond rfl (fun h=>?_) (fun h=>?_)
    ·have jW:b<I.length:=by simpa using h
     clear h;obtain ⟨y,hy⟩:∃ y,nth I b=y:=⟨_,rfl⟩
     have JZ:y<l.length:=by rw [← hy];exact l6 _ (zu jW)
     have gW:=gW b;have kv:=kv b;rw [hy] at gW;have Np:=X4 l x y GU JZ;generalize RR b=RB at gW kv ⊢;refine zb ?_;rw [hy];skip;refine yP Np (by repeat (first|exact zH.nil|refine zH.cons zB ?_)) rfl rfl ?_;refine zb ?_;refine FW.cond rfl (fun h=>?_) (fun h=>?_)
     ·rw [if_pos h] at gW;refine zb ?_;refine ⟨b+1,by omega,by omega,?_⟩;rw [gW,show (KP++PP++(RB++[(a,b)])).map bZ=(KP++PP++RB).map bZ++[bZ (a,b)] by rw [← yV,zF];rfl];exact (ar.cv [⟨102,some 99,0+1,⟨0,.own,93,2,(KP++PP++RB).map bZ++[bZ (a,b)]⟩⟩] zh zf)
     ·rw [if_neg (by rw [h];decide),zT] at gW;refine zb ?_;refine ⟨b+1,by omega,by omega,?_⟩;rw [gW];exact (ar.cv [⟨102,some 102,0,⟨0,.own,93,2,(KP++PP++RB).map bZ⟩⟩] zh zf)
    ·obtain rfl:b=I.length:=by simp at h;omega
     refine zb ?_;refine ⟨a+1,by omega,by omega,?_⟩;rw [pK,← yV];exact (ar.cv [⟨102,some 102,0,⟨0,.own,93,2,(KP++PP++RR I.length).map bZ⟩⟩] zh zf)
   ·obtain rfl:a=I.length:=by simp at h;omega
    have Gy:=rQ I.length;have Gz:=YT (show I.length≤300 by omega) (show I.length≤300 by omega);have Ta:(sS l K).length≤1000000:=by
     rw [Js,zN];omega
    rw [← Js] at ⊢;have tv:=zoF I.length (sS l K) za Ta Df f hf;have Bh:=Z8 I.length (YK (sS l K)) za (VW hf);rw [← M5] at Bh;have Tc:=E.len;have hNr:=E.cW;generalize sS l K=P at tv Bh Ta ⊢;refine zb ?_;refine zt.le ?_ (ar.share 105 rfl rfl zc);refine Zg tv (by repeat (first|exact zH.nil|refine zH.cons zB ?_)) rfl rfl ?_;refine zb ?_;refine Yr Bh (by repeat (first|exact zH.nil|refine zH.cons zB ?_)) (zj _) rfl rfl rfl ?_;refine zb ?_;rw [Tc];refine FW.loop (fun i:Nat=>⟨[(6,.list 1 (I.map yx)),(19,.own 102 0 0 i),(110,.own 103 0 0 I.length),(111,.int .i64 I.length),(112,.int .i64 i)],[(102,⟨0,.own,3,1,((N.take i).map fun a=>nth I a).map yx⟩),(103,⟨0,.own,3,1,N.map yx⟩)]⟩) (fun i=>i≤I.length) (fun i=>I.length - i) 0 (zp _) ?_ ?_
    ·show ar _ ⟨[(6,.list 1 (I.map yx)),(19,.own 102 0 0 0),(110,.own 103 0 0 I.length),(111,.int .i64 I.length),(112,.int .i64 0)],[(102,⟨0,.own,3,1,[]⟩),(103,⟨0,.own,3,1,N.map yx⟩)]⟩;exact (ar.cv [⟨102,none,0,⟨0,.own,3,1,[]⟩⟩,⟨103,some 110,0+1,⟨0,.own,3,1,N.map yx⟩⟩] zh zf)
    intro i hi;have aO:=fun h:i<N.length=>congrArg (fun z:List Nat=>z.map fun a=>nth I a) (XW (l:=N) (k:=i) h);simp only [zF,zZ,List.map_nil] at aO;obtain ⟨O,hO⟩:∃ O,(N.take i).map (fun a=>nth I a)=O:=⟨_,rfl⟩
    have Te:O.length=i:=by rw [← hO,zj,zW];omega
    rw [hO] at aO ⊢;refine zb ?_;refine FW.cond rfl (fun h=>?_) (fun h=>?_)
    ·have hlti:i<I.length:=by simpa using h
     clear h;have aO:=aO za;obtain ⟨j,hj⟩:∃ j,nth N i=j:=⟨_,rfl⟩
     have gj:=hNr _ (zu (l:=N) (i:=i) za);rw [hj] at gj aO;obtain ⟨x,hx⟩:∃ x,nth I j=x:=⟨_,rfl⟩
     rw [hx] at aO;refine zb ?_;rw [hj];skip;rw [hx];skip;refine ⟨i+1,by omega,by omega,?_⟩;rw [aO,zF];exact (ar.cv [⟨102,some 122,0+1,⟨0,.own,3,1,O.map yx++[x].map yx⟩⟩,⟨103,some 103,0,⟨0,.own,3,1,N.map yx⟩⟩] zh zf)
    ·obtain rfl:i=I.length:=by simp at h;omega
     rw [zS za] at hO;subst hO;refine zb ?_;exact FW.ret ⟨.inl rfl,tF rfl rfl rfl (by rw [zj];omega) zd rfl (fun e he=>by obtain ⟨b,_,rfl⟩:=zi.1 he;rfl)⟩
def Mq.fv (v:Mq):List FV:=[.int .i64 2,.int .i64 v.cls,.int .i64 v.arg,.list 1 (v.ord.map yx),.list 3 (v.ed.map Hg)]
def Pa:List FV:=[.int .i64 0,.int .i64 0,.int .i64 0,.list 1 [],.list 3 []]
def qd (l:List aq):Int:=if Zj l≠0 then Zj l else if yE l then 0 else 22
noncomputable def Mr (l:List aq):List FV:=if qd l≠0 then Pa else (qU l).fv
noncomputable def DV (l:List aq):List FV:=match vF l with
 | some c => (jP l c).fv c
 | none => [.int .i64 2, .int .i64 0, .int .i64 0, .list 1 ((lj l (Wy l)).map yx), .nil]
theorem zxm (b:FV):FV.le (.bd [.agg [.int .i64 0,.int .i64 0,.int .i64 0,.nil,.nil],b]) (.bd [.agg Pa,b]):=
 .bd (.cons (.agg (.cons (.refl _) (.cons (.refl _) (.cons (.refl _) (.cons (.nil 1) (.cons (.nil 3) .nil)))))) (.cons (.refl _) .nil))
theorem zuu (l:List aq):(Cx l).length=l.length:=Yo _ _
theorem zjW (l:List aq) (hl:l.length≤1000000000) (aP:∀ o∈l,Ue o):xA Tryz.prog 6 [.list 8 (l.map aq.fv)] .sh (.bd [.agg (Mr l),.int .i64 (qd l)]):=by
 have k7:=zmp l hl aP;have NJ:=zjR l hl aP;have oI:=zgu l aP hl;have eR:=zix l za;have hE:qd l=if Zj l≠0 then Zj l else if yE l then 0 else 22:=rfl
 have hF:Mr l=if qd l≠0 then Pa else (qU l).fv:=rfl
 refine xA.V1 (r:=if qd l≠0 then .bd [.agg [.int .i64 0,.int .i64 0,.int .i64 0,.nil,.nil],.int .i64 (qd l)] else .bd [.agg (DV l),.int .i64 (qd l)]) ?_ ?_ rfl
 ·obtain ⟨e,he⟩:∃ e,qd l=e:=⟨_,rfl⟩
  rw [he] at hE ⊢;refine ym 52 Tryz.func6 Tryz.ntmps6 (by split <;> rfl) ?_;change FW _ _ _ ⟨[(0,.list 8 (l.map aq.fv))],[]⟩;refine zb ?_;refine yP oI (by repeat (first|exact zH.nil|refine zH.cons zB ?_)) rfl rfl ?_;refine zb ?_;refine FW.cond rfl (fun h=>?_) (fun h=>?_)
  ·have h0:Zj l≠0:=by simpa using h
   rw [if_pos h0] at hE;rw [← hE] at h0 ⊢;rw [if_pos h0];refine zb ?_;refine FW.ret ⟨.inl rfl,.sh (.cons (yD rfl rfl rfl rfl rfl rfl zd) (.cons (.tmp 3 rfl rfl) .nil)) ?_ rfl⟩;rfl
  ·have h0:Zj l=0:=by simpa using h
   rw [if_neg (by simpa using h0)] at hE;by_cases D:yE l
   ·rw [if_pos D] at hE;subst hE;rw [if_neg (show ¬ (0:Int)≠0 by decide)];rw [if_pos D,decide_eq_true D] at k7;have H:=zkP h0 D;have uF:=(zic h0).1;have eZ:=zuu l;have iD:=fun i hi=>zsa (l:=l) (i:=i) D hi;have kL:∀ c∈Wy l,bU c:=fun c hc=>by
     obtain ⟨o,h1,h2⟩:=(Ho l c).1 hc;rw [← h2];exact (aP o h1).2.2.1
    have Da:=zls l;have Dj:=fun i hi=>zwz (l:=l) (i:=i) hi;have iu:=zmm (l:=l);have Dc:=zdu l (Cx l) uF aP H;have dR:=fun c hc=>zh3 l c (Cx l) uF aP hc D eZ iD;generalize mY l l.length=W at dR NJ k7;generalize Cx l=ins at dR NJ eZ iD Dc;obtain ⟨K,MW⟩:∃ K,Wy l=K:=⟨_,rfl⟩
    rw [MW] at kL Da eR iu Dc;simp only [MW] at Dj;refine zb ?_;refine Zg k7 (by repeat (first|exact zH.nil|refine zH.cons zB ?_)) rfl rfl ?_;refine zb ?_;refine Yr NJ (by repeat (first|exact zH.nil|refine zH.cons zB ?_)) (zj _) rfl rfl rfl ?_;refine zt.le ?_ (ar.share 28 rfl rfl zc);refine zb ?_;refine Yr eR (by repeat (first|exact zH.nil|refine zH.cons zB ?_)) (zj _) rfl rfl rfl ?_;refine zb ?_;refine FW.loop (fun i:Nat=>⟨[(0,.list 8 (l.map aq.fv)),(2,.ptr 101 0 0 0),(5,.smap W),(7,.list 1 (ins.map dz)),(30,.own 102 0 0 K.length),(31,.int .i64 K.length),(32,.int .i64 i)],[(101,⟨0,.own,31,5,[[.int .i64 0,.int .i64 0,.int .i64 0,.nil,.nil]]⟩),(102,⟨0,.own,3,1,K.map zJ⟩)]⟩) (fun i=>i≤K.length∧∀ j,j<i→(jP l (nth K j)).cls=0) (fun i=>K.length - i) 0 ⟨zp _,fun j hj=>by omega⟩ ?_ ?_
    ·exact (ar.cv [⟨101,some 2,0+1,⟨0,.own,31,5,[[.int .i64 0,.int .i64 0,.int .i64 0,.nil,.nil]]⟩⟩,⟨102,some 30,0+1,⟨0,.own,3,1,K.map zJ⟩⟩] zh zf)
    rintro i ⟨hi,bl⟩;refine zb ?_;refine FW.cond rfl (fun h=>?_) (fun h=>?_)
    ·have aA:i<K.length:=by simpa using h
     clear h;have Dj:=Dj i aA bl;obtain ⟨c,hc⟩:∃ c,nth K i=c:=⟨_,rfl⟩
     have Tw:=kL _ (zu aA);rw [hc] at Tw Dj;have dR:=dR c Tw;have iE:(jP l c).cls=0→∀ j,j<i+1→(jP l (nth K j)).cls=0:=fun h j hj=>by
      by_cases e:j=i
      ·subst e;rw [hc];exact h
      ·exact bl j za
     obtain ⟨v,hv⟩:∃ v,jP l c=v:=⟨_,rfl⟩
     rw [hv] at Dj dR iE;refine zb ?_;rw [hc];skip;refine Zg dR (by repeat (first|exact zH.nil|refine zH.cons zB ?_)) rfl rfl ?_;refine zb ?_;refine FW.cond rfl (fun h=>?_) (fun h=>?_)
     ·have hR:DV l=v.fv c:=by unfold DV;rw [Dj (by simpa using h)];dsimp only;rw [hv]
      rw [hR];refine zb ?_;refine FW.ret ⟨.inl rfl,.sh (.cons (yD rfl rfl rfl rfl rfl rfl zd) (.cons (.tmp 3 rfl rfl) .nil)) ?_ rfl⟩;rfl
     ·refine zb ?_;refine ⟨i+1,⟨by omega,iE (by simpa using h)⟩,by omega,?_⟩;exact (ar.cv [⟨101,some 101,0,⟨0,.own,31,5,[[.int .i64 0,.int .i64 0,.int .i64 0,.nil,.nil]]⟩⟩,⟨102,some 102,0,⟨0,.own,3,1,K.map zJ⟩⟩] zh zf)
    ·obtain rfl:i=K.length:=by simp at h;omega
     have cR:∀ c∈K,VO l c:=fun c hc=>by
      obtain ⟨j,hj,e⟩:=zU hc;have:=bl j hj;rw [ak hj,e] at this;exact Sm.1 this
     have Dc:=Dc cR eZ iD;have hR:DV l=[.int .i64 2,.int .i64 0,.int .i64 0,.list 1 ((lj l K).map yx),.nil]:=by unfold DV;rw [iu.2 cR];dsimp only;rw [MW]
     rw [hR];refine zb ?_;refine Yr Dc (by repeat (first|exact zH.nil|refine zH.cons zB ?_)) (zj _) rfl rfl rfl ?_;refine zt.le ?_ (ar.share 49 rfl rfl zc);refine zb ?_;refine FW.ret ⟨.inl rfl,.sh (.cons (yD rfl rfl rfl rfl rfl rfl zd) (.cons (.tmp 3 rfl rfl) .nil)) ?_ rfl⟩;rfl
   ·rw [if_neg D] at hE;subst hE;rw [if_pos (show (22:Int)≠0 by decide)];rw [if_neg D,decide_eq_false D] at k7;refine zb ?_;refine Zg k7 (by repeat (first|exact zH.nil|refine zH.cons zB ?_)) rfl rfl ?_;refine zb ?_;refine FW.ret ⟨.inl rfl,.sh (.cons (yD rfl rfl rfl rfl rfl rfl zd) (.cons (.tmp 3 rfl rfl) .nil)) ?_ rfl⟩;rfl
 ·rw [hF];split
  ·exact zxm _
  ·refine .bd (.cons (.agg ?_) (.cons (.refl _) .nil));unfold DV qU;cases vF l with
   | some c => exact .cons (.refl _) (.cons (.refl _) (.cons (.refl _) (.cons (.refl _) (.cons (.refl _) .nil))))
   | none => exact .cons (.refl _) (.cons (.refl _) (.cons (.refl _) (.cons (.refl _) (.cons (.nil 3) .nil))))
def sG:List (Int×Int)→Int→Int
 | [], _ => 0
 | p :: A, c => if p.1=c then p.2 else sG A c
def lR:List (Int×Int)→Int→Int→List (Int×Int)
 | [], c, v => [(c, v)]
 | p :: A, c, v => if p.1=c then (c, v) :: A else p :: lR A c v
def o6 (p:Int×Int):List FV:=[.int .i64 p.1,.int .i64 p.2]
theorem zkE {c v:Int}:∀ {A:List (Int×Int)} (d:Int),sG (lR A c v) d=if c=d then v else sG A d
 | [], d => rfl
 | p::A,d=>by
  unfold lR;by_cases h:p.1=c
  ·rw [if_pos h];show (if c=d then v else sG A d)=if c=d then v else if p.1=d then p.2 else sG A d
   by_cases h2:c=d
   ·rw [if_pos h2,if_pos h2]
   ·rw [if_neg h2,if_neg h2,if_neg za]
  ·rw [if_neg h];show (if p.1=d then p.2 else sG (lR A c v) d)=if c=d then v else if p.1=d then p.2 else sG A d
   rw [zkE d];by_cases h2:c=d
   ·rw [if_pos h2,if_pos h2,if_neg za]
   ·rw [if_neg h2,if_neg h2]
theorem Ri {c v:Int}:∀ (A:List (Int×Int)),qg (A.map o6) (.int .i64 c) (.int .i64 v) ((lR A c v).map o6)
 | [] => .inr ⟨fun row hr => (by cases hr), rfl⟩
 | p ::A=>by
  unfold lR;by_cases h:p.1=c
  ·rw [if_pos h];exact .inl ⟨0,.int .i64 p.2,by subst h;rfl,rfl⟩
  ·rw [if_neg h];rcases Ri (c:=c) (v:=v) A with ⟨j,v0,h1,h2⟩|⟨h1,h2⟩
   ·exact .inl ⟨j+1,v0,by simpa using h1,by rw [zZ,zZ,h2,KA]⟩
   ·refine .inr ⟨fun row hr=>?_,by rw [zZ,zZ,h2,HS]⟩;rcases zA.1 hr with rfl|hr
    ·intro e;unfold o6 at e;simp only [Va,yw,FV.int.injEq,true_and] at e;exact h e
    ·exact h1 row hr
theorem zh6 {c:Int}:∀ (A:List (Int×Int)),lK (A.map o6) (.int .i64 c) (.int .i64 0) (.int .i64 (sG A c)) (A.any fun p=>decide (p.1=c))
 | [] => .inr ⟨rfl, rfl, fun row hr => (by cases hr)⟩
 | p ::A=>by
  unfold sG;rw [Dz];by_cases h:p.1=c
  ·rw [if_pos h,decide_eq_true h,HR];refine .inl ⟨rfl,?_⟩;subst h;exact Yu
  ·rw [if_neg h,decide_eq_false h,ZR];rcases zh6 (c:=c) A with ⟨h1,h2⟩|⟨h1,h2,h3⟩
   ·exact .inl ⟨h1,xW _ h2⟩
   ·refine .inr ⟨h1,h2,fun row hr=>?_⟩;rcases zA.1 hr with rfl|hr
    ·intro e;unfold o6 at e;simp only [Va,yw,FV.int.injEq,true_and] at e;exact h e
    ·exact h3 row hr
theorem Rj {A:List (Int×Int)} (h:∀ p∈A,bU p.1):∀ row∈A.map o6,∀ kf,row.head? = some kf→XH Tryz.prog 3 kf:=fun row hr kf hk=>by
 obtain ⟨p,hp,rfl⟩:=zi.1 hr;unfold o6 at hk;simp only [Va,yw] at hk;subst hk;exact IF (h p hp)
def XG (l:List aq):Nat→List (Int×Int)
 | 0 => []
 | i+1 => if (nth l i).k=0 ∧ (nth l i).done=true ∧ ((nth l i).key, (nth l i).res) ∉ XG l i then XG l i ++ [((nth l i).key, (nth l i).res)] else XG l i
def zxA (p:Int×Int):List FV:=[UV p.1 p.2,.agg []]
def Ws (l:List aq) (i:Nat):List (List FV):=(XG l i).map zxA
theorem PQ {l:List aq} {a b:Int}:∀ {i:Nat},(a,b)∈XG l i↔∃ j,j<i∧(nth l j).k=0∧(nth l j).done=true∧(nth l j).key=a∧(nth l j).res=b
 | 0 => by simp [XG]
 | i + 1=>by
  unfold XG;have ih:=PQ (l:=l) (a:=a) (b:=b) (i:=i);constructor
  ·intro h;split at h
   ·rename_i hc;rcases zC.1 h with h|h
    ·obtain ⟨j,hj,q⟩:=ih.1 h;exact ⟨j,by omega,q⟩
    ·have h:=zq.1 h;injection h with h1 h2
     exact ⟨i,by omega,hc.1,hc.2.1,h1.symm,h2.symm⟩
   ·obtain ⟨j,hj,q⟩:=ih.1 h;exact ⟨j,by omega,q⟩
  ·rintro ⟨j,hj,q1,q2,q3,q4⟩;by_cases Be:j=i
   ·subst Be;rw [q3,q4];split
    ·simp
    ·rename_i hc;simp only [not_and,Lf] at hc;exact hc q1 q2
   ·have:=ih.2 ⟨j,by omega,q1,q2,q3,q4⟩;split
    ·exact xm _ this
    ·exact this
theorem zlW (hi:i≤l.length) (aP:∀ o∈l,Ue o):∀ row∈Ws l i,∀ kf,row.head? = some kf→XH Tryz.prog 100 kf:=fun row hr kf hk=>by
 obtain ⟨⟨a,b⟩,hp,rfl⟩:=zi.1 hr;obtain ⟨j,hj,_,_,h1,h2⟩:=PQ.1 hp;have ho:=aP _ (zu (show j<l.length by omega));injection hk with hk
 subst hk;exact qJ (by rw [← h1];exact ho.2.2.1) (by rw [← h2];exact ho.2.2.2.2.1)
theorem zv7 (l:List aq) (i:Nat) (a b:Int):lK (Ws l i) (UV a b) (.agg []) (.agg []) (decide ((a,b)∈XG l i)):=by
 by_cases h:(a,b)∈XG l i
 ·rw [decide_eq_true h];exact .inl ⟨rfl,zi.2 ⟨_,h,rfl⟩⟩
 ·rw [decide_eq_false h];refine .inr ⟨rfl,rfl,fun row hr e=>?_⟩;obtain ⟨p,hp,rfl⟩:=zi.1 hr;injection e with e
  obtain ⟨e1,e2⟩:=UD e;exact h (by rw [← e1,← e2];exact hp)
theorem zsU (h0:(nth l i).k=0) (h1:(nth l i).done=true):qg (Ws l i) (UV (nth l i).key (nth l i).res) (.agg []) (Ws l (i+1)):=by
 by_cases h:((nth l i).key,(nth l i).res)∈XG l i
 ·have e:Ws l (i+1)=Ws l i:=by unfold Ws;rw [show XG l (i+1)=XG l i from if_neg (fun q=>q.2.2 h)]
  have hm:zxA ((nth l i).key,(nth l i).res)∈Ws l i:=zi.2 ⟨_,h,rfl⟩;obtain ⟨j,hj,kr⟩:=zU hm;rw [e];refine .inl ⟨j,.agg [],by rw [xz hj,kr];rfl,?_⟩;apply Lh;intro q;rw [WH];by_cases hq:j=q
  ·subst hq;rw [if_pos rfl,if_pos hj,xz hj,kr];rfl
  ·rw [if_neg hq]
 ·refine .inr ⟨fun row hr e=>?_,?_⟩
  ·obtain ⟨p,hp,rfl⟩:=zi.1 hr;injection e with e
   obtain ⟨e1,e2⟩:=UD e;exact h (by rw [← e1,← e2];exact hp)
  ·unfold Ws;rw [show XG l (i+1)=XG l i++[((nth l i).key,(nth l i).res)] from if_pos ⟨h0,h1,h⟩,zF];rfl
theorem zqq (h:¬ ((nth l i).k=0∧(nth l i).done=true)):Ws l (i+1)=Ws l i:=by
 unfold Ws;rw [show XG l (i+1)=XG l i from if_neg (fun q=>h ⟨q.1,q.2.1⟩)]
theorem zng (l:List aq) (o:aq):decide ((o.key,o.arg)∈XG l l.length)=l.any (jJ o.key o.arg):=by
 rw [VM,decide_eq_true_iff,PQ,UY];constructor
 ·rintro ⟨j,hj,q1,q2,q3,q4⟩;exact ⟨j,hj,by unfold jJ;simp [q1,q2,q3,q4]⟩
 ·rintro ⟨j,hj,h⟩;unfold jJ at h;simp at h;exact ⟨j,hj,by simp [h],by simp [h],by simp [h],by simp [h]⟩
def yB (l:List aq) (i:Nat):List Nat:=(List.range i).filter (yC l)
theorem zpZ (l:List aq) (i:Nat):yB l (i+1)=yB l i++if yC l i=true then [i] else []:=by
 unfold yB;rw [yQ,ZT];congr 1;by_cases h:yC l i=true <;> simp [h]
theorem UB (l:List aq) (i:Nat):(yB l i).length≤i:=yc (xV _ _) zc
theorem YJ:Maps.Keyed Tryz.prog 3:=Maps.int_keyed (q:=.i64) zw
theorem WB {a:Int} (ha:bU a):XH Tryz.prog 3 (.int .i64 a):=⟨rfl,_,P8 (q:=.i64) zw (Cn ha)⟩
def lL (l:List aq) (X:List Nat) (p:Int):Option Nat:=X.reverse.find? fun k=>decide ((nth l k).p=p)
def xP (l:List aq) (X:List Nat) (i:Nat):Option Nat:=X.find? fun k=>decide (i<k) && decide ((nth l k).p=(nth l i).p)
theorem zp4 (l:List aq) (X:List Nat) (i:Nat) (p:Int):lL l (X++[i]) p=if (nth l i).p=p then some i else lL l X p:=by
 unfold lL;rw [List.reverse_append,List.reverse_singleton,List.singleton_append,Lj];by_cases h:(nth l i).p=p
 ·rw [if_pos h,decide_eq_true h]
 ·rw [if_neg h,decide_eq_false h]
theorem Kg (h:lL l X p=some k):k∈X∧(nth l k).p=p:=by
 have h1:=WF h;have h2:=YP h;exact ⟨by simpa using h2,by simpa using h1⟩
theorem zp3 (h:lL l X p=none):∀ k∈X,(nth l k).p≠p:=fun k hk=>by
 have:=xq.1 h k (by simpa using hk);simpa using this
theorem Qr (hX:X.Pairwise (· < ·)) (h:lL l X p=some k):∀ q∈X,(nth l q).p=p→q≤k:=fun q hq hp=>by
 unfold lL at h;rw [DC] at h;obtain ⟨_,ua,ub,e,hn⟩:=h;have mB:q∈X.reverse:=by simpa using hq
 rw [e] at mB;rcases zC.1 mB with h1|h1
 ·have:=hn q h1;simp [hp] at this
 ·rcases zA.1 h1 with rfl|h1
  ·exact zg _
  ·have hX2:=List.pairwise_reverse.2 (show X.Pairwise (fun a b=>a<b) from hX);have Tn:X.reverse.Pairwise fun a b=>b<a:=hX2;rw [e] at Tn;exact KD ((Vc.1 (Xq.1 Tn).2.1).1 q h1)
def e3 (l:List aq) (X:List Nat) (i:Nat):List (List FV):=(xP l X i).toList.map fun k:Nat=>[.int .i64 (k:Int),.int .i64 1]
theorem znn (hX:X.Pairwise (· < ·)) (hi:∀ k∈X,k<i) (hj:j∈X):xP l (X++[i]) j=if lL l X (nth l i).p=some j then some i else xP l X j:=by
 unfold xP;rw [List.find?_append];by_cases h:lL l X (nth l i).p=some j
 ·rw [if_pos h];obtain ⟨_,h2⟩:=Kg h;have h3:=Qr hX h;have:(X.find? fun k=>decide (j<k) && decide ((nth l k).p=(nth l j).p))=none:=by
   rw [xq];intro q hq;simp only [zx,decide_eq_true_eq,not_and];intro aA hp;have:=h3 q hq (hp.trans h2);omega
  rw [this,Option.none_or,Lj,decide_eq_true (hi j hj),decide_eq_true h2.symm];rfl
 ·rw [if_neg h];cases hf:X.find? fun k=>decide (j<k) && decide ((nth l k).p=(nth l j).p) with
  | some q => rfl
  | none=>
   rw [Option.none_or,Lj,decide_eq_true (hi j hj),yN];by_cases hp:(nth l i).p=(nth l j).p
   ·exfalso;cases hl:lL l X (nth l i).p with
    | none => exact zp3 hl j hj hp.symm
    | some k =>
     obtain ⟨h1,h2⟩:=Kg hl;have h3:=Qr hX hl j hj hp.symm;have aN:j≠k:=fun e=>h (by rw [e];exact hl);have:=xq.1 hf k h1;simp only [zx,decide_eq_true_eq,not_and] at this;exact this za (h2.trans hp)
   ·rw [decide_eq_false hp];rfl
theorem znm (hi:∀ k∈X,k<i):xP l (X++[i]) i=none:=by
 unfold xP;rw [xq];intro q hq;rcases zC.1 hq with h|h
 ·have:=hi q h;simp;omega
 ·rw [zq.1 h];simp
theorem Z9 (hX:X.Pairwise (· < ·)) (h:lL l X p=some j):xP l X j=none:=by
 unfold xP;rw [xq];intro q hq;simp only [zx,decide_eq_true_eq,not_and];intro aA hp;have:=Qr hX h q hq (hp.trans (Kg h).2);omega
theorem RQ (hX:X.Pairwise (· < ·)) (hi:∀ k∈X,k<i) (hj:j∈X):e3 l (X++[i]) j=if lL l X (nth l i).p=some j then e3 l X j++[[.int .i64 (i:Int),.int .i64 1]] else e3 l X j:=by
 unfold e3;rw [znn hX hi hj];by_cases h:lL l X (nth l i).p=some j
 ·rw [if_pos h,if_pos h,Z9 hX h];rfl
 ·rw [if_neg h,if_neg h]
theorem zrt (hi:∀ k∈X,k<i):e3 l (X++[i]) i=[]:=by
 unfold e3;rw [znm hi];rfl
def gM (X:List Nat) (j:Nat):FV:=if j∈X then .omap (1000+j) 0 else .bR
def gq (l:List aq) (X:List Nat) (j:Nat):zE:=if j∈X then ⟨0,.aC,64,0,e3 l X j⟩ else ⟨0,.own,64,1,[]⟩
theorem zlv (l:List aq) (i:Nat):(yB l i).Pairwise (· < ·):=List.Pairwise.filter _ Kz
theorem Xx (h:j∈yB l i):j<i:=by simpa using (zY.1 h).1
def e4 (l:List aq) (I Y:List Nat) (q:Nat):List (List FV):=e3 l I q++(Y.filter fun k=>decide (YF l k=some q∧xP l I q≠some k)).map fun k:Nat=>[.int .i64 (k:Int),.int .i64 2]
theorem zw4 (l:List aq) (I:List Nat) (q:Nat):e4 l I [] q=e3 l I q:=by unfold e4;simp
theorem Ie (l:List aq) (I Y:List Nat) (i q:Nat):e4 l I (Y++[i]) q=e4 l I Y q++if YF l i=some q∧xP l I q≠some i then [[.int .i64 (i:Int),.int .i64 2]] else []:=by
 unfold e4;rw [ZT,zF,yV];congr 2;by_cases h:YF l i=some q∧xP l I q≠some i
 ·rw [if_pos h,HW (by simpa using h)];rfl
 ·rw [if_neg h,HU (by simpa using h)];rfl
theorem Kh (h:xP l I q=some k):k∈I∧q<k∧(nth l k).p=(nth l q).p:=by
 have h1:=WF h;have h2:=YP h;simp only [zx,decide_eq_true_eq] at h1;exact ⟨h2,h1⟩
theorem zvs (hI:∀ k∈I,k<n) (hY:∀ k∈Y,k<n) (hn:n≤1000):∀ row∈e4 l I Y q,∀ kf,row.head? = some kf→XH Tryz.prog 3 kf:=fun row hr kf hk=>by
 have key:∀ k:Nat,k<n→XH Tryz.prog 3 (.int .i64 (k:Int)):=fun k hk=>WB (by unfold bU;omega);unfold e4 e3 at hr;rcases zC.1 hr with h|h
 ·obtain ⟨k,gl,rfl⟩:=zi.1 h;injection hk with hk;subst hk
  exact key k (hI k (Kh (by simpa using gl)).1)
 ·obtain ⟨k,gl,rfl⟩:=zi.1 h;injection hk with hk;subst hk
  exact key k (hY k (zY.1 gl).1)
theorem zru (h:xP l I q≠some i) (hY:∀ k∈Y,k<i):∀ row∈e4 l I Y q,row.head?≠some (.int .i64 (i:Int)):=fun row hr e=>by
 unfold e4 e3 at hr;rcases zC.1 hr with h1|h1
 ·obtain ⟨k,hk,rfl⟩:=zi.1 h1;simp only [Va,yw,FV.int.injEq,true_and] at e;have:k=i:=by omega
  subst this;exact h (by simpa using hk)
 ·obtain ⟨k,hk,rfl⟩:=zi.1 h1;simp only [Va,yw,FV.int.injEq,true_and] at e;have:=hY k (zY.1 hk).1;omega
theorem zvS (l:List aq) (hY:∀ k∈Y,k<i):lK (e4 l I Y q) (.int .i64 (i:Int)) (.int .i64 0) (.int .i64 (if xP l I q=some i then 1 else 0)) (decide (xP l I q=some i)):=by
 by_cases h:xP l I q=some i
 ·rw [if_pos h,decide_eq_true h];refine .inl ⟨rfl,?_⟩;unfold e4 e3;rw [h];exact xm _ zc
 ·rw [if_neg h,decide_eq_false h];exact .inr ⟨rfl,rfl,zru h hY⟩
def fI (l:List aq) (I Y:List Nat) (q:Nat):zE:=if q∈I then ⟨0,.aC,64,0,e4 l I Y q⟩ else ⟨0,.own,64,1,[]⟩
def IV (l:List aq) (I Y:List Nat) (q:Nat):FV:=if q∈I then .smap (e4 l I Y q) else .bR
def En (l:List aq) (I Y:List Nat) (n:Nat):FV:=.list 1 ((List.range n).map fun q=>[IV l I Y q])
inductive D9 (s:ah):List FV→List FV→Prop where
 | nil:D9 s [] []
 | cons {f g:FV} {fs gs:List FV} (h:Ui s f g) (ho:g.one=true) (hs:D9 s fs gs):D9 s (f :: fs) (g :: gs)
theorem D9.get {s:ah} {fs gs:List FV} (h:D9 s fs gs):fs.length=gs.length∧(∀ g∈gs,g.one=true)∧∀ (j:Nat) f g,fs[j]? = some f→gs[j]? = some g→Ui s f g:=by
 induction h with
 | nil => exact ⟨rfl, (fun g hg => by cases hg), fun j f g h1 => by simp at h1⟩
 | cons h ho hs ih=>
  obtain ⟨h1,h2,h3⟩:=ih;refine ⟨by simp [h1],fun g hg=>?_,fun j f g hf hg=>?_⟩
  ·rcases zA.1 hg with rfl|hg
   ·exact ho
   ·exact h2 g hg
  ·cases j with
   | zero => simp at hf hg; subst hf; subst hg; exact h
   | succ j => simp at hf hg; exact h3 j f g hf hg
theorem Ui.Hb {id:Nat} {r r' : List FV} (h:look {} ob id=⟨ae,.aj,E,sz,[r]⟩) (hz:r'.length=sz) (hv:D9 ⟨t,ob⟩ r r'):Ui ⟨t,ob⟩ (.ptr id ae 0 0) (.ax sz [r'] 0 0):=by
 have ho:(⟨t,ob⟩:ah).ob id=⟨ae,.aj,E,sz,[r]⟩:=h;obtain ⟨h1,h2,h3⟩:=hv.get;refine .ptr (yI ho zd) (by rw [ho];rfl) (by rw [ho]) (by rw [ho];rfl) (fun e he=>by rw [zq.1 he];exact hz) (fun g hg=>h2 g (by simpa using hg)) fun j f g hf hg=>?_;rw [ho] at hf;exact h3 j f g (by simpa using hf) (by simpa using hg)
theorem Ui.BO {id:Nat} (h:look {} ob id=⟨ae,.own,E,sz,es⟩) (hn:es.length=n) (hw:∀ e∈es,e.length=sz) (h1:∀ g∈es.flatten,g.one=true):Ui ⟨t,ob⟩ (.own id ae 0 n) (.list sz es):=by
 have ho:(⟨t,ob⟩:ah).ob id=⟨ae,.own,E,sz,es⟩:=h;refine .own (yI ho zd) (by rw [ho];rfl) (by rw [ho]) hn hw h1 fun j f g hf hg=>?_;rw [ho] at hf;dsimp only at hf;rw [Yl,zS za,hg] at hf;injection hf with hf
 subst hf;exact .plain (by have:=h1 g (zG hg);cases g <;> first|rfl|(simp [FV.one] at this))
theorem QE {c:Nat→FV}:((List.range n).map fun q=>[c q]).flatten=(List.range n).map c:=by
 induction List.range n with
 | nil => rfl
 | cons x L ih => simp [ih]
theorem Ui.Ha {id:Nat} {c c' : Nat→FV} (h:look {} ob id=⟨ae,.aj,E,1,(List.range n).map fun q=>[c q]⟩) (hv:∀ q,q<n→Ui ⟨t,ob⟩ (c q) (c' q)∧(c' q).one=true):Ui ⟨t,ob⟩ (.own id ae 0 n) (.list 1 ((List.range n).map fun q=>[c' q])):=by
 have ho:(⟨t,ob⟩:ah).ob id=⟨ae,.aj,E,1,(List.range n).map fun q=>[c q]⟩:=h;refine .own (yI ho zd) (by rw [ho];rfl) (by rw [ho]) zc (fun e he=>?_) (fun g hg=>?_) fun j f g hf hg=>?_
 ·obtain ⟨q,_,rfl⟩:=zi.1 he;rfl
 ·rw [QE] at hg;obtain ⟨q,hq,rfl⟩:=zi.1 hg;exact (hv q (zn.1 hq)).2
 ·rw [ho] at hf;dsimp only at hf;rw [Yl,zS zc,QE] at hf;rw [QE] at hg;rw [ye] at hf hg;cases hj:(List.range n)[j]? with
  | none => rw [hj] at hf; cases hf
  | some q =>
   rw [hj] at hf hg;injection hf with hf;injection hg with hg
   subst hf;subst hg;exact (hv q (zn.1 (zG hj))).1
theorem Ui.mM {id:Nat} (h:look {} ob id=⟨ae,.aC,E,sz,es⟩):Ui ⟨t,ob⟩ (.omap id ae) (.smap es):=by
 have ho:(⟨t,ob⟩:ah).ob id=⟨ae,.aC,E,sz,es⟩:=h;exact .omap (yI ho zd) (by rw [ho];rfl) (by rw [ho];exact fun e=>by cases e) (by rw [ho])
theorem aT.gh (h:aT ob):Mm ob=true:=zL.2 fun p hp=>by
 have h1:=h p hp;cases e:Nat.ble zm p.1 with
 | true => have := zO e; omega
 | false => rfl
end
end Go.Proofs.YtphidhljdcledaaGreat
