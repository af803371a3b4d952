/-
  Lemmas, in parts.
-/
import Derived.Test.YtphidhljdcledaaGreatZC
import Derived.Test.YtphidhljdcledaaGreatZD
import Derived.Test.YtphidhljdcledaaGreatZA
namespace Go.Proofs.YtphidhljdcledaaGreat
set_option linter.unusedVariables false
set_option maxHeartbeats 16000000
variable {B N i j n st sz u v w:Nat} {f:Nat→zE} {s:List Int×List Int} {vo:Nat→Nat} {C ob:List (Nat×zE)} {M M0:List bJ} {t t' : List (Nat×FV)} {α:Type} {E:List (Nat×Nat)} {x:Int} {rows:List (List Int)}
section
open Go.RowKit
def Im (k:Nat):Nat→List (Nat×zE)
 | 0 => []
 | m+1 => (k, {}) :: Im (k+1) m
def Xk (N:Nat):List (Nat×zE):=Im 0 N
def VT (B n:Nat) (f:Nat→zE):List (Nat×zE):=(List.range n).map fun v=>(B+v,f v)
theorem Yz {α:Type} {d:α}:∀ {l m:List (Nat×α)} {k:Nat},look d (l++m) k=if l.any (fun p=>Nat.beq p.1 k) then look d l k else look d m k
 | [], m, k => by simp
 | p::l,m,k=>by
  obtain ⟨i,x⟩:=p;rw [HS,zI,zI,Yz,Dz];by_cases h:i=k
  ·subst h;simp
  ·have:Nat.beq i k=false:=by
    cases hb:Nat.beq i k with
    | true => exact absurd (ZF hb) h
    | false => rfl
   simp only [if_neg h,this,ZR]
theorem ziO {p:Nat×zE}:∀ {m k:Nat},p∈Im k m→p.1<k+m
 | 0, _, h => by cases h
 | m+1, k, h => by
  rcases zA.1 h with rfl|h
  ·show k<k+(m+1);omega
  ·have:=ziO h;omega
theorem zlI {k:Nat} {l:List (Nat×zE)}:∀ {m q:Nat},look {} (Im q m++l) k=if q≤k∧k<q+m then {} else look {} l k
 | 0, q => by rw [if_neg za]; rfl
 | m+1,q=>by
  show look ({}:zE) ((q,{})::(Im (q+1) m++l)) k=_;rw [zI,zlI];by_cases h:q=k
  ·subst h;simp
  ·rw [if_neg h];by_cases h2:q+1≤k∧k<q+1+m
   ·rw [if_pos h2,if_pos za]
   ·rw [if_neg h2,if_neg za]
theorem Rg {k:Nat} {l:List (Nat×zE)}:look {} (Xk N++l) k=if k<N then {} else look {} l k:=by
 unfold Xk;rw [zlI];simp
theorem Ia {k:Nat}:look {} (VT B n f) k=if B≤k∧k<B+n then f (k - B) else {}:=by
 have key:∀ (L:List Nat),L.Nodup→look ({}:zE) (L.map fun v=>(B+v,f v)) k=if ∃ v∈L,B+v=k then f (k - B) else {}:=by
  intro L
  induction L with
  | nil => intro _; simp [look]
  | cons x L ih=>
   intro hn;rw [yp] at hn;rw [zZ,zI,ih hn.2];by_cases h:B+x=k
   ·rw [if_pos h,if_pos ⟨x,by simp,h⟩,show k - B=x by omega]
   ·rw [if_neg h];by_cases h2:∃ v∈L,B+v=k
    ·rw [if_pos h2,if_pos (let ⟨v,h3,h4⟩:=h2;⟨v,by simp [h3],h4⟩)]
    ·rw [if_neg h2,if_neg];rintro ⟨v,hv,e⟩;rcases zA.1 hv with rfl|hv
     ·exact h e
     ·exact h2 ⟨v,hv,e⟩
 unfold VT;rw [key _ Wd];by_cases h:B≤k∧k<B+n
 ·rw [if_pos h,if_pos ⟨k - B,zn.2 za,by omega⟩]
 ·rw [if_neg h,if_neg];rintro ⟨v,hv,e⟩;have:=zn.1 hv;omega
def kF (B n:Nat) (s:Nat→Option Nat) (vo:Nat→Nat) (f:Nat→zE):List bJ:=(List.range n).map fun j=>⟨B+j,s j,vo j,f j⟩
theorem xv {s:Nat→Option Nat} (h:j<n):(⟨B+j,s j,vo j,f j⟩:bJ)∈kF B n s vo f:=zi.2 ⟨j,zn.2 h,rfl⟩
theorem zum (B n:Nat) (s:Nat→Option Nat) (vo:Nat→Nat) (f:Nat→zE):((kF B n s vo f).map fun e=>(e.new,e.b))=VT B n f:=by
 unfold kF VT;rw [xb];rfl
def Me (ob:List (Nat×zE)) (s:Option Nat) (vo:Nat) (b:zE):Prop:=(s=none∧b.ao=.own∧b.es=[])∨∃ i,s=some i∧look {} ob i=⟨vo,b.ao,b.E,b.sz,b.es⟩∧b.ao.plain=true
theorem Zu.dH {L:List Nat} {s:Nat→Option Nat} (h:∀ j∈L,Me ob (s j) (vo j) (f j)):Zu ob M0 (L.map fun j=>(⟨B+j,s j,vo j,f j⟩:bJ)):=by
 induction L with
 | nil => exact .nil
 | cons j L ih =>
  have hj:=h j zc;have V0:=ih fun k hk=>h k (by simp [hk]);rw [zZ];generalize s j=sj at hj;generalize f j=b at hj;obtain ⟨v,l,E,sz,es⟩:=b;rcases hj with ⟨rfl,h1,h2⟩|⟨i,rfl,h1,h2⟩
  ·dsimp only at h1 h2;subst h1;subst h2;exact .new V0
  ·exact .bL h1 h2 rfl V0
theorem Zu.append {M1 M2:List bJ} (h1:Zu ob M0 M1) (h2:Zu ob M0 M2):Zu ob M0 (M1++M2):=by
 induction h1 with
 | nil => exact h2
 | bL h hl e _ ih => exact .bL h hl e ih
 | new _ ih => exact .new ih
 | cP h e _ ih => exact .cP h e ih
 | eA h e _ ih => exact .eA h e ih
 | og h e _ ih => exact .og h e ih
theorem kj.all {ob:List (Nat×zE)}:∀ {M:List bJ},(∀ q∈M,q.new<zm)→kj ob M
 | [], _ => .nil
 | q ::M,h=>.low (by
     have:=h q zc;cases hb:Nat.ble zm q.new with
     | false => rfl
     | true => have := zO hb; omega) (kj.all fun p hp => h p (by simp [hp]))
theorem Rb (h:∀ p∈ob,p.1<zm):Mm ob=true:=zL.2 fun p hp=>by
 have:=h p hp;cases hb:Nat.ble zm p.1 with
 | false => rfl
 | true => have := zO hb; omega
theorem ar.ext {aM : List (Nat×zE)} (h:∀ k,look {} aM k=look {} ob k):ar ⟨t,ob⟩ ⟨t,aM⟩:=fun _ _ _ _ _ β hF=>⟨β,hF.ext (fun _=>rfl) h⟩
theorem ar.pad (h:N≤B):ar ⟨t,C++VT B n f⟩ ⟨t,C++(Xk N++VT B n f)⟩:=by
 refine ar.ext fun k=>?_;rw [Yz,Yz (l:=C) (m:=VT B n f),Rg];split
 ·rfl
 ·split
  ·rw [Ia,if_neg za]
  ·rfl
theorem ar.ra (C:List bJ) (N B n:Nat) (s:Nat→Option Nat) (vo:Nat→Nat) (f:Nat→zE) (hNB:N≤B) (CO:B+n≤zm) (iV:C.all (fun q=>Nat.blt q.new B)=true) (re:(C.map bJ.new).Nodup)
  (GG:(C.filterMap bJ.src++(List.range n).filterMap s).Nodup) (cE:∀ p∈ob,p.1<zm) (hf:∀ j,j<n→Me ob (s j) (vo j) (f j)) (hC:Zu ob (C++kF B n s vo f) C) (ht:m5 t (C++kF B n s vo f) t') :
  ar ⟨t,ob⟩ ⟨t',(C.map fun e=>(e.new,e.b))++(Xk N++VT B n f)⟩:=by
 have aA:∀ q∈C,q.new<B:=fun q hq=>zO (zL.1 iV q hq);refine ar.trans ?_ (ar.pad hNB);rw [← zum B n s vo f,← zF];refine ar.conv (C++kF B n s vo f) ?_ ?_ (QK (Rb cE) _) (kj.all fun q hq=>?_) (hC.append (Zu.dH fun j hj=>hf j (zn.1 hj))) ht
 ·rw [zF];refine xX.2 ⟨re,?_,fun a ha b hb=>?_⟩
  ·unfold kF;rw [xb];exact List.Pairwise.map _ (fun a b (eX:a≠b)=>by show B+a≠B+b;omega) Wd
  ·obtain ⟨q,hq,rfl⟩:=zi.1 ha;obtain ⟨p,hp,rfl⟩:=zi.1 hb;obtain ⟨j,hj,rfl⟩:=zi.1 hp;have:=aA q hq;dsimp only;omega
 ·rw [List.filterMap_append];unfold kF;rw [List.filterMap_map];exact GG
 ·rcases zC.1 hq with hq|hq
  ·have:=aA q hq;omega
  ·obtain ⟨j,hj,rfl⟩:=zi.1 hq;have:=zn.1 hj;show B+j<zm;omega
theorem gp.of:∀ {n:Nat} {c c' : Nat→FV},(∀ j,j<n→iI M (c j) (c' j))→gp M ((List.range n).map fun j=>[c j]) ((List.range n).map fun j=>[c' j]):=by
 intro n c c' h;have key:∀ L:List Nat,(∀ j∈L,iI M (c j) (c' j))→gp M (L.map fun j=>[c j]) (L.map fun j=>[c' j]):=by
  intro L
  induction L with
  | nil => intro _; exact .nil
  | cons x L ih => intro h; exact .cons (h x zc) (ih fun j hj => h j (by simp [hj]))
 exact key _ fun j hj=>h j (zn.1 hj)
theorem eU.of {c c' : Nat→List FV} (hl:∀ j,j<n→(c' j).length=sz) (h:∀ j,j<n→Ys M (c j) (c' j)):eU M sz ((List.range n).map c) ((List.range n).map c'):=by
 have key:∀ L:List Nat,(∀ j∈L,(c' j).length=sz)→(∀ j∈L,Ys M (c j) (c' j))→eU M sz (L.map c) (L.map c'):=by
  intro L
  induction L with
  | nil => intro _ _; exact .nil
  | cons x L ih => intro hl h; exact .cons (h x zc) (hl x zc) (ih (fun j hj => hl j (by simp [hj])) fun j hj => h j (by simp [hj]))
 exact key _ (fun j hj=>hl j (zn.1 hj)) fun j hj=>h j (zn.1 hj)
theorem Vw (n v:Nat) (f:Nat→α) (x:α):((List.range n).map f).set v x=(List.range n).map fun j=>if j=v then x else f j:=by
 apply BZ
 ·simp
 ·intro i h1 h2;rw [Hx,Xu,Xu,Ql];by_cases h:v=i
  ·subst h;simp
  ·rw [if_neg h,if_neg (fun e=>h e.symm)]
theorem KW {w:World} {base:Nat} {I I' : Nat→Prop} {aZ:Option Nat} {ob:zE} {u:Value} {o:Nat} (hg:fh w aZ ob u o n) (hr:CE w base I aZ ob) (hb:∀ b,aZ=some b→I' b) (hI:∀ b,I b→I' b):Rd w I' u (.list ob.sz ((ob.es.drop o).take n)):=by
 obtain ⟨A,cc,rfl,e2,e3,e4,e5⟩:=hg.ex;have hw:=hr.wide;have bQ:=hr.one;have k6:∀ e∈ob.es.drop o,e.length=ob.sz:=fun e he=>hw e (Zv he);have hlen:((ob.es.drop o).take n).length=n:=by simp;omega
 have cu:((ob.es.drop o).take n).flatten=(ob.es.flatten.drop (o * ob.sz)).take (n * ob.sz):=by rw [Wq _ k6,Xl _ hw]
 have mA : ∀ f∈((ob.es.drop o).take n).flatten,f.one=true:=fun f hf=>by rw [cu] at hf;exact bQ f (Zv (xn hf))
 cases ff:aZ with
 | none =>
  obtain ⟨rfl,rfl⟩:=e4 ff;obtain rfl:n=0:=by omega
  exact .list none 0 0 _ _ [] zc (zg _) zc zc zc zc zc
 | some b=>
  obtain ⟨o',rfl,k2,k3⟩:=e5 b ff;obtain ⟨v',us,r1,r2,r3⟩:=hr.row;have hR:aS w I' ((us.drop (o * ob.sz)).take (n * ob.sz)) ((ob.es.drop o).take n).flatten:=by
   rw [cu];exact ((r3.mono fun b hb=>⟨hI b hb,rfl⟩).drop _).take _
  refine .list _ n cc ob.sz _ _ hlen e2 (fun e he=>k6 e (xn he)) mA (fun h0=>⟨b,o',rfl,hb b ff,fun j u hu=>?_⟩) hR.1 hR.2;have:=k2 (.inl za);subst this;rw [xG] at hu;split at hu
  ·rw [YE] at hu;have aI:=r1.cells (g:=b) (by rw [r2];exact ff) _ u hu;rwa [ZD,yh] at aI
  ·cases hu
theorem ar.deep (id B n:Nat) {E2 E:Nat} (vs:Nat→Nat) (es:Nat→List (List FV)) (h:look {} ob id=⟨w,.aj,E2,1,(List.range n).map fun j=>[.own (B+j) (vs j) 0 (es j).length]⟩)
  (hf:∀ j,j<n→look {} ob (B+j)=⟨vs j,.own,E,sz,es j⟩) (hid:id<B):ar ⟨t,ob⟩ ⟨t,(id,⟨w,.own,E2,1,(List.range n).map fun j=>[.list sz (es j)]⟩)::(VT B n (fun j=>⟨vs j,.dead,E,sz,es j⟩)++ob)⟩:=by
 intro N w0 J a wd β hF;refine ⟨β,?_⟩;have ho:(⟨t,ob⟩:ah).ob id=⟨w,.aj,E2,1,(List.range n).map fun j=>[.own (B+j) (vs j) 0 (es j).length]⟩:=h;have au:((⟨t,ob⟩:ah).ob id).ao≠.dead:=by rw [ho];exact (by decide:Zn.aj≠.dead)
 obtain ⟨s',fE⟩:∃ s' : ah,s'=⟨t,(id,⟨w,.own,E2,1,(List.range n).map fun j=>[.list sz (es j)]⟩)::(VT B n (fun j=>⟨vs j,.dead,E,sz,es j⟩)++ob)⟩:=⟨_,rfl⟩
 rw [← fE];have aR:∀ k,s'.ob k=if id=k then ⟨w,.own,E2,1,(List.range n).map fun j=>[.list sz (es j)]⟩ else if B≤k∧k<B+n then ⟨vs (k - B),.dead,E,sz,es (k - B)⟩ else (⟨t,ob⟩:ah).ob k:=fun k=>by
  rw [fE];show look ({}:zE) _ k=_;rw [zI];split
  ·rfl
  ·rw [Yz];have AM:(VT B n (fun j=>(⟨vs j,.dead,E,sz,es j⟩:zE))).any (fun p=>Nat.beq p.1 k)=decide (B≤k∧k<B+n):=by
    rw [VM,Yk,decide_eq_true_eq];constructor
    ·rintro ⟨p,hp,e⟩;obtain ⟨j,hj,rfl⟩:=zi.1 hp;have h1:=ZF e;have h2:=zn.1 hj;dsimp only at h1;omega
    ·intro hk;exact ⟨(k,_),zi.2 ⟨k - B,zn.2 za,by rw [show B+(k - B)=k by omega]⟩,Up k⟩
   rw [AM,Ia];by_cases hk:B≤k∧k<B+n
   ·rw [decide_eq_true hk,if_pos rfl,if_pos hk,if_pos hk]
   ·rw [decide_eq_false hk,if_neg zd,if_neg hk];rfl
 have df:∀ k,(s'.ob k).ao≠.dead→((⟨t,ob⟩:ah).ob k).ao≠.dead:=fun k hl=>by
  rw [aR] at hl;split at hl
  ·rename_i e;subst e;exact au
  ·split at hl
   ·exact absurd rfl hl
   ·exact hl
 have eS:∀ k,(s'.ob k).ao.cT=true→((⟨t,ob⟩:ah).ob k).ao.cT=true:=fun k hl=>by
  rw [aR] at hl;split at hl
  ·rename_i e;subst e;rw [ho];rfl
  ·split at hl
   ·cases hl
   ·exact hl
 have hI:∀ b,aF J wd β ⟨t,ob⟩ b→aF J wd β s' b:=fun b hb=>⟨hb.1,hb.2.1,fun k hl=>hb.2.2 k (eS k hl)⟩
 have aK:∀ k,(s'.ob k).ae=((⟨t,ob⟩:ah).ob k).ae:=fun k=>by
  rw [aR];split
  ·rename_i e;subst e;rw [ho]
  ·split
   ·rename_i hk;have:=hf (k - B) za;rw [show B+(k - B)=k by omega] at this;have e:(⟨t,ob⟩:ah).ob k=look ({}:zE) ob k:=rfl;rw [e,this]
   ·rfl
 refine hF.step (C:=fun k=>k=id∨(B≤k∧k<B+n)) hF.size hF.defers hF.bB (fun b hb=>⟨hI b hb,rfl⟩) (fun k=>.inl ⟨rfl,by rw [fE];rfl⟩) (fun k hC=>?_) (fun k _=>Ur (aK k).symm) (fun k hC hl _=>?_) (fun k hC hl T=>?_) (fun k k' b hl bn e e'=>hF.inj k k' b (df k hl) (df k' bn) e e') (fun b _ hn=>⟨rfl,fun k hl=>hn k (df k hl)⟩)
 ·refine ⟨?_,rfl,fun _ _ _=>rfl⟩;rw [aR,if_neg (fun e=>hC (.inl e.symm)),if_neg (fun e=>hC (.inr e))]
 ·rcases hC with rfl|hC
  ·refine ⟨au,rfl,by rw [aR,if_pos rfl,ho],by rw [aR,if_pos rfl,ho];rfl,fun v o m hv=>?_⟩;rw [ho] at hv;obtain ⟨A,c,k1,k2,k3,k4,k5⟩:=hv.ex;rw [aR,if_pos rfl];exact ⟨rfl,A,c,k1,k2,by simpa using k3,k4,k5⟩
  ·exfalso;rw [aR,if_neg za,if_pos hC] at hl;exact hl rfl
 ·rcases hC with rfl|hC
  ·rw [aR,if_pos rfl];have hH:=(hF.obj k au).eB (by rw [ho];rfl) (by rw [ho];rfl);rw [ho] at hH;obtain ⟨v,us,r1,r2,r3,r4⟩:=hH.row;dsimp only at r1 r3 r4;have cu:∀ (g:Nat→FV),((List.range n).map fun j=>[g j]).flatten=(List.range n).map g:=fun g=>by
    generalize List.range n=L
    induction L with
    | nil => rfl
    | cons x L ih => simp [ih]
   rw [cu] at r3 r4;refine .ofRow ⟨fun e he=>?_,fun f bS=>?_,v,us,?_,r2,?_,fun j u f hu eh=>?_⟩ (.own rfl) rfl
   ·obtain ⟨j,_,rfl⟩:=zi.1 he;rfl
   ·dsimp only at bS;rw [cu] at bS;obtain ⟨j,_,rfl⟩:=zi.1 bS;rfl
   ·dsimp only;rw [zj] at r1 ⊢;exact r1
   ·dsimp only;rw [cu,zj] at *;exact r3
   ·dsimp only at eh;rw [cu] at eh;have gj:j<n:=by have:=(yq.1 eh).1;simpa using this
    rw [ye,Ll gj] at eh;injection eh with eh
    subst eh;have hv:=r4 j u _ hu (by rw [ye,Ll gj];rfl);have nP:(⟨t,ob⟩:ah).ob (B+j)=⟨vs j,.own,E,sz,es j⟩:=hf j gj;have uG:((⟨t,ob⟩:ah).ob (B+j)).ao≠.dead:=by rw [nP];exact (by decide:Zn.own≠.dead)
    have rL:=hv uG (by rw [nP]);have hO:=hF.obj (B+j) uG;have qB:=hO.bM (by rw [nP];rfl);have:=KW (I':=aF J wd β s') rL qB (fun b hb=>?_) hI
    ·rw [nP] at this;dsimp only at this;rwa [Yl,yy] at this
    ·have aA:=hO.lt hb;refine ⟨aA.2,hF.fresh b aA.1 (.inr ⟨_,uG,hb⟩),fun k' bn e=>?_⟩;have:=hF.inj (B+j) k' b uG (df k' (Zn.bc bn)) hb e;subst this;rw [aR,if_neg za,if_pos ⟨by omega,by omega⟩] at bn;cases bn
  ·exfalso;rw [aR,if_neg za,if_pos hC] at hl;exact hl rfl
theorem zmU {q:Nat} {pre:Nat→List FV} {vs:Nat→Nat} {es:Nat→List (List FV)} (hq:∀ j,j<n→(pre j).length=q∧(pre j).all FV.one=true) :
  ∀ (i:Nat) f f',((List.range n).map fun j=>pre j++[FV.own (B+j) (vs j) 0 (es j).length]).flatten[i]? = some f→((List.range n).map fun j=>pre j++[FV.list sz (es j)]).flatten[i]? = some f'→
   (f=f'∧f.one=true)∨∃ j,j<n∧f=.own (B+j) (vs j) 0 (es j).length∧f'=.list sz (es j):=by
 have key:∀ (L:List Nat),(∀ j∈L,j<n)→∀ (i:Nat) f f',(L.map fun j=>pre j++[FV.own (B+j) (vs j) 0 (es j).length]).flatten[i]? = some f→(L.map fun j=>pre j++[FV.list sz (es j)]).flatten[i]? = some f'→
   (f=f'∧f.one=true)∨∃ j,j<n∧f=.own (B+j) (vs j) 0 (es j).length∧f'=.list sz (es j):=by
  intro L
  induction L with
  | nil => intro _ i f f' h; simp at h
  | cons x L ih=>
   intro hL i f f' h h';rw [zZ,xF,yV] at h h';have hx:=hq x (hL x zc);rcases yg i (pre x).length with hi|hi
   ·rw [xO hi] at h h';rw [h] at h';injection h' with h'
    exact .inl ⟨h',zL.1 hx.2 f (zG h)⟩
   ·rw [Zd hi] at h h';generalize i - (pre x).length=k at h h';cases k with
    | zero =>
     simp at h h';exact .inr ⟨x,hL x zc,h.symm,h'.symm⟩
    | succ k =>
     exact ih (fun j hj=>hL j (by simp [hj])) k f f' (by simpa using h) (by simpa using h')
 exact key _ fun j hj=>zn.1 hj
theorem ar.EI (id B n q:Nat) {E2 E:Nat} (pre:Nat→List FV) (hq:∀ j,j<n→(pre j).length=q∧(pre j).all FV.one=true) (vs:Nat→Nat) (es:Nat→List (List FV)) (h:look {} ob id=⟨w,.aj,E2,q+1,(List.range n).map fun j=>pre j++[.own (B+j) (vs j) 0 (es j).length]⟩)
  (hf:∀ j,j<n→look {} ob (B+j)=⟨vs j,.own,E,sz,es j⟩) (hid:id<B):ar ⟨t,ob⟩ ⟨t,(id,⟨w,.own,E2,q+1,(List.range n).map fun j=>pre j++[.list sz (es j)]⟩)::(VT B n (fun j=>⟨vs j,.dead,E,sz,es j⟩)++ob)⟩:=by
 intro N w0 J a wd β hF;refine ⟨β,?_⟩;have ho:(⟨t,ob⟩:ah).ob id=⟨w,.aj,E2,q+1,(List.range n).map fun j=>pre j++[.own (B+j) (vs j) 0 (es j).length]⟩:=h;have au:((⟨t,ob⟩:ah).ob id).ao≠.dead:=by rw [ho];exact (by decide:Zn.aj≠.dead)
 obtain ⟨s',fE⟩:∃ s' : ah,s'=⟨t,(id,⟨w,.own,E2,q+1,(List.range n).map fun j=>pre j++[.list sz (es j)]⟩)::(VT B n (fun j=>⟨vs j,.dead,E,sz,es j⟩)++ob)⟩:=⟨_,rfl⟩
 rw [← fE];have aR:∀ k,s'.ob k=if id=k then ⟨w,.own,E2,q+1,(List.range n).map fun j=>pre j++[.list sz (es j)]⟩ else if B≤k∧k<B+n then ⟨vs (k - B),.dead,E,sz,es (k - B)⟩ else (⟨t,ob⟩:ah).ob k:=fun k=>by
  rw [fE];show look ({}:zE) _ k=_;rw [zI];split
  ·rfl
  ·rw [Yz];have AM:(VT B n (fun j=>(⟨vs j,.dead,E,sz,es j⟩:zE))).any (fun p=>Nat.beq p.1 k)=decide (B≤k∧k<B+n):=by
    rw [VM,Yk,decide_eq_true_eq];constructor
    ·rintro ⟨p,hp,e⟩;obtain ⟨j,hj,rfl⟩:=zi.1 hp;have h1:=ZF e;have h2:=zn.1 hj;dsimp only at h1;omega
    ·intro hk;exact ⟨(k,_),zi.2 ⟨k - B,zn.2 za,by rw [show B+(k - B)=k by omega]⟩,Up k⟩
   rw [AM,Ia];by_cases hk:B≤k∧k<B+n
   ·rw [decide_eq_true hk,if_pos rfl,if_pos hk,if_pos hk]
   ·rw [decide_eq_false hk,if_neg zd,if_neg hk];rfl
 have df:∀ k,(s'.ob k).ao≠.dead→((⟨t,ob⟩:ah).ob k).ao≠.dead:=fun k hl=>by
  rw [aR] at hl;split at hl
  ·rename_i e;subst e;exact au
  ·split at hl
   ·exact absurd rfl hl
   ·exact hl
 have eS:∀ k,(s'.ob k).ao.cT=true→((⟨t,ob⟩:ah).ob k).ao.cT=true:=fun k hl=>by
  rw [aR] at hl;split at hl
  ·rename_i e;subst e;rw [ho];rfl
  ·split at hl
   ·cases hl
   ·exact hl
 have hI:∀ b,aF J wd β ⟨t,ob⟩ b→aF J wd β s' b:=fun b hb=>⟨hb.1,hb.2.1,fun k hl=>hb.2.2 k (eS k hl)⟩
 have aK:∀ k,(s'.ob k).ae=((⟨t,ob⟩:ah).ob k).ae:=fun k=>by
  rw [aR];split
  ·rename_i e;subst e;rw [ho]
  ·split
   ·rename_i hk;have:=hf (k - B) za;rw [show B+(k - B)=k by omega] at this;have e:(⟨t,ob⟩:ah).ob k=look ({}:zE) ob k:=rfl;rw [e,this]
   ·rfl
 refine hF.step (C:=fun k=>k=id∨(B≤k∧k<B+n)) hF.size hF.defers hF.bB (fun b hb=>⟨hI b hb,rfl⟩) (fun k=>.inl ⟨rfl,by rw [fE];rfl⟩) (fun k hC=>?_) (fun k _=>Ur (aK k).symm) (fun k hC hl _=>?_) (fun k hC hl T=>?_) (fun k k' b hl bn e e'=>hF.inj k k' b (df k hl) (df k' bn) e e') (fun b _ hn=>⟨rfl,fun k hl=>hn k (df k hl)⟩)
 ·refine ⟨?_,rfl,fun _ _ _=>rfl⟩;rw [aR,if_neg (fun e=>hC (.inl e.symm)),if_neg (fun e=>hC (.inr e))]
 ·rcases hC with rfl|hC
  ·refine ⟨au,rfl,by rw [aR,if_pos rfl,ho],by rw [aR,if_pos rfl,ho];rfl,fun v o m hv=>?_⟩;rw [ho] at hv;obtain ⟨A,c,k1,k2,k3,k4,k5⟩:=hv.ex;rw [aR,if_pos rfl];exact ⟨rfl,A,c,k1,k2,by simpa using k3,k4,k5⟩
  ·exfalso;rw [aR,if_neg za,if_pos hC] at hl;exact hl rfl
 ·rcases hC with rfl|hC
  ·rw [aR,if_pos rfl];have hH:=(hF.obj k au).eB (by rw [ho];rfl) (by rw [ho];rfl);rw [ho] at hH;obtain ⟨v,us,r1,r2,r3,r4⟩:=hH.row;dsimp only at r1 r3 r4;have AS:=zmU (B:=B) (sz:=sz) (vs:=vs) (es:=es) hq;have nL:∀ g:Nat→FV,((List.range n).map fun j=>pre j++[g j]).flatten.length=n * (q+1):=fun g=>by
    rw [xD (sz:=q+1),zj,YN];intro e he;obtain ⟨j,hj,rfl⟩:=zi.1 he;rw [zN,(hq j (zn.1 hj)).1];rfl
   rw [nL] at r3;refine .ofRow ⟨fun e he=>?_,fun f bS=>?_,v,us,?_,r2,?_,fun j u f hu eh=>?_⟩ (.own rfl) rfl
   ·obtain ⟨j,hj,rfl⟩:=zi.1 he;rw [zN,(hq j (zn.1 hj)).1];rfl
   ·dsimp only at bS;obtain ⟨e,he,bS⟩:=yJ.1 bS;obtain ⟨j,hj,rfl⟩:=zi.1 he;rcases zC.1 bS with bS|bS
    ·exact zL.1 (hq j (zn.1 hj)).2 f bS
    ·rw [zq.1 bS];rfl
   ·dsimp only;rw [zj] at r1 ⊢;exact r1
   ·dsimp only;rw [nL];exact r3
   ·dsimp only at eh;have vW:j<us.length:=(yq.1 hu).1;have pC:j<((List.range n).map fun j=>pre j++[FV.own (B+j) (vs j) 0 (es j).length]).flatten.length:=by rw [nL,← r3];exact vW
    have AY:=xz pC;have hv:=r4 j u _ hu AY;rcases AS j _ _ AY eh with ⟨e1,e2⟩|⟨i,gj,e1,e2⟩
    ·rw [e1] at hv;rw [e1] at e2;have hn:f.hand=none:=by cases f <;> first|rfl|(simp [FV.one] at e2)
     exact (VR.rd hv hn).mono fun b hb=>⟨hI b hb,rfl⟩
    subst e2;rw [e1] at hv;clear eh AY e1 pC vW;obtain ⟨j,hj⟩:∃ j,j=i:=⟨i,rfl⟩
    rw [← hj] at gj hv ⊢;clear hj;have nP:(⟨t,ob⟩:ah).ob (B+j)=⟨vs j,.own,E,sz,es j⟩:=hf j gj;have uG:((⟨t,ob⟩:ah).ob (B+j)).ao≠.dead:=by rw [nP];exact (by decide:Zn.own≠.dead)
    have rL:=hv uG (by rw [nP]);have hO:=hF.obj (B+j) uG;have qB:=hO.bM (by rw [nP];rfl);have:=KW (I':=aF J wd β s') rL qB (fun b hb=>?_) hI
    ·rw [nP] at this;dsimp only at this;rwa [Yl,yy] at this
    ·have aA:=hO.lt hb;refine ⟨aA.2,hF.fresh b aA.1 (.inr ⟨_,uG,hb⟩),fun k' bn e=>?_⟩;have:=hF.inj (B+j) k' b uG (df k' (Zn.bc bn)) hb e;subst this;rw [aR,if_neg za,if_pos ⟨by omega,by omega⟩] at bn;cases bn
  ·exfalso;rw [aR,if_neg za,if_pos hC] at hl;exact hl rfl
theorem zxb (h1:∀ p∈C,p.1<zm) (h2:N≤zm) (h3:B+n≤zm):∀ p∈C++(Xk N++VT B n f),p.1<zm:=by
 intro p hp;rcases zC.1 hp with hp|hp
 ·exact h1 p hp
 ·rcases zC.1 hp with hp|hp
  ·have:=ziO hp;omega
  ·obtain ⟨j,hj,rfl⟩:=zi.1 hp;have:=zn.1 hj;show B+j<zm;omega
theorem yb (hC:C.all (fun p=>Nat.blt p.1 B)=true) (hN:N≤B) (hj:j<n):look {} (C++(Xk N++VT B n f)) (B+j)=f j:=by
 rw [Yz,Rg,Ia,if_neg,if_neg za,if_pos ⟨by omega,by omega⟩,Nat.add_sub_cancel_left];intro h;obtain ⟨p,hp,e⟩:=Yk.1 h;have h1:=zO (zL.1 hC p hp);have h2:=ZF e;omega
theorem KU (n:Nat) (x:α):List.replicate n x=(List.range n).map fun _=>x:=by
 apply BZ
 ·simp
 ·intro i h1 h2;simp
theorem xR (n v:Nat) (f:Nat→α) (h:v<n):((List.range n).map f)[v]? = some (f v):=by
 rw [ye,Ll h];rfl
def aT (ob:List (Nat×zE)):Prop:=∀ p∈ob,p.1<zm
theorem aT.nil:aT []:=fun p hp=>by cases hp
theorem aT.cons {i:Nat} {b:zE} {l:List (Nat×zE)} (h:Nat.blt i zm=true) (hl:aT l):aT ((i,b)::l):=fun p hp=>by
 rcases zA.1 hp with rfl|hp
 ·exact zO h
 ·exact hl p hp
theorem aT.dH (h1:Nat.ble N zm=true) (h2:B+n≤zm):aT (Xk N++VT B n f):=by
 have:=zxb (C:=[]) (N:=N) (f:=f) zc (zO h1) h2;exact fun p hp=>this p hp
theorem zk9 (n a B:Nat) (x:Option Nat) (l:List Nat) (h1:(l++x.toList).Nodup) (h2:∀ i∈l++x.toList,i<B∨i=B+a):(l++(List.range n).filterMap fun j=>if j=a then x else some (B+j)).Nodup:=by
 have hx:∀ i,x=some i→i∉l:=fun i hi hl=>by
  rw [hi] at h1;exact (xX.1 h1).2.2 i hl i zc rfl
 refine xX.2 ⟨(xX.1 h1).1,?_,fun i hi k hk e=>?_⟩
 ·refine List.Pairwise.filterMap _ (R:=(·≠·)) (fun j j' TH i hi i' jU e=>?_) Wd;subst e;by_cases h:j=a
  ·by_cases h' : j'=a
   ·exact TH (h.trans h'.symm)
   ·rw [if_pos h] at hi;rw [if_neg h'] at jU;have iE:i=B+j':=by simpa using jU.symm
    have:=h2 i (by simp;right;simpa using hi);omega
  ·by_cases h' : j'=a
   ·rw [if_neg h] at hi;rw [if_pos h'] at jU;have iE:i=B+j:=by simpa using hi.symm
    have:=h2 i (by simp;right;simpa using jU);omega
   ·rw [if_neg h] at hi;rw [if_neg h'] at jU;have h3:i=B+j:=by simpa using hi.symm
    have h4:i=B+j':=by simpa using jU.symm
    omega
 ·subst e;obtain ⟨j,_,hj⟩:=yU.1 hk;split at hj
  ·exact hx i hj hi
  ·have h3:i=B+j:=by simpa using hj.symm
   have:=h2 i (by simp [hi]);rename_i aN;omega
theorem ar.cZ (C:List bJ) (B n a:Nat) (x:Option Nat) (vo:Nat→Nat) (f:Nat→zE) (hB:Nat.ble 200 B=true) (CO:B+n≤zm) (iV:C.all (fun q=>Nat.blt q.new B)=true) (re:(C.map bJ.new).Nodup)
  (kX:(C.filterMap bJ.src++x.toList).Nodup) (wC:∀ i∈C.filterMap bJ.src++x.toList,i<B∨i=B+a) (cE:aT ob) (hf:∀ j,j<n→Me ob (if j=a then x else some (B+j)) (vo j) (f j)) (hC:Zu ob (C++kF B n (fun j=>if j=a then x else some (B+j)) vo f) C) (ht:m5 t (C++kF B n (fun j=>if j=a then x else some (B+j)) vo f) t') :
  ar ⟨t,ob⟩ ⟨t',(C.map fun e=>(e.new,e.b))++(Xk 200++VT B n f)⟩:=
 ar.ra C 200 B n _ vo f (zO hB) CO iV re (zk9 n a B x _ kX wC) cE hf hC ht
theorem ar.oF (C:List bJ) (B n:Nat) (vo:Nat→Nat) (f:Nat→zE) (hB:Nat.ble 200 B=true) (CO:B+n≤zm) (iV:C.all (fun q=>Nat.blt q.new B)=true) (re:(C.map bJ.new).Nodup)
  (kX:(C.filterMap bJ.src).Nodup) (wC:∀ i∈C.filterMap bJ.src,i<B) (cE:aT ob) (hf:∀ j,j<n→Me ob (some (B+j)) (vo j) (f j)) (hC:Zu ob (C++kF B n (fun j=>some (B+j)) vo f) C) (ht:m5 t (C++kF B n (fun j=>some (B+j)) vo f) t') :
  ar ⟨t,ob⟩ ⟨t',(C.map fun e=>(e.new,e.b))++(Xk 200++VT B n f)⟩:=
 ar.ra C 200 B n _ vo f (zO hB) CO iV re (by
  refine xX.2 ⟨kX,?_,fun i hi k hk e=>?_⟩
  ·refine List.Pairwise.filterMap _ (R:=(·≠·)) (fun j j' TH i hi i' jU e=>?_) Wd;injection hi with hi;injection jU with jU;omega
  ·obtain ⟨j,_,hj⟩:=yU.1 hk;injection hj with hj
   have:=wC i hi;omega) cE hf hC ht
theorem ar.jr (C:List bJ) (B n:Nat) (f:Nat→zE) (hB:Nat.ble 200 B=true) (CO:B+n≤zm) (iV:C.all (fun q=>Nat.blt q.new B)=true) (re:(C.map bJ.new).Nodup)
  (kX:(C.filterMap bJ.src).Nodup) (cE:aT ob) (hf:∀ j,j<n→(f j).ao=.own∧(f j).es=[]) (hC:Zu ob (C++kF B n (fun _=>none) (fun _=>0) f) C) (ht:m5 t (C++kF B n (fun _=>none) (fun _=>0) f) t') :
  ar ⟨t,ob⟩ ⟨t',(C.map fun e=>(e.new,e.b))++(Xk 200++VT B n f)⟩:=
 ar.ra C 200 B n _ _ f (zO hB) CO iV re (by
  have:(List.range n).filterMap (fun _=>(none:Option Nat))=[]:=by induction List.range n <;> simp_all
  rw [this,zT];exact kX) cE (fun j hj=>.inl ⟨rfl,hf j hj⟩) hC ht
def bZ (e:Nat×Nat):List FV:=[.int .i64 (e.1:Int),.int .i64 (e.2:Int)]
def UL (E:List (Nat×Nat)) (v k:Nat):List Int:=((E.take k).filter fun e=>decide (e.1=v)).map fun e=>(e.2:Int)
def Mh (z:List Int):List Int:=Lib.compact (z.mergeSort fun x y=>decide (x≤y))
def zP (E:List (Nat×Nat)) (v:Nat):List Int:=Mh (UL E v E.length)
theorem zqB (E:List (Nat×Nat)) (v k:Nat) (h:k<E.length):UL E v (k+1)=UL E v k++(if (nth E k).1=v then [((nth E k).2:Int)] else []):=by
 unfold UL;rw [xe h,ZT,zF,ak h];congr 1;by_cases hv:E[k].1=v <;> simp [hv]
theorem Qp (E:List (Nat×Nat)) (v k:Nat):(UL E v k).length≤E.length:=by
 unfold UL;rw [zj];exact yc (xV _ _) (by rw [zW];omega)
theorem ztt (z:List Int):(Mh z).length≤z.length:=by
 unfold Mh Lib.compact Lib.compactUpTo;rw [zj];refine yc (xV _ _) ?_;rw [YN,Hy];exact zg _
def qR (E:List (Nat×Nat)) (k j:Nat):zE:=⟨0,.own,3,1,(UL E j k).map zJ⟩
def Ag (E:List (Nat×Nat)) (k j:Nat):FV:=.own (1000+j) 0 0 (UL E j k).length
def jO (E:List (Nat×Nat)) (i j:Nat):List Int:=if j<i then zP E j else UL E j E.length
def qT (E:List (Nat×Nat)) (i j:Nat):zE:=⟨0,.own,3,1,(jO E i j).map zJ⟩
def vn (E:List (Nat×Nat)) (i j:Nat):FV:=.own (1000+j) 0 0 (jO E i j).length
theorem zma (E:List (Nat×Nat)) (j:Nat):jO E 0 j=UL E j E.length:=if_neg za
theorem VA (n:Nat) (E:List (Nat×Nat)) (hn:n≤1000) (hE:E.length≤1000000) (aP:∀ e∈E,e.1<n∧e.2<n):xA Tryz.prog 45 [.int .i64 n,.list 2 (E.map bZ)] .sh (.list 1 ((List.range n).map fun v=>[.list 1 ((zP E v).map zJ)])):=by
 refine ym 51 Tryz.func45 Tryz.ntmps45 rfl ?_;change FW _ _ _ ⟨[(0,.int .i64 n),(1,.list 2 (E.map bZ))],[]⟩;refine zb ?_;rw [KU];refine FW.loop (fun k:Nat=>⟨[(5,.own 100 0 0 n),(11,.list 2 (E.map bZ)),(12,.int .i64 E.length),(13,.int .i64 k)],[(100,⟨0,.aj,22,1,(List.range n).map fun j=>[Ag E k j]⟩)]++(Xk 200++VT 1000 n (qR E k))⟩) (fun k=>k≤E.length) (fun k=>E.length - k) 0 (zp _) ?_ ?_
 ·exact (ar.wR (i:=10) rfl).trans (ar.jr [⟨100,some 10,0+1,⟨0,.aj,22,1,(List.range n).map fun j=>[Ag E 0 j]⟩⟩] 1000 n (qR E 0) rfl (by unfold zm;omega) rfl zc zc (by repeat (first|exact aT.nil|exact aT.dH rfl (by unfold zm;omega)|refine aT.cons rfl ?_))
   (fun j _=>⟨rfl,rfl⟩) (.cP rfl (gp.of fun j hj=>.nil (zX _ (xv hj)) rfl) .nil) zf)
 intro k hk;refine zb ?_;refine FW.cond rfl (fun h=>?_) (fun h=>?_)
 ·have aA:k<E.length:=by simpa using h
  clear h;obtain ⟨⟨a,b⟩,he⟩:∃ e,nth E k=e:=⟨_,rfl⟩
  obtain ⟨ha,hb⟩:=aP (nth E k) (zu aA);have jc:=fun v=>zqB E v k aA;rw [he] at ha hb;simp only [he] at jc;have bK:=Qp E a k;refine zb ?_;refine FW.le (s':=⟨[(7,.ptr 7 1 0 0),(5,.own 100 0 0 n),(11,.list 2 (E.map bZ)),(12,.int .i64 E.length),(13,.int .i64 k)],[(100,⟨0,.aj,22,1,(List.range n).map fun j=>[if j=a then .own 150 0 0 (UL E a k).length else Ag E k j]⟩),(150,qR E k a),(7,⟨1,.own,93,2,[bZ (a,b)]⟩)]++(Xk 200++VT 1000 n fun j=>if j=a then ⟨0,.own,3,1,[]⟩ else qR E k j)⟩) ?_ ?_
  ·refine FW.draw ?_;refine zR.ai (zD rfl) rfl rfl ?_;refine zR.ai (Yf rfl rfl rfl rfl rfl rfl rfl zd Zp) rfl rfl ?_;refine zR.ai (xC rfl rfl rfl rfl rfl Zp rfl rfl rfl) rfl rfl ?_;refine zR.ai (zD rfl) rfl rfl ?_;refine zR.ai (Yf rfl rfl rfl rfl rfl rfl rfl zd Zp) rfl rfl ?_;refine zR.ai (xC rfl rfl rfl rfl rfl Zp rfl rfl rfl) rfl rfl ?_;refine zR.ai (yL rfl rfl rfl rfl rfl rfl zd rfl za) rfl rfl ?_;refine zR.ai (Zz rfl rfl rfl rfl (xR n a _ ha)) rfl rfl ?_;rw [if_pos rfl];refine zR.ai (Yf rfl rfl rfl rfl rfl rfl rfl zd Zp) rfl rfl ?_;refine zR.ai (xC rfl rfl rfl rfl rfl Zp rfl rfl rfl) rfl rfl ?_;refine zR.cL (Ye rfl rfl rfl rfl rfl rfl) rfl rfl ?_;refine LX rfl rfl (by first|exact (zj _).symm|(simp;omega)) rfl rfl rfl zd (by exact WE.own rfl rfl zd (by first|exact zj _|exact (zj _).symm|exact yT|rfl|(simp;done)|omega|(simp;omega))) zM zM rfl rfl rfl ?_;refine zR.ai (yL rfl rfl rfl rfl rfl rfl zd rfl xg) rfl rfl ?_;refine zR.dN (WR rfl rfl rfl rfl rfl rfl zd xg) rfl ?_;refine zR.nil ⟨by kernel_rfl,?_⟩;refine FW.region ?_;refine zt.ai (tI rfl rfl za) rfl rfl ?_;refine zt.ai (zD rfl) rfl rfl ?_;refine zt.nil ?_;have h1:∀ j,UL E j (k+1)=UL E j k++if a=j then [(b:Int)] else []:=jc
   rw [Vw];refine ⟨k+1,by omega,by omega,?_⟩;refine ar.cZ [⟨100,some 100,0,⟨0,.aj,22,1,(List.range n).map fun j=>[Ag E (k+1) j]⟩⟩] 1000 n a (some 28) (fun j=>if j=a then 1 else 0) (qR E (k+1)) rfl (by unfold zm;omega) rfl zc zc zc (by repeat (first|exact aT.nil|exact aT.dH rfl (by unfold zm;omega)|refine aT.cons rfl ?_)) ?_ ?_ ?_
   ·intro j hj;by_cases bF:j=a
    ·subst bF;rw [if_pos rfl,if_pos rfl];refine .inr ⟨28,rfl,?_,rfl⟩;unfold qR;rw [h1,if_pos rfl,zF];rfl
    ·rw [if_neg bF,if_neg bF];refine .inr ⟨_,rfl,(yb (C:=[(100,_),(28,_),(150,_),(27,_),(100,_),(150,_),(7,_)]) rfl zd hj).trans ?_,rfl⟩;rw [if_neg bF];unfold qR;rw [h1,if_neg (fun e=>bF e.symm),zT]
   ·refine .cP rfl ?_ .nil;rw [show ((List.range n).map fun j=>if j=(a,b).1 then [FV.own 28 (0+1) 0 (List.map zJ (UL E a k)++[[FV.int IntKind.i64 ((a,b).2:Int)]]).length] else [if j=a then FV.own 150 0 0 (UL E a k).length else Ag E k j])=(List.range n).map fun j=>[if j=a then FV.own 28 1 0 ((UL E a k).length+1) else Ag E k j] from yZ fun j _=>by
     by_cases bF:j=a
     ·rw [if_pos bF,if_pos bF,zN,zj];rfl
     ·rw [if_neg bF,if_neg bF,if_neg bF]]
    refine gp.of fun j hj=>?_;have hm:=xv (B:=1000) (s:=fun j=>if j=a then some 28 else some (1000+j)) (vo:=fun j=>if j=a then 1 else 0) (f:=qR E (k+1)) hj;unfold Ag;by_cases bF:j=a
    ·subst bF;simp only [if_pos] at hm;rw [if_pos rfl,h1,if_pos rfl];exact .own (zX _ hm) rfl rfl zc
    ·simp only [if_neg bF] at hm;rw [if_neg bF,h1,if_neg (fun e=>bF e.symm),zT];exact .own (zX _ hm) rfl rfl rfl
   ·exact zf
  ·refine ar.cZ [⟨100,some 100,0,⟨0,.aj,22,1,(List.range n).map fun j=>[if j=a then .own 150 0 0 (UL E a k).length else Ag E k j]⟩⟩,⟨150,some (1000+a),0,qR E k a⟩,⟨7,some 7,1,⟨1,.own,93,2,[bZ (a,b)]⟩⟩] 1000 n a none (fun _=>0) (fun j=>if j=a then ⟨0,.own,3,1,[]⟩ else qR E k j) rfl (by unfold zm;omega) rfl zc B6 B6 (by repeat (first|exact aT.nil|exact aT.dH rfl (by unfold zm;omega)|refine aT.cons rfl ?_)) ?_ ?_ ?_
   ·intro j hj;by_cases bF:j=a
    ·rw [if_pos bF,if_pos bF];exact .inl ⟨rfl,rfl,rfl⟩
    ·rw [if_neg bF,if_neg bF];exact .inr ⟨_,rfl,yb (C:=[(7,_),(7,_),(100,_)]) rfl zd hj,rfl⟩
   ·refine .cP rfl (gp.of fun j hj=>?_) (.bL (yb (C:=[(7,_),(7,_),(100,_)]) rfl zd ha) rfl rfl (.bL rfl rfl (by rw [he]) .nil));by_cases bF:j=a
    ·subst bF;rw [if_pos rfl];exact .own (xW _ (Yu ..)) rfl rfl rfl
    ·rw [if_neg bF];have hm:=xv (B:=1000) (s:=fun j=>if j=a then none else some (1000+j)) (vo:=fun _=>0) (f:=fun j=>if j=a then ⟨0,.own,3,1,[]⟩ else qR E k j) hj;simp only [if_neg bF] at hm;exact .own (zX _ hm) rfl rfl rfl
   ·exact zf
 ·obtain rfl:k=E.length:=by simp at h;omega
  clear h hk;refine zb ?_;refine FW.loop (fun i:Nat=>⟨[(5,.own 100 0 0 n),(32,.int .i64 n),(33,.int .i64 i)],[(100,⟨0,.aj,22,1,(List.range n).map fun j=>[vn E i j]⟩)]++(Xk 200++VT 1000 n (qT E i))⟩) (fun i=>i≤n) (fun i=>n - i) 0 (zp _) ?_ ?_
  ·refine ar.oF [⟨100,some 100,0,⟨0,.aj,22,1,(List.range n).map fun j=>[vn E 0 j]⟩⟩] 1000 n (fun _=>0) (qT E 0) rfl (by unfold zm;omega) rfl zc zc zc (by repeat (first|exact aT.nil|exact aT.dH rfl (by unfold zm;omega)|refine aT.cons rfl ?_)) (fun j hj=>.inr ⟨_,rfl,(yb (C:=[(100,_)]) rfl zd hj).trans ?_,rfl⟩) (.cP rfl (gp.of fun j hj=>?_) .nil) zf
   ·unfold qT qR;rw [zma]
   ·have hm:=xv (B:=1000) (s:=fun j=>some (1000+j)) (vo:=fun _=>0) (f:=qT E 0) hj;exact .own (zX _ hm) rfl rfl (by rw [zma])
  intro i hi;refine zb ?_;refine FW.cond rfl (fun h=>?_) (fun h=>?_)
  ·have aA:i<n:=by simpa using h
   clear h;have JR:jO E i i=UL E i E.length:=if_neg za;have bK:=Qp E i E.length;have pJ:∀ j,jO E (i+1) j=if j=i then zP E i else jO E i j:=fun j=>by
    unfold jO;by_cases h1:j=i
    ·subst h1;rw [if_pos rfl,if_pos za]
    ·rw [if_neg h1];by_cases h2:j<i
     ·rw [if_pos h2,if_pos za]
     ·rw [if_neg h2,if_neg za]
   obtain ⟨z,hz⟩:∃ z,UL E i E.length=z:=⟨_,rfl⟩
   have nc:(z.mergeSort fun x y=>decide (x≤y)).length=z.length:=Hy _;have aY:zP E i=Lib.compact (z.mergeSort fun x y=>decide (x≤y)):=by rw [← hz];rfl
   rw [hz] at JR bK;refine FW.le (s':=⟨[(5,.own 100 0 0 n),(32,.int .i64 n),(33,.int .i64 i)],[(100,⟨0,.aj,22,1,(List.range n).map fun j=>[if j=i then .own 150 0 0 z.length else vn E i j]⟩),(150,⟨0,.own,3,1,z.map zJ⟩)]++(Xk 200++VT 1000 n fun j=>if j=i then ⟨0,.own,3,1,[]⟩ else qT E i j)⟩) ?_ ?_
   ·refine yW ?_;refine zt.ai (zD rfl) rfl rfl ?_;refine zt.ai (yj rfl) rfl rfl ?_;refine yW ?_;refine zt.ai (zD rfl) rfl rfl ?_;refine zt.ai (zD rfl) rfl rfl ?_;refine zt.ai (yL rfl rfl rfl rfl rfl rfl zd rfl za) rfl rfl ?_;refine zt.ai (Zz rfl rfl rfl rfl (xR n i _ aA)) rfl rfl ?_;rw [if_pos rfl];refine Yq (zi8 0 z za) [(5000,150)] rfl (zQ.cons rfl rfl rfl zQ.nil) rfl rfl rfl rfl rfl rfl ?_;rintro _ _ ⟨rfl,h1⟩;refine ZQ.one [(150,⟨0,.own,3,1,(z.mergeSort fun x y=>decide (x≤y)).map zJ⟩)] (.bd []) rfl (congrArg (fun b=>[(150,zE.ren (cM [(5000,150)]) b)]) h1) ?_;refine yW ?_;refine zt.ai (zD rfl) rfl rfl ?_;refine zt.ai (zD rfl) rfl rfl ?_;refine zt.ai (zD rfl) rfl rfl ?_;refine zt.ai (zD rfl) rfl rfl ?_;refine zt.ai (yL rfl rfl rfl rfl rfl rfl zd rfl za) rfl rfl ?_;refine zt.ai (Zz rfl rfl rfl rfl (xR n i _ aA)) rfl rfl ?_;rw [if_pos rfl];refine Yq (W1 0 (z.mergeSort fun x y=>decide (x≤y)) (by rw [nc];omega)) [(5000,150)] ?_ (zQ.cons rfl rfl rfl zQ.nil) rfl rfl rfl rfl rfl rfl ?_
    ·rw [nc];rfl
    rintro _ _ ⟨rfl,h1⟩;refine ZQ.one [(150,⟨1,.own,3,1,(zP E i).map zJ⟩)] (.own 150 1 0 (zP E i).length) (by rw [aY];rfl) (by rw [aY];exact congrArg (fun b=>[(150,zE.ren (cM [(5000,150)]) b)]) h1) ?_;refine zt.ai (yL rfl rfl rfl rfl rfl rfl zd rfl xg) rfl rfl ?_;refine zt.dN (WR rfl rfl rfl rfl rfl rfl zd xg) rfl ?_;refine yW ?_;refine zt.ai (tI rfl rfl za) rfl rfl ?_;refine zt.ai (zD rfl) rfl rfl ?_;refine yW ?_;rw [Vw];refine ⟨i+1,by omega,by omega,?_⟩;refine ar.cZ [⟨100,some 100,0,⟨0,.aj,22,1,(List.range n).map fun j=>[vn E (i+1) j]⟩⟩] 1000 n i (some 150) (fun j=>if j=i then 1 else 0) (qT E (i+1)) rfl (by unfold zm;omega) rfl zc zc zc (by repeat (first|exact aT.nil|exact aT.dH rfl (by unfold zm;omega)|refine aT.cons rfl ?_)) ?_ ?_ ?_
    ·intro j hj;by_cases bF:j=i
     ·subst bF;rw [if_pos rfl,if_pos rfl];refine .inr ⟨150,rfl,?_,rfl⟩;unfold qT;rw [pJ,if_pos rfl];rfl
     ·rw [if_neg bF,if_neg bF];refine .inr ⟨_,rfl,(yb (C:=[(100,_),(150,_),(150,_),(100,_),(150,_)]) rfl zd hj).trans ?_,rfl⟩;rw [if_neg bF];unfold qT;rw [pJ,if_neg bF]
    ·refine .cP rfl ?_ .nil;rw [show ((List.range n).map fun j=>if j=i then [FV.own 150 1 0 (zP E i).length] else [if j=i then FV.own 150 0 0 z.length else vn E i j])=(List.range n).map fun j=>[if j=i then FV.own 150 1 0 (zP E i).length else vn E i j] from yZ fun j _=>by
      by_cases bF:j=i
      ·rw [if_pos bF,if_pos bF]
      ·rw [if_neg bF,if_neg bF,if_neg bF]]
     refine gp.of fun j hj=>?_;have hm:=xv (B:=1000) (s:=fun j=>if j=i then some 150 else some (1000+j)) (vo:=fun j=>if j=i then 1 else 0) (f:=qT E (i+1)) hj;unfold vn;by_cases bF:j=i
     ·subst bF;simp only [if_pos] at hm;rw [if_pos rfl,pJ,if_pos rfl];exact .own (zX _ hm) rfl rfl rfl
     ·simp only [if_neg bF] at hm;rw [if_neg bF,pJ,if_neg bF];exact .own (zX _ hm) rfl rfl rfl
    ·exact zf
   ·refine ar.cZ [⟨100,some 100,0,⟨0,.aj,22,1,(List.range n).map fun j=>[if j=i then .own 150 0 0 z.length else vn E i j]⟩⟩,⟨150,some (1000+i),0,⟨0,.own,3,1,z.map zJ⟩⟩] 1000 n i none (fun _=>0) (fun j=>if j=i then ⟨0,.own,3,1,[]⟩ else qT E i j) rfl (by unfold zm;omega) rfl zc B6 B6 (by repeat (first|exact aT.nil|exact aT.dH rfl (by unfold zm;omega)|refine aT.cons rfl ?_)) ?_ ?_ ?_
    ·intro j hj;by_cases bF:j=i
     ·rw [if_pos bF,if_pos bF];exact .inl ⟨rfl,rfl,rfl⟩
     ·rw [if_neg bF,if_neg bF];exact .inr ⟨_,rfl,yb (C:=[(100,_)]) rfl zd hj,rfl⟩
    ·refine .cP rfl (gp.of fun j hj=>?_) (.bL ((yb (C:=[(100,_)]) rfl zd aA).trans (by unfold qT;rw [JR])) rfl rfl .nil);by_cases bF:j=i
     ·subst bF;rw [if_pos rfl];exact .own (xW _ (Yu ..)) rfl rfl (by rw [JR])
     ·rw [if_neg bF];have hm:=xv (B:=1000) (s:=fun j=>if j=i then none else some (1000+j)) (vo:=fun _=>0) (f:=fun j=>if j=i then ⟨0,.own,3,1,[]⟩ else qT E i j) hj;simp only [if_neg bF] at hm;exact .own (zX _ hm) rfl rfl rfl
    ·exact zf
  ·obtain rfl:i=n:=by simp at h;omega
   clear h hi;refine yW ?_;refine zt.ai (zD rfl) rfl rfl ?_;refine zt.ai (yj rfl) rfl rfl ?_;refine zt.le ?_ ((ar.deep 100 1000 i (w:=0) (E2:=22) (E:=3) (sz:=1) (fun _=>0) (fun j=>(jO E i j).map zJ) ?_ (fun j hj=>yb (C:=[(100,_)]) rfl zd hj) zd).trans (ar.share 4 rfl rfl zc))
   ·refine yW ?_;refine FW.ret ⟨.inl rfl,.sh (.cons (.tmp 4 rfl rfl) .nil) ?_ rfl⟩;show FV.list 1 _=FV.list 1 _;refine congrArg (FV.list 1) (yZ fun j hj=>?_);rw [show jO E i j=zP E j from if_pos (zn.1 hj)]
   ·refine Dx (b:=(⟨0,.aj,22,1,(List.range i).map fun j=>[vn E i j]⟩:zE)) rfl ?_;refine congrArg (fun l=>(⟨0,.aj,22,1,l⟩:zE)) (yZ fun j _=>?_);rw [zj];rfl
theorem zqd (n:Nat) (hn:n≤14):xA Tryz.prog 98 [.int .u64 1,.int .u64 n] .fr (.bd [.int .u64 0,.int .u64 n]):=by
 refine ym 51 Tryz.func98 Tryz.ntmps98 rfl ?_;change FW _ _ _ ⟨[(0,.int .u64 1),(1,.int .u64 n)],[]⟩;have hc:n=0∨n=1∨n=2∨n=3∨n=4∨n=5∨n=6∨n=7∨n=8∨n=9∨n=10∨n=11∨n=12∨n=13∨n=14:=by omega
 clear hn;refine yW ?_;refine zt.ai (yj rfl) rfl rfl ?_;refine zt.ai (yj rfl) rfl rfl ?_;refine yW ?_;refine zt.ai (zD rfl) rfl rfl ?_;refine zt.ai (Kv rfl rfl) rfl rfl ?_;refine zt.ai (yj rfl) rfl rfl ?_;refine yW ?_;refine zt.ai (zD rfl) rfl rfl ?_;refine zt.ai (D3 rfl rfl za) rfl rfl ?_;refine zt.ai (yj rfl) rfl rfl ?_;refine yW ?_;refine zt.ai (zD rfl) rfl rfl ?_;refine zt.ai (Kv rfl rfl) rfl rfl ?_;refine zt.ai (yj rfl) rfl rfl ?_;refine yW ?_;refine zt.ai (zD rfl) rfl rfl ?_;refine zt.ai (D3 rfl rfl za) rfl rfl ?_;refine zt.ai (yj rfl) rfl rfl ?_;refine yW ?_;refine zt.ai (zD rfl) rfl rfl ?_;refine zt.ai (zD rfl) rfl rfl ?_;refine zt.ai (Ig rfl rfl) rfl rfl ?_;refine zt.ai (yj rfl) rfl rfl ?_;refine yW ?_;refine zt.ai (zD rfl) rfl rfl ?_;refine zt.ai (zD rfl) rfl rfl ?_;refine zt.ai (Ig rfl rfl) rfl rfl ?_;refine zt.ai (zD rfl) rfl rfl ?_;refine zt.ai (D3 rfl rfl za) rfl rfl ?_;refine zt.ai (LO rfl rfl) rfl rfl ?_;refine zt.ai (yj rfl) rfl rfl ?_;refine yW ?_;refine zt.ai (zD rfl) rfl rfl ?_;refine zt.ai (Kv rfl rfl) rfl rfl ?_;refine zt.ai (yj rfl) rfl rfl ?_;refine yW ?_;refine zt.ai (zD rfl) rfl rfl ?_;refine zt.ai (D3 rfl rfl za) rfl rfl ?_;refine zt.ai (yj rfl) rfl rfl ?_;refine yW ?_;refine zt.ai (zD rfl) rfl rfl ?_;refine zt.ai (zD rfl) rfl rfl ?_;refine zt.ai (zD rfl) rfl rfl ?_;refine zt.ai (Ig rfl rfl) rfl rfl ?_;refine zt.ai (LO rfl rfl) rfl rfl ?_;refine zt.ai (yj rfl) rfl rfl ?_;refine yW ?_;refine zt.ai (zD rfl) rfl rfl ?_;refine zt.ai (zD rfl) rfl rfl ?_;refine zt.ai (Ig rfl rfl) rfl rfl ?_;refine zt.ai (zD rfl) rfl rfl ?_;refine zt.ai (LO rfl rfl) rfl rfl ?_;refine zt.ai (zD rfl) rfl rfl ?_;refine zt.ai (D3 rfl rfl za) rfl rfl ?_;refine zt.ai (LO rfl rfl) rfl rfl ?_;refine zt.ai (yj rfl) rfl rfl ?_;refine yW ?_;refine zt.ai (zD rfl) rfl rfl ?_;refine zt.ai (zD rfl) rfl rfl ?_;refine zt.ai (Ig rfl rfl) rfl rfl ?_;refine zt.ai (yj rfl) rfl rfl ?_;refine yW ?_;refine FW.ret ⟨.inl rfl,.flat (.cons (.tmp 4 rfl rfl) (.cons (.tmp 5 rfl rfl) .nil)) ?_ rfl⟩;rcases hc with rfl|rfl|rfl|rfl|rfl|rfl|rfl|rfl|rfl|rfl|rfl|rfl|rfl|rfl|rfl <;> rfl
theorem zuH (n:Nat) (hn:n≤14):xA Tryz.prog 94 [.int .u64 1,.int .u64 n] .fr (.bd [.int .u64 0,.int .u64 n]):=by
 refine ym 30 Tryz.func94 Tryz.ntmps94 rfl ?_;change FW _ _ _ ⟨[(0,.int .u64 1),(1,.int .u64 n)],[]⟩;refine zb ?_;refine yP (zqd n hn) HY rfl rfl ?_;refine zb ?_;exact FW.ret ⟨.inl rfl,.flat (.cons (.tmp 4 rfl rfl) (.cons (.tmp 5 rfl rfl) .nil)) rfl rfl⟩
theorem zqw (n k:Nat) (a b:List FV) (h1:k≤n):av (List.replicate k a++List.replicate (n - k) b) k ((List.replicate k a).take (n - k))=List.replicate (min n (2 * k)) a++List.replicate (n - min n (2 * k)) b:=by
 unfold av;rw [YS zc,zS zc,Rq,List.take_replicate,yT,yT];rw [VN B6,YQ,List.drop_replicate,P3];congr 1
 ·congr 1;omega
 ·congr 1;omega
theorem znx (n:Nat) (hn:n≤14):xA Tryz.prog 85 [.list 1 [[.int .i64 (-1)]],.int .i64 n] (.ow 3 1) (.list 1 (List.replicate n [.int .i64 (-1)])):=by
 refine ym 48 Tryz.func85 Tryz.ntmps85 rfl ?_;change FW _ _ _ ⟨[(0,.list 1 [[.int .i64 (-1)]]),(1,.int .i64 n)],[]⟩;refine zb ?_;refine yP (zuH n hn) HY rfl rfl ?_;refine zb ?_;refine FW.cond rfl (fun h=>?_) (fun h=>?_)
 ·simp at h;omega
 refine zb ?_;have hs:av (List.replicate n [FV.int .i64 0]) 0 (List.take n [[FV.int .i64 (-1)]])=List.replicate (min n 1) [FV.int .i64 (-1)]++List.replicate (n - min n 1) [FV.int .i64 0]:=by
  have hc:n=0∨n=1∨n=2∨n=3∨n=4∨n=5∨n=6∨n=7∨n=8∨n=9∨n=10∨n=11∨n=12∨n=13∨n=14:=by omega
  rcases hc with rfl|rfl|rfl|rfl|rfl|rfl|rfl|rfl|rfl|rfl|rfl|rfl|rfl|rfl|rfl <;> rfl
 have hl:(List.take n [[FV.int .i64 (-1)]]).length=min n 1:=by simp
 rw [hs,hl];refine FW.loop (fun k:Nat=>⟨[(7,.own 100 0 0 n),(8,.int .i64 k)],[(100,⟨0,.own,3,1,List.replicate k [.int .i64 (-1)]++List.replicate (n - k) [.int .i64 0]⟩)]⟩) (fun k=>k≤n∧(1≤k∨n=0)) (fun k=>n - k) (min n 1) ⟨by omega,by omega⟩ (ar.cv [⟨100,some 30,0+1,⟨0,.own,3,1,List.replicate (min n 1) [.int .i64 (-1)]++List.replicate (n - min n 1) [.int .i64 0]⟩⟩] zh zf) ?_;rintro k ⟨hk,dI⟩;refine zb ?_;refine FW.cond rfl (fun h=>?_) (fun h=>?_)
 ·have aA:k<n:=by simpa using h
  clear h;have Bw:=zqw n k [FV.int .i64 (-1)] [FV.int .i64 0] hk;refine Zf ?_;refine zR.ai (tI rfl rfl zM) rfl rfl ?_;refine zR.ai (yj rfl) rfl rfl ?_;refine zR.nil ⟨by kernel_rfl,?_⟩;have e1:(List.take (n - k) (List.take (k - 0) (List.drop (0+0) (List.replicate k [FV.int .i64 (-1)]++List.replicate (n - k) [FV.int .i64 0]))))=(List.replicate k [FV.int .i64 (-1)]).take (n - k):=by
   rw [ZZ,Yl,Nat.sub_zero,YS zc,zS (by simp:(List.replicate k [FV.int .i64 (-1)]).length≤k)]
  have e2:(((List.replicate k [FV.int .i64 (-1)]).take (n - k)).length:Int)=((min n (2 * k) - k:Nat):Int):=by
   rw [zW,yT];omega
  rw [e1,e2,show 0+k=k from yh k,Bw];have e3:(k:Int)+((min n (2 * k) - k:Nat):Int)=((min n (2 * k):Nat):Int):=by omega
  rw [e3];obtain ⟨q,hq⟩:∃ q,min n (2 * k)=q:=⟨_,rfl⟩
  rw [hq];obtain ⟨z,hz⟩:∃ z,List.replicate q [FV.int .i64 (-1)]++List.replicate (n - q) [FV.int .i64 0]=z:=⟨_,rfl⟩
  refine ⟨q,⟨by omega,by omega⟩,by omega,?_⟩;rw [hz];exact (ar.cv [⟨100,some 100,0,⟨0,.own,3,1,z⟩⟩] zh zf)
 ·obtain rfl:k=n:=by simp at h;omega
  refine zb ?_;exact FW.ret ⟨.inl rfl,tF rfl rfl rfl zc zd zc (by intro e he;obtain rfl:=Xt he;rfl)⟩
end
def bj (t u:Int) (s:List Int×List Int) (v:Int):List Int×List Int:=
 if t<v∧nth s.1 v.toNat<0 then (s.1.set v.toNat (nth s.1 u.toNat+1),s.2++[v]) else s
def Cl (rows:List (List Int)) (t:Int) (s:List Int×List Int):List Int×List Int:=
 match s.2 with
 | [] => s
 | u :: _ => let q := (nth rows u.toNat).foldl (bj t u) s; (q.1, q.2.tail)
def gi (rows:List (List Int)) (t:Int):Nat→List Int×List Int→List Int×List Int
 | 0, s => s
 | k+1, s => gi rows t k (Cl rows t s)
def xM (n t:Nat):List Int×List Int:=((List.replicate n (-1)).set t 0,[(t:Int)])
def jR (rows:List (List Int)) (n t:Nat):List Int:=(gi rows t (n+1) (xM n t)).1
def XO (l:List Int):Nat:=l.countP fun x=>decide (0≤x)
structure BI (n i:Nat) (s:List Int×List Int):Prop where
 len:s.1.length=n
 cW:∀ x∈s.1,-1≤x∧x<XO s.1
 wk:∀ v∈s.2,0≤v∧v<n
 cnt:s.2.length+i=XO s.1
theorem BI.le (h:BI n i s):s.2.length+i≤n:=by
 rw [h.cnt,← h.len];exact XS
theorem BI.nth (h:BI n i s) (hv:v<n):-1≤Proofs.YtphidhljdcledaaGreat.nth s.1 v∧Proofs.YtphidhljdcledaaGreat.nth s.1 v<XO s.1:=h.cW _ (zu (by rw [h.len];exact hv))
theorem Z1 {l:List Int} (hv:v<l.length) (h0:nth l v<0) (hx:0≤x):XO (l.set v x)=XO l+1:=by
 unfold XO;rw [List.countP_set hv];rw [ak hv] at h0;rw [if_neg zM,if_pos zM];omega
theorem BI.bj (h:BI n i s) {t u v:Int} (hu:0≤u∧u<n) (hv:0≤v∧v<n):BI n i (Proofs.YtphidhljdcledaaGreat.bj t u s v):=by
 unfold Proofs.YtphidhljdcledaaGreat.bj;by_cases hc:t<v∧Proofs.YtphidhljdcledaaGreat.nth s.1 v.toNat<0
 ·rw [if_pos hc];have OP:=h.nth (v:=u.toNat) za;have hr:=Z1 (l:=s.1) (v:=v.toNat) (x:=Proofs.YtphidhljdcledaaGreat.nth s.1 u.toNat+1) (by rw [h.len];omega) hc.2 za;refine ⟨by simp [h.len],fun x hx=>?_,fun w hw=>?_,?_⟩
  ·dsimp only at hx ⊢;rw [hr];rcases ZE hx with hx|rfl
   ·have:=h.cW x hx;omega
   ·omega
  ·rcases zC.1 hw with hw|hw
   ·exact h.wk w hw
   ·rw [zq.1 hw];exact hv
  ·have:=h.cnt;simp only [zN,yS,HA];rw [hr];omega
 ·rw [if_neg hc];exact h
theorem BI.fold {n i:Nat} {t u:Int} (hu:0≤u∧u<n):∀ {l:List Int} {s:List Int×List Int},BI n i s→(∀ v∈l,0≤v∧v<n)→BI n i (l.foldl (Proofs.YtphidhljdcledaaGreat.bj t u) s)
 | [], _, h, _ => h
 | v :: l, s, h, hl => by
  rw [XT];exact BI.fold hu (h.bj hu (hl v zc)) fun w hw=>hl w (by simp [hw])
theorem zqv {t u v:Int} {o w:List Int}:∃ o' w',bj t u (o,x::w) v=(o',x::w'):=by
 unfold bj;split
 ·exact ⟨_,_,rfl⟩
 ·exact ⟨_,_,rfl⟩
theorem K9 {t u x:Int}:∀ {l:List Int} {o w:List Int},∃ o' w',l.foldl (bj t u) (o,x::w)=(o',x::w')
 | [], o, w => ⟨o, w, rfl⟩
 | v :: l, o, w => by
  obtain ⟨o',w',e⟩:=zqv (t:=t) (u:=u) (v:=v) (x:=x) (o:=o) (w:=w);rw [XT,e];exact K9
theorem BI.round {t:Int} (bO:∀ r∈rows,∀ v∈r,0≤v∧v<n) (hlen:rows.length=n) (h:BI n i s) (h0:s.2≠[]):BI n (i+1) (Cl rows t s):=by
 obtain ⟨o,w⟩:=s;cases w with
 | nil => exact absurd rfl h0
 | cons u w =>
  have hu:=h.wk u zc;have hF:=BI.fold (t:=t) hu h (bO (Proofs.YtphidhljdcledaaGreat.nth rows u.toNat) (zu za));show BI n (i+1) (((Proofs.YtphidhljdcledaaGreat.nth rows u.toNat).foldl (Proofs.YtphidhljdcledaaGreat.bj t u) (o,u::w)).1,((Proofs.YtphidhljdcledaaGreat.nth rows u.toNat).foldl (Proofs.YtphidhljdcledaaGreat.bj t u) (o,u::w)).2.tail);obtain ⟨o',w',e⟩:=K9 (t:=t) (u:=u) (x:=u) (l:=Proofs.YtphidhljdcledaaGreat.nth rows u.toNat) (o:=o) (w:=w);rw [e] at hF ⊢;exact ⟨hF.len,hF.cW,fun v hv=>hF.wk v (by simp [show v∈w' from hv]),by have:=hF.cnt;simp only [yS,List.tail_cons] at this ⊢;omega⟩
theorem BI.start {t:Nat} (ht:t<n):BI n 0 (xM n t):=by
 have hr:XO ((List.replicate n (-1)).set t 0)=1:=by
  rw [Z1 (by simpa using ht) (by rw [Proofs.YtphidhljdcledaaGreat.ak (by simpa using ht)];simp) za];unfold XO;rw [List.countP_replicate];simp
 refine ⟨by simp [xM],fun x hx=>?_,fun v hv=>?_,?_⟩
 ·show -1≤x∧x<((XO ((List.replicate n (-1)).set t 0):Nat):Int);rw [hr];rcases ZE hx with hx|rfl
  ·rw [Xt hx];omega
  ·omega
 ·rw [zq.1 hv];omega
 ·show 1+0=XO ((List.replicate n (-1)).set t 0);rw [hr]
theorem zn2 (rows:List (List Int)) (t:Int):∀ (k:Nat) (s:List Int×List Int),s.2=[]→gi rows t k s=s
 | 0, _, _ => rfl
 | k+1, (o, w), h => by
  dsimp only at h;subst h;exact zn2 rows t k (o,[]) rfl
theorem RM (rows:List (List Int)) (t:Int):∀ (j k:Nat) (s:List Int×List Int),gi rows t (j+k) s=gi rows t k (gi rows t j s)
 | 0, k, s => by rw [yh]; rfl
 | j+1, k, s => by rw [Nat.add_right_comm]; exact RM rows t j k _
theorem Ru (rows:List (List Int)) (t:Int) (j:Nat) (s:List Int×List Int):gi rows t (j+1) s=Cl rows t (gi rows t j s):=by rw [RM];rfl
theorem zvR {t:Nat} (hi:i≤n+1) (h:(gi rows t i (xM n t)).2=[]):jR rows n t=(gi rows t i (xM n t)).1:=by
 unfold jR;rw [show n+1=i+(n+1 - i) by omega,RM,zn2 _ _ _ _ h]
structure PI (rows:List (List Int)) (t n:Nat) (s:List Int×List Int):Prop where
 par:∀ v,v<n→1≤Proofs.YtphidhljdcledaaGreat.nth s.1 v→∃ u,u<n∧(v:Int)∈Proofs.YtphidhljdcledaaGreat.nth rows u∧Proofs.YtphidhljdcledaaGreat.nth s.1 u=Proofs.YtphidhljdcledaaGreat.nth s.1 v - 1
 I7:∀ v,v<n→0≤Proofs.YtphidhljdcledaaGreat.nth s.1 v→v≠t→t<v∧1≤Proofs.YtphidhljdcledaaGreat.nth s.1 v
 tz:Proofs.YtphidhljdcledaaGreat.nth s.1 t=0
 wk:∀ w∈s.2,0≤Proofs.YtphidhljdcledaaGreat.nth s.1 w.toNat
theorem PI.bj {t:Nat} (h:PI rows t n s) (hB:BI n i s) (hu:u<n) (hv:v<n) (BA:0≤Proofs.YtphidhljdcledaaGreat.nth s.1 u) (hm:(v:Int)∈Proofs.YtphidhljdcledaaGreat.nth rows u):PI rows t n (Proofs.YtphidhljdcledaaGreat.bj t u s v):=by
 unfold Proofs.YtphidhljdcledaaGreat.bj;by_cases hc:(t:Int)<v∧Proofs.YtphidhljdcledaaGreat.nth s.1 (v:Int).toNat<0
 ·rw [if_pos hc];simp only [zK] at hc ⊢;have mH:v<s.1.length:=by rw [hB.len];exact hv
  have aN:∀ w,0≤Proofs.YtphidhljdcledaaGreat.nth s.1 w→Proofs.YtphidhljdcledaaGreat.nth (s.1.set v (Proofs.YtphidhljdcledaaGreat.nth s.1 u+1)) w=Proofs.YtphidhljdcledaaGreat.nth s.1 w:=fun w hw=>yn (fun e=>by subst e;omega);have bI:Proofs.YtphidhljdcledaaGreat.nth (s.1.set v (Proofs.YtphidhljdcledaaGreat.nth s.1 u+1)) v=Proofs.YtphidhljdcledaaGreat.nth s.1 u+1:=yf mH;refine ⟨fun w hw h1=>?_,fun w hw h0 GQ=>?_,by rw [aN t (by rw [h.tz];omega)];exact h.tz,fun w hw=>?_⟩
  ·dsimp only at h1 ⊢;by_cases GR:w=v
   ·subst GR;exact ⟨u,hu,hm,by rw [bI,aN u BA];omega⟩
   ·have e:Proofs.YtphidhljdcledaaGreat.nth (s.1.set v (Proofs.YtphidhljdcledaaGreat.nth s.1 u+1)) w=Proofs.YtphidhljdcledaaGreat.nth s.1 w:=yn (fun e=>GR e.symm);rw [e] at h1 ⊢;obtain ⟨q,q1,q2,q3⟩:=h.par w hw h1;exact ⟨q,q1,q2,by rw [aN q za];exact q3⟩
  ·dsimp only at h0 ⊢;by_cases GR:w=v
   ·subst GR;rw [bI];omega
   ·have e:Proofs.YtphidhljdcledaaGreat.nth (s.1.set v (Proofs.YtphidhljdcledaaGreat.nth s.1 u+1)) w=Proofs.YtphidhljdcledaaGreat.nth s.1 w:=yn (fun e=>GR e.symm);rw [e] at h0 ⊢;exact h.I7 w hw h0 GQ
  ·dsimp only at hw ⊢;rcases zC.1 hw with hw|hw
   ·rw [aN _ (h.wk w hw)];exact h.wk w hw
   ·rw [zq.1 hw,zK,bI];omega
 ·rw [if_neg hc];exact h
theorem Z3 {t u v:Int} (h:0≤nth s.1 w):nth (bj t u s v).1 w=nth s.1 w:=by
 unfold bj;split
 ·rename_i hc;refine yn (fun e=>?_);rw [e] at hc;omega
 ·rfl
theorem PI.fold {rows:List (List Int)} {t n i u:Nat} (hu:u<n) (bO:∀ r∈rows,∀ v∈r,(0:Int)≤v∧v<n):∀ {l:List Int} {s:List Int×List Int},PI rows t n s→BI n i s→0≤Proofs.YtphidhljdcledaaGreat.nth s.1 u→(∀ v∈l,v∈Proofs.YtphidhljdcledaaGreat.nth rows u∧0≤v∧v<n)→PI rows t n (l.foldl (Proofs.YtphidhljdcledaaGreat.bj t u) s)∧BI n i (l.foldl (Proofs.YtphidhljdcledaaGreat.bj t u) s)
 | [], _, h, hB, _, _ => ⟨h, hB⟩
 | v :: l, s, h, hB, h0, hl => by
  rw [XT];obtain ⟨m1,m2,m3⟩:=hl v zc;obtain ⟨v,rfl⟩:∃ v' : Nat,v=v':=⟨v.toNat,by omega⟩
  refine PI.fold hu bO (h.bj hB hu za h0 m1) (hB.bj ⟨by omega,by omega⟩ ⟨m2,m3⟩) ?_ fun w hw=>hl w (by simp [hw]);rw [Z3 h0];exact h0
theorem PI.round {t:Nat} (bO:∀ r∈rows,∀ v∈r,(0:Int)≤v∧v<n) (hlen:rows.length=n) (h:PI rows t n s) (hB:BI n i s):PI rows t n (Cl rows t s):=by
 obtain ⟨o,w⟩:=s;cases w with
 | nil => exact h
 | cons u w =>
  have hu:=hB.wk u zc;obtain ⟨u,rfl⟩:∃ u' : Nat,u=u':=⟨u.toNat,by omega⟩
  have hm:=zu (l:=rows) (i:=u) za;obtain ⟨hP,hF⟩:=PI.fold (t:=t) (i:=i) (u:=u) za bO (l:=Proofs.YtphidhljdcledaaGreat.nth rows u) h hB (by have:=h.wk (u:Int) zc;simpa using this) fun v hv=>⟨hv,bO _ hm v hv⟩
  show PI rows t n (((Proofs.YtphidhljdcledaaGreat.nth rows u).foldl (Proofs.YtphidhljdcledaaGreat.bj t u) (o,(u:Int)::w)).1,((Proofs.YtphidhljdcledaaGreat.nth rows u).foldl (Proofs.YtphidhljdcledaaGreat.bj t u) (o,(u:Int)::w)).2.tail);exact ⟨hP.par,hP.I7,hP.tz,fun v hv=>hP.wk v (List.mem_of_mem_tail hv)⟩
theorem PI.start {t:Nat} (ht:t<n):PI rows t n (xM n t):=by
 have h1:∀ v,v<n→v≠t→nth (xM n t).1 v = -1:=fun v hv aN=>by
  show nth ((List.replicate n (-1)).set t 0) v = -1;rw [yn (fun e=>aN e.symm),ak (by simpa using hv)];simp
 have h2:nth (xM n t).1 t=0:=yf (by simpa using ht);refine ⟨fun v hv h=>?_,fun v hv h aN=>?_,h2,fun w hw=>?_⟩
 ·by_cases U3:v=t
  ·subst U3;rw [h2] at h;omega
  ·rw [h1 v hv U3] at h;omega
 ·rw [h1 v hv aN] at h;omega
 ·rw [zq.1 hw,zK,h2];omega
theorem RN {rows:List (List Int)} {n t:Nat} (ht:t<n) (bO:∀ r∈rows,∀ v∈r,(0:Int)≤v∧v<n) (hlen:rows.length=n):∀ k,∃ i,i≤k∧BI n i (gi rows t k (xM n t))∧PI rows t n (gi rows t k (xM n t))∧((gi rows t k (xM n t)).2=[]∨i=k)
 | 0 => ⟨0, zg _, BI.start ht, PI.start ht, .inr rfl⟩
 | k+1=>by
  obtain ⟨i,h1,h2,h3,h4⟩:=RN ht bO hlen k;rw [Ru];by_cases h0:(gi rows t k (xM n t)).2=[]
  ·have e:Cl rows t (gi rows t k (xM n t))=gi rows t k (xM n t):=by
    generalize gi rows t k (xM n t)=s at h0;obtain ⟨o,w⟩:=s;dsimp only at h0;subst h0;rfl
   rw [e];exact ⟨i,by omega,h2,h3,.inl h0⟩
  ·obtain rfl:i=k:=by rcases h4 with h4|h4;exact absurd h4 h0;exact h4
   exact ⟨i+1,zg _,h2.round bO hlen h0,h3.round bO hlen h2,.inr rfl⟩
theorem B9 {t:Nat} (ht:t<n) (bO:∀ r∈rows,∀ v∈r,(0:Int)≤v∧v<n) (hlen:rows.length=n):(gi rows t (n+1) (xM n t)).2=[]∧PI rows t n (gi rows t (n+1) (xM n t))∧∃ i,BI n i (gi rows t (n+1) (xM n t)):=by
 obtain ⟨i,h1,h2,h3,h4⟩:=RN ht bO hlen (n+1);refine ⟨?_,h3,i,h2⟩;rcases h4 with h4|rfl
 ·exact h4
 ·have:=h2.le;omega
section
open Go.RowKit
def fe (r:List Int):List FV:=[.list 1 (r.map zJ)]
theorem zhH (n t:Nat) (rows:List (List Int)) (hn:n≤14) (ht:t<n) (hlen:rows.length=n) (bO:∀ r∈rows,∀ v∈r,0≤v∧v<n) (bK:∀ r∈rows,r.length≤1000000):xA Tryz.prog 63 [.int .i64 n,.list 1 (rows.map fe),.int .i64 t] (.ow 3 1) (.list 1 ((jR rows n t).map zJ)):=by
 refine ym 61 Tryz.func63 Tryz.ntmps63 rfl ?_;change FW _ _ _ ⟨[(0,.int .i64 n),(1,.list 1 (rows.map fe)),(2,.int .i64 t)],[]⟩;refine zb ?_;refine Yr (znx n hn) HY yT rfl rfl rfl ?_;rw [show List.replicate n [FV.int .i64 (-1)]=(List.replicate n (-1)).map zJ by rw [Wc];rfl];obtain ⟨z,hz⟩:∃ z,List.replicate n (-1:Int)=z:=⟨_,rfl⟩
 have lH:z.length=n:=by rw [← hz];simp
 have hs:(z.map zJ).set t [.int .i64 0]=(xM n t).1.map zJ:=by
  show _=((List.replicate n (-1)).set t 0).map zJ;rw [hz,xc];rfl
 rw [hz];refine zb ?_;rw [show (zJ (nth z t)).set 0 (.int .i64 0)=[.int .i64 0] from rfl,hs];refine FW.loop (fun x:Nat×List Int=>⟨[(1,.list 1 (rows.map fe)),(2,.int .i64 t),(7,.own 100 0 0 n),(8,.own 101 0 x.2.length (gi rows t x.1 (xM n t)).2.length)],[(100,⟨0,.own,3,1,(gi rows t x.1 (xM n t)).1.map zJ⟩),(101,⟨0,.own,3,1,(x.2++(gi rows t x.1 (xM n t)).2).map zJ⟩)]⟩)
  (fun x=>BI n x.1 (gi rows t x.1 (xM n t))∧x.2.length≤x.1) (fun x=>n - x.1) (0,[]) ⟨BI.start ht,zg _⟩ (ar.cv [⟨100,some 13,0+1,⟨0,.own,3,1,(xM n t).1.map zJ⟩⟩,⟨101,some 18,0+1,⟨0,.own,3,1,[[.int .i64 t]]⟩⟩] zh zf) ?_
 rintro ⟨i,pre⟩ ⟨hB,dJ⟩;dsimp only at hB dJ ⊢;have ef:∀ h:(gi rows t i (xM n t)).2=[],(gi rows t i (xM n t)).1=jR rows n t:=fun h=>(zvR (by have:=hB.le;omega) h).symm;have cD:=Ru rows t i (xM n t);generalize gi rows t i (xM n t)=S at hB ef cD ⊢;obtain ⟨out,w⟩:=S;have nQ:=hB.len;have hle:=hB.le;dsimp only at nQ hle ef ⊢;refine zb ?_;refine FW.cond rfl (fun h=>?_) (fun h=>?_)
 ·obtain ⟨u,w,rfl⟩:∃ u w',w=u::w':=by
   cases w with
   | nil => simp at h
   | cons u w => exact ⟨u, w, rfl⟩
  clear h ef;obtain ⟨u,rfl⟩:∃ u' : Nat,u=u':=⟨u.toNat,by have:=(hB.wk u zc).1;omega⟩
  have hu:u<rows.length:=by have:=(hB.wk u zc).2;omega
  have Gh:nth (pre++(u:Int)::w) (pre.length+0)=u:=by rw [ak zc];simp
  have aj:=bO _ (zu hu);have OB:=bK _ (zu hu);have qD:(((u:Int)::w).length:Nat)=w.length+1:=rfl;have hwle:w.length+1+i≤n:=hle;obtain ⟨W,hW⟩:∃ W,pre++(u:Int)::w=W:=⟨_,rfl⟩
  have Jv:W.length=pre.length+(w.length+1):=by rw [← hW];simp
  rw [hW] at Gh ⊢;refine yW ?_;refine zt.ai (zD rfl) rfl rfl ?_;refine zt.ai (zD rfl) rfl rfl ?_;refine zt.ai (PJ (n:=0) rfl rfl rfl rfl rfl rfl zd rfl zc) rfl rfl ?_;refine zt.ai (xC rfl rfl rfl rfl rfl zM (by exact yY za) rfl rfl) rfl rfl ?_;rw [Gh];refine zb ?_;obtain ⟨r,hr⟩:∃ r,nth rows u=r:=⟨_,rfl⟩
  rw [hr] at aj OB ⊢;have BB:(0:Int)≤u∧(u:Int)<n:=⟨by omega,by omega⟩
  refine FW.loop (fun x:Nat×List Int=>⟨[(1,.list 1 (rows.map fe)),(2,.int .i64 t),(7,.own 100 0 0 n),(8,.own 101 0 x.2.length ((r.take x.1).foldl (bj t u) (out,(u:Int)::w)).2.length),(29,.list 1 (r.map zJ)),(30,.int .i64 r.length),(31,.int .i64 x.1)],[(100,⟨0,.own,3,1,((r.take x.1).foldl (bj t u) (out,(u:Int)::w)).1.map zJ⟩),(101,⟨0,.own,3,1,(x.2++((r.take x.1).foldl (bj t u) (out,(u:Int)::w)).2).map zJ⟩)]⟩)
   (fun x=>x.1≤r.length∧x.2.length≤i) (fun x=>r.length - x.1) (0,pre) ⟨zp _,dJ⟩ ?_ ?_
  ·show ar _ ⟨[(1,.list 1 (rows.map fe)),(2,.int .i64 t),(7,.own 100 0 0 n),(8,.own 101 0 pre.length ((u:Int)::w).length),(29,.list 1 (r.map zJ)),(30,.int .i64 r.length),(31,.int .i64 0)],[(100,⟨0,.own,3,1,out.map zJ⟩),(101,⟨0,.own,3,1,(pre++(u:Int)::w).map zJ⟩)]⟩;rw [hW];exact (ar.cv [⟨100,some 100,0,⟨0,.own,3,1,out.map zJ⟩⟩,⟨101,some 101,0,⟨0,.own,3,1,W.map zJ⟩⟩] zh zf)
  clear Gh hW Jv W dJ pre;rintro ⟨j,pre⟩ ⟨hj,dJ⟩;dsimp only at hj dJ ⊢;have Jj:BI n i ((r.take j).foldl (bj t u) (out,(u:Int)::w)):=BI.fold BB hB fun v hv=>aj v (xn hv);obtain ⟨oj,wj,hq⟩:=K9 (t:=t) (u:=u) (x:=u) (l:=r.take j) (o:=out) (w:=w);have bT:∀ h:j<r.length,(r.take (j+1)).foldl (bj t u) (out,(u:Int)::w)=bj t u (oj,(u:Int)::wj) (nth r j):=fun h=>by
   rw [xe h,ZU,hq,ak h];rfl
  have eY:j=r.length→Cl rows t (out,(u:Int)::w)=(oj,wj):=fun h=>by
   show (((nth rows u).foldl (bj t u) (out,(u:Int)::w)).1,((nth rows u).foldl (bj t u) (out,(u:Int)::w)).2.tail)=_;rw [hr,← yy (l:=r),← h,hq];rfl
  rw [hq] at Jj ⊢;dsimp only;have cN:=Jj.len;have hjle:wj.length+1+i≤n:=Jj.le;dsimp only at cN;have Gh:=Jj.nth (v:=u) za;have Oy:XO oj≤n:=by rw [← cN];exact XS
  dsimp only at Gh;have JW:(((u:Int)::wj).length:Nat)=wj.length+1:=rfl;refine zb ?_;refine FW.cond rfl (fun h=>?_) (fun h=>?_)
  ·have aA:j<r.length:=by simpa using h
   clear h eY;have aO:=bT aA;clear bT;obtain ⟨v,hv⟩:∃ v:Nat,nth r j=v:=⟨(nth r j).toNat,by have:=(aj _ (zu aA)).1;omega⟩
   have iu:v<n:=by have:=(aj _ (zu aA)).2;omega
   rw [hv] at aO;refine zb ?_;rw [hv];skip;refine yR (fun h1=>?_) (fun h1=>?_)
   ·refine zb ?_;refine FW.cond rfl (fun h2=>?_) (fun h2=>?_)
    ·rw [bj,if_pos ⟨by simpa using h1,by simpa using h2⟩] at aO;obtain ⟨W,hW⟩:∃ W,pre++(u:Int)::wj=W:=⟨_,rfl⟩
     have Jv:W.length=pre.length+(wj.length+1):=by rw [← hW];simp
     have Ob:nth W (pre.length+0)=u:=by rw [← hW,ak zc];simp
     have hnW' : nth W pre.length=u:=Ob;simp only [zK] at aO;rw [hW];refine FW.split 101 rfl ?_ ?_
     ·skip;refine yW ?_;refine zt.ai (zD rfl) rfl rfl ?_;refine zt.ai (zD rfl) rfl rfl ?_;refine zt.ai (zD rfl) rfl rfl ?_;refine zt.ai (zD rfl) rfl rfl ?_;refine zt.ai (PJ (n:=0) rfl rfl rfl rfl rfl rfl zd rfl zc) rfl rfl ?_;refine zt.ai (xC rfl rfl rfl rfl rfl zM (by exact yY za) rfl rfl) rfl rfl ?_;rw [Ob];refine zt.ai (yL rfl rfl rfl rfl rfl rfl zd rfl xg) rfl rfl ?_;refine zt.ai (xC rfl rfl rfl rfl rfl xg Vh rfl rfl) rfl rfl ?_;refine zt.ai (tI rfl rfl za) rfl rfl ?_;refine zt.ai (yL rfl rfl rfl rfl rfl rfl zd rfl xg) rfl rfl ?_;refine zt.dN (Vn rfl rfl rfl rfl rfl rfl xg Vh rfl rfl) rfl ?_;rw [show (zJ (nth oj v)).set 0 (.int .i64 (nth oj u+1))=zJ (nth oj u+1) from rfl,← xc];refine yW ?_;refine zt.ai (zD rfl) rfl rfl ?_;refine zt.ai (zD rfl) rfl rfl ?_;refine zt.cL (Ye rfl rfl rfl rfl rfl rfl) rfl rfl ?_;refine zt.Ap (zvU rfl rfl zM rfl rfl rfl zd (by exact WE.own rfl rfl zd (by first|exact zj _|exact (zj _).symm|exact yT|rfl|(simp;done)|omega|(simp;omega))) rfl rfl) rfl rfl ?_;refine zt.ai (yj rfl) rfl rfl ?_;refine yW ?_;refine zt.ai (tI rfl rfl za) rfl rfl ?_;refine zt.ai (zD rfl) rfl rfl ?_;refine yW ?_;refine ⟨(j+1,pre),⟨by show j+1≤r.length;omega,dJ⟩,by show r.length - (j+1)<r.length - j;omega,?_⟩;dsimp only;rw [aO];dsimp only;have e1:(W.map zJ++[zJ v]:List (List FV))=(pre++((u:Int)::wj++[(v:Int)])).map zJ:=by rw [← hW];simp
      have e2:((u:Int)::wj).length+1=((u:Int)::wj++[(v:Int)]).length:=by simp
      obtain ⟨Z,hZ⟩:∃ Z,(pre++((u:Int)::wj++[(v:Int)])).map zJ=Z:=⟨_,rfl⟩
      rw [show ([FV.int .i64 (v:Int)]:List FV)=zJ v from rfl,e1,e2,hZ];exact (ar.cv [⟨100,some 100,0,⟨0,.own,3,1,(oj.set v (nth oj u+1)).map zJ⟩⟩,⟨101,some 58,0+1,⟨0,.own,3,1,Z⟩⟩] zh zf)
     ·skip;refine yW ?_;refine zt.ai (zD rfl) rfl rfl ?_;refine zt.ai (zD rfl) rfl rfl ?_;refine zt.ai (zD rfl) rfl rfl ?_;refine zt.ai (zD rfl) rfl rfl ?_;refine zt.ai (PJ (n:=0) rfl rfl rfl rfl rfl rfl zd rfl zc) rfl rfl ?_;refine zt.ai (xC rfl rfl rfl rfl rfl zM (by exact yY za) rfl rfl) rfl rfl ?_;rw [Ob];refine zt.ai (yL rfl rfl rfl rfl rfl rfl zd rfl xg) rfl rfl ?_;refine zt.ai (xC rfl rfl rfl rfl rfl xg Vh rfl rfl) rfl rfl ?_;refine zt.ai (tI rfl rfl za) rfl rfl ?_;refine zt.ai (yL rfl rfl rfl rfl rfl rfl zd rfl xg) rfl rfl ?_;refine zt.dN (Vn rfl rfl rfl rfl rfl rfl xg Vh rfl rfl) rfl ?_;rw [show (zJ (nth oj v)).set 0 (.int .i64 (nth oj u+1))=zJ (nth oj u+1) from rfl,← xc];refine yW ?_;refine zt.ai (zD rfl) rfl rfl ?_;refine zt.ai (zD rfl) rfl rfl ?_;refine zt.cL (Ye rfl rfl rfl rfl rfl rfl) rfl rfl ?_;refine zt.Ap (zvT rfl rfl xg rfl rfl rfl zd (by exact WE.own rfl rfl zd (by first|exact zj _|exact (zj _).symm|exact yT|rfl|(simp;done)|omega|(simp;omega))) rfl xg xg rfl) rfl rfl ?_;refine zt.ai (yj rfl) rfl rfl ?_;refine yW ?_;refine zt.ai (tI rfl rfl za) rfl rfl ?_;refine zt.ai (zD rfl) rfl rfl ?_;refine yW ?_;refine ⟨(j+1,[]),⟨by show j+1≤r.length;omega,zp _⟩,by show r.length - (j+1)<r.length - j;omega,?_⟩;dsimp only;rw [aO];dsimp only;have e1:((W.map zJ).drop pre.length++[zJ v]:List (List FV))=([]++((u:Int)::wj++[(v:Int)])).map zJ:=by rw [← hW];simp
      have e2:((u:Int)::wj).length+1=((u:Int)::wj++[(v:Int)]).length:=by simp
      obtain ⟨Z,hZ⟩:∃ Z,([]++((u:Int)::wj++[(v:Int)])).map zJ=Z:=⟨_,rfl⟩
      rw [show ([FV.int .i64 (v:Int)]:List FV)=zJ v from rfl,e1,e2,hZ];exact (ar.cv [⟨100,some 100,0,⟨0,.own,3,1,(oj.set v (nth oj u+1)).map zJ⟩⟩,⟨101,some 58,0+1,⟨0,.own,3,1,Z⟩⟩] zh zf)
    ·rw [bj,if_neg (fun q=>by have:=q.2;rw [zK] at this;dsimp only at this;simp at h2;omega)] at aO;refine zb ?_;refine ⟨(j+1,pre),⟨by show j+1≤r.length;omega,dJ⟩,by show r.length - (j+1)<r.length - j;omega,?_⟩;dsimp only;rw [aO];dsimp only;obtain ⟨Z,hZ⟩:∃ Z,pre++(u:Int)::wj=Z:=⟨_,rfl⟩
     rw [hZ];exact (ar.cv [⟨100,some 100,0,⟨0,.own,3,1,oj.map zJ⟩⟩,⟨101,some 101,0,⟨0,.own,3,1,Z.map zJ⟩⟩] zh zf)
   ·rw [bj,if_neg (fun q=>by simp at h1;omega)] at aO;refine zb ?_;refine ⟨(j+1,pre),⟨by show j+1≤r.length;omega,dJ⟩,by show r.length - (j+1)<r.length - j;omega,?_⟩;dsimp only;rw [aO];dsimp only;obtain ⟨Z,hZ⟩:∃ Z,pre++(u:Int)::wj=Z:=⟨_,rfl⟩
    rw [hZ];exact (ar.cv [⟨100,some 100,0,⟨0,.own,3,1,oj.map zJ⟩⟩,⟨101,some 101,0,⟨0,.own,3,1,Z.map zJ⟩⟩] zh zf)
  ·obtain rfl:j=r.length:=by simp at h;omega
   clear h bT;have he:=eY rfl;refine zb ?_;have SY:=hB.round (t:=t) bO hlen zc;rw [he] at SY cD;refine ⟨(i+1,pre++[(u:Int)]),⟨by rw [cD];exact SY,by simp;omega⟩,by show n - (i+1)<n - i;omega,?_⟩;dsimp only;rw [cD];dsimp only;rw [zN,yV];exact (ar.cv [⟨100,some 100,0,⟨0,.own,3,1,oj.map zJ⟩⟩,⟨101,some 101,0,⟨0,.own,3,1,(pre++([(u:Int)]++wj)).map zJ⟩⟩] zh zf)
 ·obtain rfl:w=[]:=by simpa using h
  refine zb ?_;exact FW.ret ⟨.inl rfl,tF rfl rfl rfl (by simp [nQ]) zd (by rw [ef rfl]) (lO.js _)⟩
def qF (p:Int→Bool) (r:List Int):Nat→Nat→Int
 | 0, _ => -1
 | k+1, i => if p (nth r i) then i else qF p r k (i+1)
def y9 (p:Int→Bool) (r:List Int):Int:=qF p r r.length 0
def ou (d:List Int) (st left w:Int):Bool:=decide (st<w∧nth d w.toNat=left)
theorem zm4 (p:Int→Bool) (r:List Int) (h:i<r.length):qF p r (r.length - i) i=if p (nth r i) then (i:Int) else qF p r (r.length - (i+1)) (i+1):=by
 rw [show r.length - i=(r.length - (i+1))+1 by omega];rfl
theorem zmP (d:List Int) (st left:Int) (w:Nat) (hw:w<d.length):xA Tryz.prog 64 ([.int .i64 w]++[.ax 1 [[.int .i64 st]] 0 0,.ax 1 [[.list 1 (d.map zJ)]] 0 0,.ax 1 [[.int .i64 left]] 0 0]) .fr (.bool (ou d st left w)):=by
 refine ym 17 Tryz.func64 Tryz.ntmps64 rfl ?_;change FW _ _ _ ⟨[(0,.int .i64 w),(1,.ax 1 [[.int .i64 st]] 0 0),(2,.ax 1 [[.list 1 (d.map zJ)]] 0 0),(3,.ax 1 [[.int .i64 left]] 0 0)],[]⟩;refine Zf ?_;refine Cg (fun h1=>?_) (fun h1=>?_)
 ·refine yH ?_;refine ⟨by kernel_rfl,?_⟩;skip;refine FW.ret ⟨.inl rfl,yt rfl rfl ?_ rfl⟩;have iB : st<(w:Int):=by simpa using h1
  simp [ou,iB];rfl
 ·refine yH ?_;refine ⟨by kernel_rfl,?_⟩;skip;refine FW.ret ⟨.inl rfl,yt rfl rfl ?_ rfl⟩;have iB : ¬ st<(w:Int):=by simpa using h1
  simp [ou,iB];rfl
theorem V7 (r:List Int) (cf:Nat) (aH:List FV) (p:Int→Bool) (hr:r.length≤1000000) (hp:∀ x∈r,xA Tryz.prog cf ([.int .i64 x]++aH) .fr (.bool (p x))):xA Tryz.prog 50 [.list 1 (r.map zJ),.fn cf aH] .fr (.int .i64 (y9 p r)):=by
 refine ym 19 Tryz.func50 Tryz.ntmps50 rfl ?_;change FW _ _ _ ⟨[(0,.list 1 (r.map zJ)),(1,.fn cf aH)],[]⟩;refine zb ?_;refine FW.loop (fun i:Nat=>⟨[(0,.list 1 (r.map zJ)),(1,.fn cf aH),(7,.int .i64 r.length),(8,.int .i64 i)],[]⟩) (fun i=>i≤r.length∧qF p r (r.length - i) i=y9 p r) (fun i=>r.length - i) 0 ⟨zp _,rfl⟩ (ar.cv [] xu zf) ?_;rintro i ⟨hi,hf⟩;refine zb ?_;refine FW.cond rfl (fun h=>?_) (fun h=>?_)
 ·have aA:i<r.length:=by simpa using h
  clear h;have Df:=hp _ (zu aA);rw [zm4 p r aA] at hf;refine zb ?_;refine H2 rfl Df (by repeat (first|exact zH.nil|refine zH.cons zB ?_)) rfl rfl ?_;refine zb ?_;refine FW.cond rfl (fun h=>?_) (fun h=>?_)
  ·refine zb ?_;rw [if_pos h] at hf;exact FW.ret ⟨.inl rfl,yt rfl rfl (congrArg (FV.int .i64) hf) rfl⟩
  ·refine zb ?_;rw [if_neg (by rw [h];decide)] at hf;refine ⟨i+1,⟨by omega,hf⟩,by omega,?_⟩;exact (ar.cv [] xu zf)
 ·obtain rfl:i=r.length:=by simp at h;omega
  rw [xZ] at hf;refine zb ?_;exact FW.ret ⟨.inl rfl,yt rfl rfl (by rw [← hf];rfl) rfl⟩
end
theorem ZL:x∈zP E v↔∃ e∈E,e.1=v∧(e.2:Int)=x:=by
 unfold zP Mh UL;rw [Z0,List.mem_mergeSort,yy,zi];constructor
 ·rintro ⟨e,he,rfl⟩;obtain ⟨h1,h2⟩:=zY.1 he;exact ⟨e,h1,by simpa using h2,rfl⟩
 ·rintro ⟨e,h1,h2,rfl⟩;exact ⟨e,zY.2 ⟨h1,by simpa using h2⟩,rfl⟩
theorem zmj (E:List (Nat×Nat)) (v:Nat):(zP E v).Pairwise (· < ·):=Y9 (zmi _)
def yG (n:Nat) (E:List (Nat×Nat)):List (List Int):=(List.range n).map (zP E)
theorem xK (n:Nat) (E:List (Nat×Nat)):(yG n E).length=n:=by simp [yG]
theorem WW (E:List (Nat×Nat)) (h:v<n):nth (yG n E) v=zP E v:=by
 rw [ak (by rw [xK];exact h)];simp [yG]
def dV (n:Nat) (E:List (Nat×Nat)):Prop:=∀ e∈E,e.1<n∧e.2<n
theorem Zh (h:dV n E) (hx:x∈zP E v):0≤x∧x<n:=by
 obtain ⟨e,he,_,rfl⟩:=ZL.1 hx;have:=(h e he).2;omega
theorem Wu (h:dV n E):∀ r∈yG n E,∀ v∈r,(0:Int)≤v∧v<n:=fun r hr v hv=>by
 obtain ⟨u,_,rfl⟩:=zi.1 hr;exact Zh h hv
theorem HL (E:List (Nat×Nat)) (v:Nat):(zP E v).length≤E.length:=yc (ztt _) (Qp E v _)
theorem ztk (n:Nat) (E:List (Nat×Nat)):∀ r∈yG n E,r.length≤E.length:=fun r hr=>by
 obtain ⟨u,_,rfl⟩:=zi.1 hr;exact HL E u
def ZP (E:List (Nat×Nat)):List (Nat×Nat):=E.map fun e=>(e.2,e.1)
theorem XD (h:dV n E):dV n (ZP E):=fun e he=>by
 obtain ⟨q,hq,rfl⟩:=zi.1 he;exact ⟨(h q hq).2,(h q hq).1⟩
theorem zjb:(v:Int)∈zP (ZP E) u↔(u:Int)∈zP E v:=by
 rw [ZL,ZL];constructor
 ·rintro ⟨e,he,h1,h2⟩;obtain ⟨q,hq,rfl⟩:=zi.1 he;dsimp only at h1 h2;exact ⟨q,hq,by omega,by omega⟩
 ·rintro ⟨q,hq,h1,h2⟩;exact ⟨_,zi.2 ⟨q,hq,rfl⟩,by dsimp only;omega,by dsimp only;omega⟩
def yK (n:Nat) (E:List (Nat×Nat)) (st:Nat):List Int:=jR (yG n (ZP E)) n st
theorem Qf (h:dV n E) (hs:st<n):(yK n E st).length=n:=by
 obtain ⟨_,_,i,h3⟩:=B9 hs (Wu (XD h)) (xK n _);exact h3.len
theorem zkO (h:dV n E) (hs:st<n) (hv:v<n):-1≤nth (yK n E st) v∧nth (yK n E st) v<n:=by
 obtain ⟨_,_,i,h3⟩:=B9 hs (Wu (XD h)) (xK n _);have h4:-1≤nth (yK n E st) v∧nth (yK n E st) v<XO (yK n E st):=h3.nth hv;have h5:XO (yK n E st)≤(yK n E st).length:=XS;rw [Qf h hs] at h5;omega
theorem Qg (h:dV n E) (hs:st<n) (hv:v<n) (h1:1≤nth (yK n E st) v):∃ u,u<n∧(u:Int)∈zP E v∧nth (yK n E st) u=nth (yK n E st) v - 1:=by
 obtain ⟨_,h2,_⟩:=B9 hs (Wu (XD h)) (xK n _);obtain ⟨u,hu,hm,e⟩:=h2.par v hv h1;rw [WW _ hu] at hm;exact ⟨u,hu,zjb.1 hm,e⟩
theorem Ku (h:dV n E) (hs:st<n) (hv:v<n) (h1:1≤nth (yK n E st) v):st<v:=by
 obtain ⟨_,h2,_⟩:=B9 hs (Wu (XD h)) (xK n _);by_cases e:v=st
 ·subst e;have h0:nth (yK n E v) v=0:=h2.tz;omega
 ·exact (h2.I7 v hv (by have iB : 1≤nth (gi (yG n (ZP E)) st (n+1) (xM n st)).1 v:=h1;omega) e).1
theorem Y6 {p:Int→Bool} {r:List Int}:∀ {k i:Nat},i+k=r.length→(∃ j,i≤j∧j<r.length∧p (nth r j)=true)→∃ j,i≤j∧j<r.length∧qF p r k i=j∧p (nth r j)=true
 | 0, i, hk, ⟨j, h1, h2, _⟩ => by omega
 | k + 1,i,hk,⟨j,h1,h2,h3⟩=>by
  unfold qF;by_cases hp:p (nth r i)=true
  ·exact ⟨i,zg _,by omega,by rw [if_pos hp],hp⟩
  ·rw [if_neg hp];obtain ⟨q,q1,q2,q3,q4⟩:=Y6 (p:=p) (r:=r) (k:=k) (i:=i+1) za ⟨j,by
    rcases yg i j with h|h
    ·exact h
    ·obtain rfl:i=j:=by omega
     exact absurd h3 hp,h2,h3⟩
   exact ⟨q,by omega,q2,q3,q4⟩
theorem Ps {p:Int→Bool} {r:List Int} (hx:x∈r) (hp:p x=true):∃ j,j<r.length∧y9 p r=j∧p (nth r j)=true:=by
 obtain ⟨j,hj,rfl⟩:=zU hx;obtain ⟨q,_,q2,q3,q4⟩:=Y6 (p:=p) (r:=r) (k:=r.length) (i:=0) za ⟨j,zp _,hj,by rw [ak hj];exact hp⟩;exact ⟨q,q2,q3,q4⟩
def xL (d:List Int) (st len w:Int):Int:=if (st≤w∧0≤nth d w.toNat)∧(len=0∨nth d w.toNat+1<len) then nth d w.toNat+1 else len
def Yi (d:List Int) (st:Int) (row:List Int):Int:=row.foldl (xL d st) 0
def Xm (E:List (Nat×Nat)) (d:List Int) (st left:Int) (v:Nat):Nat:=(nth (zP E v) (y9 (ou d st left) (zP E v)).toNat).toNat
def VJ (E:List (Nat×Nat)) (d:List Int) (st:Int):Nat→Nat→List Int
 | 0, _ => []
 | k+1, v => (Xm E d st (k+1:Nat) v:Int) :: VJ E d st k (Xm E d st (k+1:Nat) v)
def Way (E:List (Nat×Nat)) (d:List Int) (st:Int) (left:Nat) (v:Nat):Prop:=left=0∨∃ w∈zP E v,ou d st left w=true
theorem Way.step {n:Nat} {E:List (Nat×Nat)} (h:dV n E) {st:Nat} (hs:st<n) {k v:Nat} (hw:Way E (yK n E st) st (k+1) v) :
  ∃ j,j<(zP E v).length∧y9 (ou (yK n E st) st (k+1:Nat)) (zP E v)=j∧nth (zP E v) j=(Xm E (yK n E st) st (k+1:Nat) v:Int)∧Xm E (yK n E st) st (k+1:Nat) v<n∧Way E (yK n E st) st k (Xm E (yK n E st) st (k+1:Nat) v):=by
 rcases hw with h0|⟨w,hw,hp⟩
 ·omega
 obtain ⟨j,hj,e,hq⟩:=Ps hw hp;have aP:=Zh h (zu hj);have aO:Xm E (yK n E st) st (k+1:Nat) v=(nth (zP E v) j).toNat:=by unfold Xm;rw [e];rfl
 rw [aO];refine ⟨j,hj,e,by omega,by omega,?_⟩;rcases Yv k with rfl|hk
 ·exact .inl rfl
 ·unfold ou at hq;rw [decide_eq_true_eq] at hq;obtain ⟨u,hu,hm,hd⟩:=Qg h hs (v:=(nth (zP E v) j).toNat) za za;refine .inr ⟨u,hm,?_⟩;have hb:=Ku h hs hu za;unfold ou;rw [decide_eq_true_eq,zK];omega
theorem zi6 (d:List Int) (st:Int):∀ (row:List Int) (len:Int),row.foldl (xL d st) len=len∨∃ w∈row,st≤w∧0≤nth d w.toNat∧row.foldl (xL d st) len=nth d w.toNat+1
 | [], len => .inl rfl
 | w::row,len=>by
  rw [XT];rcases zi6 d st row (xL d st len w) with h|⟨x,hx,h1,h2,h3⟩
  ·rw [h];unfold xL;split
   ·rename_i hc;exact .inr ⟨w,by simp,hc.1.1,hc.1.2,rfl⟩
   ·exact .inl rfl
  ·exact .inr ⟨x,by simp [hx],h1,h2,h3⟩
theorem PE (d:List Int) (st:Int) (row:List Int):Yi d st row=0∨∃ w∈row,st≤w∧0≤nth d w.toNat∧Yi d st row=nth d w.toNat+1:=zi6 d st row 0
theorem J9 (h:dV n E) (hs:st<n) (h0:Yi (yK n E st) st (zP E st)≠0) :
  ∃ k:Nat,Yi (yK n E st) st (zP E st)=(k+1:Nat)∧k<n∧Way E (yK n E st) st k st:=by
 rcases PE (yK n E st) st (zP E st) with e|⟨w,hw,h1,h2,h3⟩
 ·exact absurd e h0
 ·have aP:=Zh h hw;have hr:=zkO h hs (v:=w.toNat) za;refine ⟨(nth (yK n E st) w.toNat).toNat,by omega,by omega,?_⟩;rcases Int.lt_or_le 0 (nth (yK n E st) w.toNat) with hp|hp
  ·have hb:=Ku h hs (v:=w.toNat) za za;refine .inr ⟨w,hw,?_⟩;unfold ou;rw [decide_eq_true_eq];omega
  ·exact .inl za
def Cd (n:Nat) (E:List (Nat×Nat)) (pb:List Int) (st:Nat):List Int:=
 let L:=Yi (yK n E st) st (zP E st)
 if L=0∨(pb≠[]∧(pb.length:Int)≤L) then pb else (st:Int)::VJ E (yK n E st) st (L.toNat - 1) st
def IA (n:Nat) (E:List (Nat×Nat)):List Int:=(List.range n).foldl (Cd n E) []
theorem K6 (E:List (Nat×Nat)) (d:List Int) (st:Int):∀ (k v:Nat),(VJ E d st k v).length=k
 | 0, _ => rfl
 | k+1, v => by unfold VJ; rw [yS, K6]
theorem zmO (h:dV n E) (hs:st<n) {pb:List Int} (hb:pb.length≤n):(Cd n E pb st).length≤n:=by
 unfold Cd;dsimp only;split
 ·exact hb
 ·rename_i hc;obtain ⟨k,e,hk,_⟩:=J9 h hs (fun e=>hc (.inl e));rw [yS,K6,e];omega
structure QI (rows:List (List Int)) (t n:Nat) (s:List Int×List Int):Prop where
 sorted:s.2.Pairwise fun a b=>nth s.1 a.toNat≤nth s.1 b.toNat
 top:∀ u w,s.2=u::w→∀ v,v<n→nth s.1 v≤nth s.1 u.toNat+1
 done:∀ q:Nat,q<n→0≤nth s.1 q→(q:Int)∉s.2→∀ v∈nth rows q,(t:Int)<v→0≤nth s.1 v.toNat∧nth s.1 v.toNat≤nth s.1 q+1
structure RI (rows:List (List Int)) (t n u:Nat) (dn:List Int) (s:List Int×List Int):Prop where
 hd:∃ w,s.2=(u:Int)::w
 sorted:s.2.Pairwise fun a b=>nth s.1 a.toNat≤nth s.1 b.toNat
 top:∀ v,v<n→nth s.1 v≤nth s.1 u+1
 bL:∀ q:Nat,q<n→0≤nth s.1 q→(q:Int)∉s.2→∀ v∈nth rows q,(t:Int)<v→0≤nth s.1 v.toNat∧nth s.1 v.toNat≤nth s.1 q+1
 part:∀ v∈dn,(t:Int)<v→0≤nth s.1 v.toNat∧nth s.1 v.toNat≤nth s.1 u+1
theorem RI.bj {t:Nat} {dn:List Int} (h:RI rows t n u dn s) (hB:BI n i s) (hW:∀ w∈s.2,0≤nth s.1 w.toNat) (hu:u<n) (hv:v<n) (bO:∀ r∈rows,∀ x∈r,(0:Int)≤x∧x<n) (fq:∀ x∈dn,(0:Int)≤x∧x<n) :
  RI rows t n u (dn++[(v:Int)]) (Proofs.YtphidhljdcledaaGreat.bj t u s v):=by
 obtain ⟨w,hw⟩:=h.hd;have BA:0≤nth s.1 u:=by have:=hW u (by rw [hw];simp);simpa using this
 unfold Proofs.YtphidhljdcledaaGreat.bj;by_cases hc:(t:Int)<v∧nth s.1 (v:Int).toNat<0
 ·rw [if_pos hc];simp only [zK] at hc ⊢;have mH:v<s.1.length:=by rw [hB.len];exact hv
  have bI:nth (s.1.set v (nth s.1 u+1)) v=nth s.1 u+1:=yf mH;have aN:∀ q:Nat,q≠v→nth (s.1.set v (nth s.1 u+1)) q=nth s.1 q:=fun q hq=>yn (fun e=>hq e.symm);have bm:∀ q:Nat,0≤nth s.1 q→nth (s.1.set v (nth s.1 u+1)) q=nth s.1 q:=fun q hq=>aN q (fun e=>by subst e;omega);have GK:nth (s.1.set v (nth s.1 u+1)) u=nth s.1 u:=bm u BA;refine ⟨⟨w++[(v:Int)],by rw [hw];rfl⟩,?_,fun q hq=>?_,fun q hq h0 hm x hx Bz=>?_,fun x hx Bz=>?_⟩
  ·dsimp only;refine Xq.2 ⟨?_,by simp,fun a ha b hb=>?_⟩
   ·refine h.sorted.imp_of_mem fun {a b} ha hb eX=>?_;rw [bm _ (hW a ha),bm _ (hW b hb)];exact eX
   ·rw [zq.1 hb,zK,bI,bm _ (hW a ha)];have:=hB.wk a ha;exact h.top _ za
  ·dsimp only;rw [GK];by_cases e:q=v
   ·subst e;rw [bI];omega
   ·rw [aN q e];exact h.top q hq
  ·dsimp only at h0 hm ⊢;have hqv:q≠v:=fun e=>hm (by subst e;simp);rw [aN q hqv] at h0 ⊢;obtain ⟨k1,k2⟩:=h.bL q hq h0 (fun oM=>hm (xm _ oM)) x hx Bz;rw [bm _ k1];exact ⟨k1,k2⟩
  ·dsimp only;rw [GK];rcases zC.1 hx with hx|hx
   ·obtain ⟨k1,k2⟩:=h.part x hx Bz;rw [bm _ k1];exact ⟨k1,k2⟩
   ·rw [zq.1 hx,zK,bI];omega
 ·rw [if_neg hc];refine ⟨h.hd,h.sorted,h.top,h.bL,fun x hx Bz=>?_⟩;rcases zC.1 hx with hx|hx
  ·exact h.part x hx Bz
  ·rw [zq.1 hx] at Bz ⊢;rw [zK] at hc ⊢;have h1:¬ nth s.1 v<0:=fun q=>hc ⟨Bz,q⟩;exact ⟨by omega,h.top v hv⟩
theorem RI.fold {rows:List (List Int)} {t n i u:Nat} (hu:u<n) (bO:∀ r∈rows,∀ x∈r,(0:Int)≤x∧x<n):∀ {l dn:List Int} {s:List Int×List Int},RI rows t n u dn s→BI n i s→PI rows t n s→0≤nth s.1 u→(∀ v∈l,v∈nth rows u∧0≤v∧v<n)→(∀ x∈dn,(0:Int)≤x∧x<n)→RI rows t n u (dn++l) (l.foldl (Proofs.YtphidhljdcledaaGreat.bj t u) s)
 | [], dn, s, h, _, _, _, _, _ => by rw [zT]; exact h
 | v::l,dn,s,h,hB,hP,h0,hl,fq=>by
  obtain ⟨m1,m2,m3⟩:=hl v zc;obtain ⟨v,rfl⟩:∃ v' : Nat,v=v':=⟨v.toNat,by omega⟩
  have h1:=h.bj hB hP.wk hu (v:=v) za bO fq;have h2:=RI.fold (i:=i) hu bO (l:=l) h1 (hB.bj ⟨by omega,by omega⟩ ⟨m2,m3⟩) (hP.bj hB hu za h0 m1) (by rw [Z3 h0];exact h0) (fun x hx=>hl x (by simp [hx])) (fun x hx=>by
   rcases zC.1 hx with hx|hx
   ·exact fq x hx
   ·rw [zq.1 hx];omega)
  rw [yV] at h2;exact h2
theorem QI.round {t:Nat} (bO:∀ r∈rows,∀ v∈r,(0:Int)≤v∧v<n) (hlen:rows.length=n) (h:QI rows t n s) (hB:BI n i s) (hP:PI rows t n s):QI rows t n (Cl rows t s):=by
 obtain ⟨o,w⟩:=s;cases w with
 | nil => exact h
 | cons u w=>
  have hu:=hB.wk u zc;obtain ⟨u,rfl⟩:∃ u' : Nat,u=u':=⟨u.toNat,by omega⟩
  have hm:=zu (l:=rows) (i:=u) za;have BA:0≤nth o u:=by have:=hP.wk (u:Int) zc;simpa using this
  have Ju:RI rows t n u [] (o,(u:Int)::w):=⟨⟨w,rfl⟩,h.sorted,fun v hv=>by have:=h.top u w rfl v hv;simpa using this,h.done,fun v hv=>by cases hv⟩
  have hR:=RI.fold (i:=i) za bO (l:=nth rows u) Ju hB hP BA (fun v hv=>⟨hv,bO _ hm v hv⟩) (fun x hx=>by cases hx);rw [YQ] at hR;show QI rows t n (((nth rows u).foldl (Proofs.YtphidhljdcledaaGreat.bj t u) (o,(u:Int)::w)).1,((nth rows u).foldl (Proofs.YtphidhljdcledaaGreat.bj t u) (o,(u:Int)::w)).2.tail);obtain ⟨o',w',e⟩:=K9 (t:=t) (u:=u) (x:=u) (l:=nth rows u) (o:=o) (w:=w);rw [e] at hR ⊢;have T7:=hR.sorted;dsimp only at T7;obtain ⟨s1,s2⟩:=Vc.1 T7;refine ⟨s2,fun x r hx v hv=>?_,fun q hq h0 kW v hv U1=>?_⟩
  ·have je : w'=x::r:=hx;have h1:=hR.top v hv;have h2:=s1 x (by rw [je];simp);rw [zK] at h2;dsimp only at h1 ⊢;omega
  ·have Od : (q:Int)∉w':=kW;by_cases Dh:q=u
   ·subst Dh;exact hR.part v hv U1
   ·exact hR.bL q hq h0 (fun cO=>by
     rcases zA.1 cO with e2|e2
     ·exact Dh za
     ·exact Od e2) v hv U1
theorem QI.start {t:Nat} (ht:t<n):QI rows t n (xM n t):=by
 have h1:∀ v,v<n→v≠t→nth (xM n t).1 v = -1:=fun v hv aN=>by
  show nth ((List.replicate n (-1)).set t 0) v = -1;rw [yn (fun e=>aN e.symm),ak (by simpa using hv)];simp
 have h2:nth (xM n t).1 t=0:=yf (by simpa using ht);refine ⟨by simp [xM],fun u w hu v hv=>?_,fun q hq h0 hm=>?_⟩
 ·have:u=(t:Int):=by have OO : [(t:Int)]=u::w:=hu;injection OO with e _;exact e.symm
  rw [this,zK,h2];by_cases e:v=t
  ·subst e;rw [h2];omega
  ·rw [h1 v hv e];omega
 ·by_cases e:q=t
  ·subst e;exact absurd (by simp [xM]) hm
  ·rw [h1 q hq e] at h0;omega
theorem zwY {rows:List (List Int)} {n t:Nat} (ht:t<n) (bO:∀ r∈rows,∀ v∈r,(0:Int)≤v∧v<n) (hlen:rows.length=n):∀ k,QI rows t n (gi rows t k (xM n t))
 | 0 => QI.start ht
 | k+1 => by
  rw [Ru];obtain ⟨i,_,hB,hP,_⟩:=RN ht bO hlen k;exact (zwY ht bO hlen k).round bO hlen hB hP
theorem PH (h:dV n E) (hs:st<n) (hu:u<n) (hv:v<n) (hm:(u:Int)∈zP E v) (hsv:st<v) (h0:0≤nth (yK n E st) u):0≤nth (yK n E st) v∧nth (yK n E st) v≤nth (yK n E st) u+1:=by
 have hr:=Wu (XD h);have hl:=xK n (ZP E);obtain ⟨he,_⟩:=B9 hs hr hl;have hq:=zwY hs hr hl (n+1);have:=hq.done u hu h0 (by rw [he];simp) (v:Int) (by rw [WW _ hu];exact zjb.2 hm) za;rw [zK] at this;exact this
theorem zn5 (h:dV n E) (hs:st<n):nth (yK n E st) st=0:=by
 obtain ⟨_,h2,_⟩:=B9 hs (Wu (XD h)) (xK n _);exact h2.tz
theorem zib (h:dV n E) (hs:st<n) (hv:v<n) (h0:nth (yK n E st) v=0):v=st:=by
 obtain ⟨_,h2,_⟩:=B9 hs (Wu (XD h)) (xK n _);by_cases e:v=st
 ·exact e
 ·have Jf : nth (gi (yG n (ZP E)) st (n+1) (xM n st)).1 v=0:=h0;have:=h2.I7 v hv za e;omega
end Go.Proofs.YtphidhljdcledaaGreat
