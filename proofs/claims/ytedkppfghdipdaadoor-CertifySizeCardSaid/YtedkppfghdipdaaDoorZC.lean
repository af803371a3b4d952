/-
  Lemmas, in parts.
-/
import Derived.Test.YtedkppfghdipdaaDoorZFmM
import Derived.Test.YtedkppfghdipdaaDoorZA
import Derived.Test.YtedkppfghdipdaaDoorProg
import Derived.KernelRfl
import Derived.Maps.OwnSet
import Derived.DeepKeys4
import Derived.Deep.RegionHeld3
import Derived.Deep.DrawnRows
import Derived.Deep.DeepCutAuto
import Derived.Test.YtedkppfghdipdaaDoorZBxxx
import Derived.ProofKit
import Derived.OpenShut
import Derived.ShutString
import Derived.ChangeOld
import Derived.Below
import Derived.Deep.Slices
import Derived.Deep.Fields
import Derived.ChangeSame
namespace Go.Proofs.YtedkppfghdipdaaDoor
set_option linter.unusedVariables false
set_option maxHeartbeats 16000000
variable {args fs dP : List FV} {es aO : List (List FV)} {ob:List (Nat×zS)} {t t' : List (Nat×FV)} {E d g i n sz:Nat} {f f0:FV} {v z:Value} {o:Oper} {w:World} {κ:Type} {ops:Array Oper} {rest:List Oper} {a:Act} {Q:Exit→Act→World→Prop} {X bq x:Int} {fn:Func} {I:Nat→Prop} {us vs:List Value} {c:Ctx}
section
open Go.RowKit
structure bl where
 new:Nat
 src:Option Nat
 vo:Nat
 b:zS
inductive XX (M:List bl):FV→FV→Prop where
 | plain {f f' : FV} (hn:f.hand=none) (e:f=f'):XX M f f'
 | own {i i' v v' o o' n n' : Nat} {b:zS} (hm:(⟨i', some i, v, b⟩:bl) ∈ M) (hv:b.aa=v') (eo:o=o') (e:n=n'):XX M (.own i v o n) (.own i' v' o' n')
 | ptr {i i' v v' j o:Nat} {b:zS} (hm:(⟨i', some i, v, b⟩:bl) ∈ M) (hv:b.aa=v'):XX M (.ptr i v j o) (.ptr i' v' j o)
 | nil {i' vo v' : Nat} {b:zS} (hm:(⟨i', none, vo, b⟩:bl) ∈ M) (hv:b.aa=v'):XX M .nil (.own i' v' 0 0)
 | cq {sz:Nat}:XX M .nil (.list sz [])
 | omap {i i' v v' : Nat} {b:zS} (hm:(⟨i', some i, v, b⟩:bl) ∈ M) (hv:b.aa=v'):XX M (.omap i v) (.omap i' v')
 | eE {k:Wk} {fs dP : List FV} (hl:fs.length=dP.length) (h:∀ (j:Nat) f f', fs[j]? = some f → dP[j]? = some f' → XX M f f'):XX M (.wrap k fs) (.wrap k dP)
inductive Um (M:List bl):List FV→List FV→Prop where
 | nil:Um M [] []
 | cons {f f' : FV} {fs dP : List FV} (h:XX M f f') (hs:Um M fs dP):Um M (f :: fs) (f' :: dP)
theorem Um.get {M:List bl} (h:Um M fs dP):fs.length=dP.length∧∀ (j:Nat) f f',fs[j]? = some f→dP[j]? = some f'→XX M f f':=by
 induction h with
 | nil => exact ⟨rfl, by simp⟩
 | cons h hs ih =>
  refine ⟨by simp [ih.1],fun j f f' hf cx=>?_⟩;cases j with
  | zero => simp at hf cx; subst hf; subst cx; exact h
  | succ j => exact ih.2 j f f' (by simpa using hf) (by simpa using cx)
theorem XX.wrap {M:List bl} {k:Wk} (h:Um M fs dP):XX M (.wrap k fs) (.wrap k dP):=.eE h.get.1 h.get.2
inductive jX (M:List bl):List (List FV)→List (List FV)→Prop where
 | nil:jX M [] []
 | cons {f f' : FV} {es aO : List (List FV)} (h:XX M f f') (hs:jX M es aO):jX M ([f] :: es) ([f'] :: aO)
theorem jX.len {M:List bl} (h:jX M es aO):es.length=aO.length∧es.flatten.length=aO.flatten.length∧(∀ e∈aO,e.length=1)∧∀ (j:Nat) f f',es.flatten[j]? = some f→aO.flatten[j]? = some f'→XX M f f':=by
 induction h with
 | nil => exact ⟨rfl, rfl, by simp, by simp⟩
 | cons h hs ih=>
  obtain ⟨h1,h2,h3,h4⟩:=ih;refine ⟨by simp [h1],by simpa using h2,fun e he=>?_,fun j f f' hf cx=>?_⟩
  ·rcases zM.1 he with rfl|he
   ·rfl
   ·exact h3 e he
  ·cases j with
   | zero => simp at hf cx; subst hf; subst cx; exact h
   | succ j => simp at hf cx; exact h4 j f f' (by simpa using hf) (by simpa using cx)
def m9 (M:List bl) (sz:Nat) (es aO : List (List FV)):Prop:=es.length=aO.length∧es.flatten.length=aO.flatten.length∧(∀ e∈aO,e.length=sz)∧∀ (j:Nat) f f',es.flatten[j]? = some f→aO.flatten[j]? = some f'→XX M f f'
def m8 (M:List bl) (es aO : List (List FV)):Prop:=es.length=aO.length∧∀ (j:Nat) dE,aO[j]? = some dE→∃ k f f',es[j]? = some [k,f]∧dE=[k,f']∧XX M f f'
def yV.plain:yV→Bool
 | .dead|.aB|.bm => false
 | _ => true
theorem yV.gD {l:yV} (h:l.plain=true):l≠.dead:=by rintro rfl;cases h
inductive xg (ob:List (Nat×zS)) (M0:List bl):List bl→Prop where
 | nil:xg ob M0 []
 | n1 {i' i vo v E sz:Nat} {lf:yV} {es aO : List (List FV)} {M:List bl} (h:look {} ob i=⟨vo, lf, E, sz, es⟩) (hl:lf.plain=true) (e:es=aO) (hM:xg ob M0 M):xg ob M0 (⟨i', some i, vo, ⟨v, lf, E, sz, aO⟩⟩ :: M)
 | new {i' vo v E sz:Nat} {M:List bl} (hM:xg ob M0 M):xg ob M0 (⟨i', none, vo, ⟨v, .own, E, sz, []⟩⟩ :: M)
 | mM {i' i vo v E:Nat} {es aO : List (List FV)} {M:List bl} (h:look {} ob i=⟨vo, .aB, E, 1, es⟩) (e:jX M0 es aO) (hM:xg ob M0 M):xg ob M0 (⟨i', some i, vo, ⟨v, .aB, E, 1, aO⟩⟩ :: M)
 | mN {i' i vo v E sz:Nat} {es aO : List (List FV)} {M:List bl} (h:look {} ob i=⟨vo, .aB, E, sz, es⟩) (e:m9 M0 sz es aO) (hM:xg ob M0 M):xg ob M0 (⟨i', some i, vo, ⟨v, .aB, E, sz, aO⟩⟩ :: M)
 | mO {i' i vo v E sz:Nat} {es aO : List (List FV)} {M:List bl} (h:look {} ob i=⟨vo, .bm, E, sz, es⟩) (e:m8 M0 es aO) (hM:xg ob M0 M):xg ob M0 (⟨i', some i, vo, ⟨v, .bm, E, sz, aO⟩⟩ :: M)
theorem xg.get {M0 M:List bl} (h:xg ob M0 M):∀ e∈M,e.b.ae≠.dead∧(∀ i,e.src=some i→∃ bU,look {} ob i=⟨e.vo,e.b.ae,e.b.E,e.b.sz,bU⟩∧bU.length=e.b.es.length∧((e.b.ae.plain=true∧bU=e.b.es)∨(e.b.ae=.aB∧m9 M0 e.b.sz bU e.b.es)∨(e.b.ae=.bm∧m8 M0 bU e.b.es)))∧(e.src=none→e.b.ae=.own∧e.b.es=[]):=by
 induction h with
 | nil => intro e he; simp at he
 | n1 h hl e hM ih=>
  intro q hq;rcases zM.1 hq with rfl|hq
  ·refine ⟨yV.gD hl,fun i hi=>?_,fun hi=>by cases hi⟩;injection hi with hi
   subst hi;subst e;exact ⟨_,h,rfl,.inl ⟨hl,rfl⟩⟩
  ·exact ih q hq
 | new hM ih =>
  intro q hq;rcases zM.1 hq with rfl|hq
  ·exact ⟨by simp,(fun i hi=>by cases hi),fun _=>⟨rfl,rfl⟩⟩
  ·exact ih q hq
 | mM h e hM ih=>
  intro q hq;rcases zM.1 hq with rfl|hq
  ·refine ⟨by simp,fun i hi=>?_,fun hi=>by cases hi⟩;injection hi with hi
   subst hi;exact ⟨_,h,e.len.1,.inr (.inl ⟨rfl,e.len⟩)⟩
  ·exact ih q hq
 | mN h e hM ih=>
  intro q hq;rcases zM.1 hq with rfl|hq
  ·refine ⟨by simp,fun i hi=>?_,fun hi=>by cases hi⟩;injection hi with hi
   subst hi;exact ⟨_,h,e.1,.inr (.inl ⟨rfl,e⟩)⟩
  ·exact ih q hq
 | mO h e hM ih=>
  intro q hq;rcases zM.1 hq with rfl|hq
  ·refine ⟨by simp,fun i hi=>?_,fun hi=>by cases hi⟩;injection hi with hi
   subst hi;exact ⟨_,h,e.1,.inr (.inr ⟨rfl,e⟩)⟩
  ·exact ih q hq
inductive fF (t:List (Nat×FV)) (M:List bl):Nat→FV→Prop where
 | plain {d:Nat} {f f' : FV} (h:look .undef t d=f) (hn:f.hand=none) (e:f=f'):fF t M d f'
 | own {d i i' v v' o n n' : Nat} {b:zS} (h:look .undef t d=(.own i v o n)) (hm:(⟨i', some i, v, b⟩:bl) ∈ M) (hv:b.aa=v') (e:n=n'):fF t M d (.own i' v' o n')
 | ptr {d i i' v v' j o:Nat} {b:zS} (h:look .undef t d=(.ptr i v j o)) (hm:(⟨i', some i, v, b⟩:bl) ∈ M) (hv:b.aa=v'):fF t M d (.ptr i' v' j o)
 | nil {d i' vo v' : Nat} {b:zS} (h:look .undef t d=.nil) (hm:(⟨i', none, vo, b⟩:bl) ∈ M) (hv:b.aa=v'):fF t M d (.own i' v' 0 0)
 | cq {d sz:Nat} (h:look .undef t d=.nil):fF t M d (.list sz [])
 | omap {d i i' v v' : Nat} {b:zS} (h:look .undef t d=(.omap i v)) (hm:(⟨i', some i, v, b⟩:bl) ∈ M) (hv:b.aa=v'):fF t M d (.omap i' v')
 | wrap {d:Nat} {k:Wk} {fs dP : List FV} (h:look .undef t d=.wrap k fs) (hc:Um M fs dP):fF t M d (.wrap k dP)
inductive iM (t:List (Nat×FV)) (M:List bl):List (Nat×FV)→Prop where
 | nil:iM t M []
 | cons {d:Nat} {f:FV} {t' : List (Nat × FV)} (h:fF t M d f) (hs:iM t M t'):iM t M ((d, f) :: t')
theorem fF.np {M:List bl} (h:fF t M d f):XX M (look .undef t d) f:=by
 cases h with
 | plain h hn e => rw [h]; exact .plain hn e
 | own h hm hv e => rw [h]; exact .own hm hv rfl e
 | ptr h hm hv => rw [h]; exact .ptr hm hv
 | nil h hm hv => rw [h]; exact .nil hm hv
 | cq h => rw [h]; exact .cq
 | omap h hm hv => rw [h]; exact .omap hm hv
 | wrap h hc => rw [h]; exact .wrap hc
theorem iM.get {M:List bl} (h:iM t M t') (d:Nat):look .undef t' d=.undef∨fF t M d (look .undef t' d):=by
 induction h with
 | nil => exact .inl rfl
 | cons h hs ih =>
  rw [zp];split
  ·rename_i e;subst e;exact .inr h
  ·exact ih
def Zt (M:List bl) (k:Nat):Option bl:=look none (M.map fun e=>(e.new,some e)) k
theorem Ws:∀ {M:List bl} {k:Nat} {e:bl},Zt M k=some e→e∈M∧e.new=k
 | [], _, _, h => by cases h
 | q :: M, k, e, h => by
  unfold Zt at h;rw [ya,zp] at h;split at h
  ·rename_i hk;injection h with h;subst h;exact ⟨by simp,hk⟩
  ·have:=Ws (M:=M) h;exact ⟨by simp [this.1],this.2⟩
theorem XH:∀ {M:List bl} (_:(M.map bl.new).Nodup) {e:bl},e∈M→Zt M e.new=some e
 | [], _, _, h => by simp at h
 | q::M,hn,e,h=>by
  unfold Zt;rw [ya,zp];rw [ya,WK] at hn;rcases zM.1 h with rfl|h
  ·rw [if_pos rfl]
  ·rw [if_neg (fun hq=>hn.1 (zK.2 ⟨e,h,hq.symm⟩))];exact XH hn.2 h
theorem n5:∀ (M:List bl) (k:Nat),look {} (M.map fun e=>(e.new,e.b)) k=((Zt M k).map bl.b).getD {}
 | [], _ => rfl
 | q :: M, k => by
  unfold Zt;rw [ya,ya,zp,zp];split
  ·rfl
  ·exact n5 M k
theorem Ye:∀ {M:List bl} (_:(M.filterMap bl.src).Nodup) {e q:bl} {i:Nat},e∈M→q∈M→e.src=some i→q.src=some i→e=q
 | [], _, _, _, _, h, _, _, _ => by simp at h
 | p::M,hn,e,q,i,he,hq,h1,h2=>by
  have key:∀ x∈M,x.src=some i→p.src=some i→False:=fun x hx ld pq=>by
   rw [Zh,pq] at hn;exact (WK.1 hn).1 (xF.2 ⟨x,hx,ld⟩)
  have jM : (M.filterMap bl.src).Nodup:=by
   rw [Zh] at hn;cases hp:p.src with
   | none => rw [hp] at hn; exact hn
   | some j => rw [hp] at hn; exact (WK.1 hn).2
  rcases zM.1 he with rfl|he
  ·rcases zM.1 hq with rfl|iv
   ·rfl
   ·exact (key q iv h2 h1).elim
  ·rcases zM.1 hq with rfl|iv
   ·exact (key e (by assumption) h1 h2).elim
   ·exact Ye jM (by assumption) iv h1 h2
inductive Un (ob:List (Nat×zS)):List bl→Prop where
 | nil:Un ob []
 | low {q:bl} {M:List bl} (h:Nat.ble xX q.new=false) (hs:Un ob M):Un ob (q :: M)
 | same {i v:Nat} {b:zS} {M:List bl} (e:b.aa=v) (hs:Un ob M):Un ob (⟨i, some i, v, b⟩ :: M)
 | bump {q:bl} {M:List bl} (e:(look {} ob q.new).aa<q.b.aa) (hs:Un ob M):Un ob (q :: M)
theorem Un.get {M:List bl} (h:Un ob M):∀ q∈M,xX≤q.new→(q.src=some q.new∧q.b.aa=q.vo)∨(look {} ob q.new).aa<q.b.aa:=by
 induction h with
 | nil => intro q hq; cases hq
 | low h hs ih =>
  intro q hq fW;rcases zM.1 hq with rfl|hq
  ·rw [Nat.ble_eq_true_of_le fW] at h;cases h
  ·exact ih q hq fW
 | same e hs ih =>
  intro q hq fW;rcases zM.1 hq with rfl|hq
  ·exact .inl ⟨rfl,e⟩
  ·exact ih q hq fW
 | bump e hs ih =>
  intro q hq fW;rcases zM.1 hq with rfl|hq
  ·exact .inr e
  ·exact ih q hq fW
def mY (ob:List (Nat×zS)) (M:List bl):Bool:=ob.all fun p=>!Nat.ble xX p.1 || M.any fun q=>Nat.beq q.new p.1
theorem VN {α:Type} {d:α}:∀ {l:List (Nat×α)} {k:Nat},(∀ p∈l,p.1≠k)→look d l k=d
 | [], _, _ => rfl
 | p :: l, k, h => by
  obtain ⟨i,x⟩:=p;rw [zp,if_neg (h (i,x) zd)];exact VN fun p hp=>h p (YV _ hp)
theorem rP {M:List bl} (h:mY ob M=true) {k:Nat} (hk:xX≤k):(∃ q∈M,q.new=k)∨look {} ob k={}:=by
 by_cases hx:∃ p∈ob,p.1=k
 ·obtain ⟨p,hp,rfl⟩:=hx;have h1:=zC.1 h p hp;rw [Nat.ble_eq_true_of_le hk] at h1;simp only [Bool.not_true,yI] at h1;obtain ⟨q,hq,e⟩:=ZQ.1 h1;exact .inl ⟨q,hq,Nat.eq_of_beq_eq_true e⟩
 ·exact .inr (VN fun p hp e=>hx ⟨p,hp,e⟩)
theorem aI.conv (M:List bl) (hk:(M.map bl.new).Nodup) (hs:(M.filterMap bl.src).Nodup) (l0:mY ob M=true) (k6:Un ob M) (ho:xg ob M M) (ht:iM t M t'):aI ⟨t,ob⟩ ⟨t',M.map fun e=>(e.new,e.b)⟩:=by
 intro N w0 J a w β hF;refine ⟨fun k=>(Zt M k).bind fun e=>e.src.bind β,?_⟩;have hE:=ho.get;have cy:∀ k,(⟨t',M.map fun e=>(e.new,e.b)⟩:ab).ob k=((Zt M k).map bl.b).getD {}:=fun k=>n5 M k;have cL:∀ e∈M,(⟨t',M.map fun e=>(e.new,e.b)⟩:ab).ob e.new=e.b:=fun e he=>by rw [cy,XH hk he];rfl
 have gS:∀ e∈M,((Zt M e.new).bind fun e=>e.src.bind β)=e.src.bind β:=fun e he=>by rw [XH hk he];rfl
 have ah:∀ k,((⟨t',M.map fun e=>(e.new,e.b)⟩:ab).ob k).ae≠.dead→∃ e∈M,e.new=k:=fun k hl=>by
  rw [cy] at hl;cases hm:Zt M k with
  | none => rw [hm] at hl; exact absurd rfl hl
  | some e => exact ⟨e, Ws hm⟩
 have hold:∀ e∈M,∀ i,e.src=some i→∃ bU,(⟨t,ob⟩:ab).ob i=⟨e.vo,e.b.ae,e.b.E,e.b.sz,bU⟩∧bU.length=e.b.es.length∧((e.b.ae.plain=true∧bU=e.b.es)∨(e.b.ae=.aB∧m9 M e.b.sz bU e.b.es)∨(e.b.ae=.bm∧m8 M bU e.b.es)):=fun e he i hi=>(hE e he).2.1 i hi;have hI:∀ b,aH J w β ⟨t,ob⟩ b→aH J w (fun k=>(Zt M k).bind fun e=>e.src.bind β) ⟨t',M.map fun e=>(e.new,e.b)⟩ b∧w.heap[b]? = w.heap[b]?:=fun b hb=>by
  refine ⟨⟨hb.1,hb.2.1,fun id hl=>?_⟩,rfl⟩;obtain ⟨e,he,rfl⟩:=ah id (yV.aX hl);rw [cL e he] at hl;dsimp only;rw [gS e he];cases g5:e.src with
  | none => simp
  | some i =>
   obtain ⟨bU,h1,_⟩:=hold e he i g5;exact hb.2.2 i (by rw [h1];exact hl)
 have kB:∀ e∈M,∀ i,e.src=some i→∀ v o n,Wa w (β i) ((⟨t,ob⟩:ab).ob i) v o n→Wa w ((Zt M e.new).bind fun e=>e.src.bind β) ((⟨t',M.map fun e=>(e.new,e.b)⟩:ab).ob e.new) v o n:=fun e he i hi v o n h=>by
  rw [gS e he,hi,cL e he];obtain ⟨bU,h1,h2,_⟩:=hold e he i hi;rw [h1] at h;obtain ⟨A,c,k1,k2,k3,k4,k5⟩:=h.ex;exact ⟨h.row,A,c,k1,k2,by rw [← h2];exact k3,k4,k5⟩
 have kG:∀ v f f',XX M f f'→hL w (aH J w β ⟨t,ob⟩) β ⟨t,ob⟩ v f→hL w (aH J w (fun k=>(Zt M k).bind fun e=>e.src.bind β) ⟨t',M.map fun e=>(e.new,e.b)⟩) (fun k=>(Zt M k).bind fun e=>e.src.bind β) ⟨t',M.map fun e=>(e.new,e.b)⟩ v f':=fun v f f' hc hv=>by
  cases hc with
  | plain hn e =>
   subst e;cases f <;> first|exact Rd.mono hI hv|(simp [FV.hand] at hn)
  | own hm az eo e =>
   intro _ _;subst e;subst eo;obtain ⟨bU,h1,_⟩:=hold _ hm _ rfl;exact kB _ hm _ rfl _ _ _ (hv (by rw [h1];exact (hE _ hm).1) (by rw [h1]))
  | @ptr i i' v v' j o b hm az =>
   intro _ _;obtain ⟨bU,h1,_⟩:=hold _ hm _ rfl;obtain ⟨aW,bb,hb,hp⟩:=hv (by rw [h1];exact (hE _ hm).1) (by rw [h1]);have h2:=cL _ hm;have h3:=gS _ hm;dsimp only at h2 h3;rw [h1] at aW hp;refine ⟨by rw [h2];exact aW,bb,?_,by rw [h2];exact hp⟩;dsimp only;rw [h3];exact hb
  | @nil i' vo v' b hm az =>
   intro _ _;have h2:=cL _ hm;have h3:=gS _ hm;dsimp only at h2 h3;have eZ : Rd w _ v .nil:=hv;have gi:v=.slice none 0 0:=by cases eZ;rfl
   rw [gi];dsimp only;rw [h2,h3];exact ⟨by have:=((hE _ hm).2.2 rfl).1;dsimp only at this;rw [this];rfl,none,0,rfl,zi _,by omega,fun _=>⟨rfl,rfl⟩,fun b hb=>by simp at hb⟩
  | eE hl bh => have eZ : Rd w _ v (.wrap _ _) := hv; cases eZ
  | cq =>
   have eZ : Rd w _ v .nil:=hv;have gi:v=.slice none 0 0:=by cases eZ;rfl
   rw [gi];exact Rd.list none 0 0 _ [] [] rfl (zi _) zd zd zd zd zd
  | @omap i i' v v' b hm az =>
   intro _ _;obtain ⟨bU,h1,_⟩:=hold _ hm _ rfl;obtain ⟨aW,bb,hb,hp⟩:=hv (by rw [h1];exact (hE _ hm).1) (by rw [h1]);have h2:=cL _ hm;have h3:=gS _ hm;dsimp only at h2 h3;rw [h1] at aW;refine ⟨by rw [h2];exact aW,bb,?_,hp⟩;dsimp only;rw [h3];exact hb
 have jl:∀ v f f',XX M f f'→VR w (aH J w β ⟨t,ob⟩) β ⟨t,ob⟩ v f→VR w (aH J w (fun k=>(Zt M k).bind fun e=>e.src.bind β) ⟨t',M.map fun e=>(e.new,e.b)⟩) (fun k=>(Zt M k).bind fun e=>e.src.bind β) ⟨t',M.map fun e=>(e.new,e.b)⟩ v f':=fun v f f' hc hv=>by
  by_cases hw:∃ k fs,f=.wrap k fs
  ·obtain ⟨k,fs,rfl⟩:=hw;cases hc with
   | plain hn e => cases hn
   | eE hl bh =>
    obtain ⟨us,e,h1,h2⟩:=hv;refine ⟨us,e,h1.trans hl,fun j u g hu hg=>?_⟩;rename_i dP;have hj:j<fs.length:=by rw [hl];exact (zP.1 hg).1
    exact kG u fs[j] g (bh j fs[j] g (by simp [hj]) hg) (h2 j u fs[j] hu (by simp [hj]))
  ·exact VR.nZ (kG v f f' hc (hv.mP fun k fs e=>hw ⟨k,fs,e⟩))
 have eC:∀ f f',XX M f f'→∀ id aa,(id,aa)∈f'.hands→aa≤((⟨t',M.map fun e=>(e.new,e.b)⟩:ab).ob id).aa:=fun f f' hc id aa hh=>by
  cases hc with
  | plain hn e => rw [← e] at hh; exact (FV.aS hn hh).elim
  | cq => cases hh
  | eE hl bh=>
   obtain ⟨g,hg,e⟩:=xF.1 hh;obtain ⟨j,hj,rfl⟩:=yl hg;rename_i fs dP;have ew:j<fs.length:=by rw [hl];exact hj
   have eW:=bh j fs[j] dP[j] (by simp [ew]) zd;generalize fs[j]=f0 at eW;generalize dP[j]=f1 at eW e;cases eW with
   | plain hn e1 => rw [← e1, hn] at e; cases e
   | cq => cases e
   | eE _ _ => simp only [FV.hand, zB, zU] at e; omega
   | _ hm az =>
    simp only [FV.hand,zB,zU] at e;obtain ⟨rfl,rfl⟩:=e;have h2:=cL _ hm;dsimp only at h2;rw [h2,az];exact zi _
  | _ hm az =>
   simp only [FV.hands,zX,zU] at hh;obtain ⟨e1,e2⟩:=hh;replace e1:=e1.symm;replace e2:=e2.symm;subst e1;subst e2;have h2:=cL _ hm;dsimp only at h2;rw [h2,az];exact zi _
 refine { size:=hF.size,defers:=hF.defers,bF:=hF.bF,cV:=hF.cV,slot:=fun d=>?_,cE:=fun d id aa hh=>?_,obj:=fun id hl=>?_,inj:=fun id aQ b hl ba e e'=>?_,kept:=fun b hb=>⟨(hF.kept b hb).1,fun id hl e=>?_,(hF.kept b hb).2.2⟩,gh:=fun v f hg=>?_ }
 ·show VR _ _ _ _ _ (look .undef t' d);rcases ht.get d with h|h
  ·rw [h];exact VR.a9 (.undef _) rfl
  ·exact jl _ _ _ h.np (hF.slot d)
 ·have l6 : (id,aa)∈(look FV.undef t' d).hands:=hh;rcases ht.get d with h|h
  ·rw [h] at l6;cases l6
  ·exact eC _ _ h.np id aa l6
 ·obtain ⟨e,he,rfl⟩:=ah id hl;rw [cL e he,gS e he];cases g5:e.src with
  | none =>
   obtain ⟨h1,h2⟩:=(hE e he).2.2 g5;refine .ofRow ?_ (.own h1) (by rw [h1];rfl);refine ⟨by rw [h2];simp,by rw [h2];simp,.slice none 0 0,[],?_,rfl,?_⟩
   ·rw [h2];exact ZN _ _ _ _
   ·rw [h2];exact ax.nil
  | some i=>
   obtain ⟨bU,h1,hlen,dk⟩:=hold e he i g5;have h2:=hF.obj i (by rw [h1];exact (hE e he).1);rw [h1] at h2;rcases dk with ⟨gq,rfl⟩|⟨hh,aB⟩|⟨hh,pb⟩
   ·cases hr:e.b.ae.row with
    | true =>
     have h4:=h2.bg hr;exact .ofRow ⟨h4.wide,h4.one,(h4.mono hI (fun _ _=>rfl)).row⟩ (h2.e6 hr) hr
    | false=>
     have nT:e.b.ae.br=false:=by
      cases bj:e.b.ae <;> rw [bj] at hr gq <;> first|rfl|(simp [yV.row,yV.plain] at hr gq;done)
     have jO:e.b.ae≠.bm:=by intro e2;rw [e2] at gq;cases gq
     have h4:=(h2.fj nT jO).mono hI (fun _ _=>rfl);exact .ofMap ⟨h4.ex⟩ nT jO
   ·have h4:=h2.fo (by rw [hh];rfl) (by rw [hh];rfl);obtain ⟨l1,l2,l3,l4⟩:=aB;obtain ⟨v,us,r1,r2,r3,r4⟩:=h4.row;dsimp only at r1 r3 r4;refine .mK ⟨fun q hq=>l3 q hq,fun f hf id aa ki=>?_,v,us,by rw [← l1];exact r1,r2,r3.trans l2,fun j u f' hu cx=>?_⟩ hh
    ·obtain ⟨j,hj,rfl⟩:=yl hf;have ew:j<bU.flatten.length:=by rw [l2];exact hj
     exact eC _ _ (l4 j bU.flatten[j] _ zd zd) id aa ki
    ·have hj:j<bU.flatten.length:=by rw [l2];exact (zP.1 cx).1
     exact jl _ _ _ (l4 j bU.flatten[j] f' zd cx) (r4 j u _ hu zd)
   ·have h4:=h2.jr hh;obtain ⟨bb,clock,ai,r1,r2,r3,r4,r5,r6,r7⟩:=h4.ex;dsimp only at r5 r6 r7;obtain ⟨l1,l2⟩:=pb;have eO:∀ (j:Nat) dE,e.b.es[j]? = some dE→∃ en k f f',ai[j]? = some en∧bU[j]? = some [k,f]∧dE=[k,f']∧XX M f f'∧k.simple=true∧en.key=k.val:=fun j dE hr=>by
     obtain ⟨k,f,f',q1,q2,q3⟩:=l2 j dE hr;have hj:j<ai.size:=by rw [r5];exact (zP.1 q1).1
     obtain ⟨kf,vf,q4,q5,q6⟩:=r6 j ai[j] _ (by simp [hj]) q1;injection q4 with q4 _
     subst q4;exact ⟨ai[j],k,f,f',by simp [hj],q1,q2,q3,q5,q6⟩
    refine .kJ ⟨fun f hf id aa ki=>?_,bb,clock,ai,r1,r2,r3,r4,by rw [r5];exact l1,fun j en dE eX hr=>?_,fun j en dE f2 eX hr lX=>?_⟩ hh
    ·obtain ⟨dE,hr,hf⟩:=ym.1 hf;obtain ⟨j,hj,rfl⟩:=yl hr;obtain ⟨en,k,f1,lG,q0,q1,q2,q3,q4,q5⟩:=eO j _ (yY hj);rw [q2] at hf;rcases zM.1 hf with rfl|hf
     ·exact (FV.aS (by cases f <;> first|rfl|(simp [FV.simple,FV.ay] at q4)) ki).elim
     ·rw [zX.1 hf] at ki;exact eC _ _ q3 id aa ki
    ·obtain ⟨oP,k,f1,lG,q0,q1,q2,q3,q4,q5⟩:=eO j _ hr;rw [q0] at eX;injection eX with eX
     subst eX;exact ⟨k,lG,q2,q4,q5⟩
    ·obtain ⟨oP,k,f1,lG,q0,q1,q2,q3,q4,q5⟩:=eO j _ hr;rw [q2] at lX;simp at lX;subst lX;exact jl _ _ _ q3 (r7 j en _ f1 eX q1 rfl)
 ·obtain ⟨q,hq,rfl⟩:=ah id hl;obtain ⟨q',iv,rfl⟩:=ah aQ ba;rw [gS q hq] at e;rw [gS q' iv] at e';cases iy:q.src with
  | none => rw [iy] at e; simp at e
  | some i=>
   cases lb:q'.src with
   | none => rw [lb] at e'; simp at e'
   | some i' =>
    rw [iy] at e;rw [lb] at e';obtain ⟨_,h1,_⟩:=hold q hq i iy;obtain ⟨_,h2,_⟩:=hold q' iv i' lb;have:=hF.inj i i' b (by rw [h1];exact (hE q hq).1) (by rw [h2];exact (hE q' iv).1) e e';subst this;rw [Ye hs hq iv iy lb]
 ·obtain ⟨q,hq,rfl⟩:=ah id hl;rw [gS q hq] at e;cases iy:q.src with
  | none => rw [iy] at e; simp at e
  | some i =>
   rw [iy] at e;obtain ⟨_,h1,_⟩:=hold q hq i iy;exact (hF.kept b hb).2.1 i (by rw [h1];exact (hE q hq).1) e
 ·obtain ⟨g1,g2⟩:=hF.gh v f hg;refine ⟨g1.mono hI fun id aa hh hl ee=>?_,fun id aa hh=>⟨(g2 id aa hh).1,?_⟩⟩
  ·obtain ⟨q1,q2⟩:=g2 id aa hh;obtain ⟨e,he,rfl⟩:=ah id hl;rw [cL e he] at ee;rcases k6.get e he q1 with ⟨h1,h2⟩|h1
   ·obtain ⟨bU,k1,k2,k3⟩:=hold e he _ h1;rw [k1,cL e he];refine ⟨(hE e he).1,by rw [← ee,h2],?_,rfl,rfl,fun v o n hv=>?_⟩
    ·rw [gS e he,h1];rfl
    ·rw [← cL e he];exact kB e he _ h1 v o n (by rw [k1];exact hv)
   ·exact absurd q2 (by have:(⟨t,ob⟩:ab).ob e.new=look {} ob e.new:=rfl;rw [this];omega)
  ·obtain ⟨q1,q2⟩:=g2 id aa hh;rcases rP l0 q1 with ⟨e,he,rfl⟩|dB
   ·rw [cL e he];rcases k6.get e he q1 with ⟨h1,h2⟩|h1
    ·obtain ⟨bU,k1,k2,k3⟩:=hold e he _ h1;rw [k1] at q2;rw [h2];exact q2
    ·have:(⟨t,ob⟩:ab).ob e.new=look {} ob e.new:=rfl;rw [this] at q2;omega
   ·have:(⟨t,ob⟩:ab).ob id=look {} ob id:=rfl;rw [this,dB] at q2;exact xa q2 (xd _)
theorem aI.cv (M:List bl) (ho:xg ob M M) (ht:iM t M t') (hk:(M.map bl.new).Nodup:=by simp) (hs:(M.filterMap bl.src).Nodup:=by simp) (l0:mY ob M=true:=by rfl)
  (k6:Un ob M:=by repeat (first|exact Un.nil|refine Un.low rfl ?_|refine Un.same rfl ?_|refine Un.bump (Nat.lt_succ_self _) ?_)):aI ⟨t,ob⟩ ⟨t',M.map fun e=>(e.new,e.b)⟩:=aI.conv M hk hs l0 k6 ho ht
theorem aI.shut {v:Nat} (h:look {} ob i=⟨v,.own,E,sz,es⟩):aI ⟨t,ob⟩ ⟨t,(i,⟨v,.shut,E,sz,es⟩)::ob⟩:=by
 intro N w0 J a w β hF;have dA:(⟨t,ob⟩:ab).ob i=⟨v,.own,E,sz,es⟩:=h;refine ⟨β,hF.gz i .shut (fun h=>by cases h) (fun hd=>?_) (fun _=>by rw [dA];rfl) (fun k=>?_) (fun k=>rfl) (fun _ ho=>?_)⟩;rotate_right
 ·rw [dA] at ho ⊢;have:=ho.bg rfl;exact .ofRow ⟨this.wide,this.one,this.row⟩ (.shut rfl) rfl
 ·have hb:(⟨t,ob⟩:ab).ob i=⟨v,.own,E,sz,es⟩:=h;rw [hb] at hd;cases hd
 ·show look {} ((i,_)::ob) k=_;rw [zp];show _=if i=k then { (look {} ob i) with ae:=.shut } else _
  rw [h];rfl
theorem aI.list {v o:Nat} (h:look .undef t d=(.own i v o n)) (hb:look {} ob i=⟨v,.shut,E,sz,es⟩) (e:.list sz ((es.drop o).take n)=f):aI ⟨t,ob⟩ ⟨(d,f)::t,ob⟩:=by
 intro N w0 J a w β hF;subst e;have dA:(⟨t,ob⟩:ab).ob i=⟨v,.shut,E,sz,es⟩:=hb;have hl:=yF dA za;have hg:=hF.bc (x:=.tmp d) (s:=⟨t,ob⟩) h hl.1 hl.2;have fh:Rd w (aH J w β ⟨t,ob⟩) (a.tmps.getD d undef) (.list sz ((es.drop o).take n)):=by
  have hc:∃ c:Nat,c=N:=⟨_,rfl⟩
  obtain ⟨A,cc,e1,e2,e3,e4,e5⟩:=hg.ex;have jE : a.tmps.getD d undef=.slice A n cc:=e1;rw [jE];rw [dA] at e3 e5;dsimp only at e3 e5;have hO:=hF.obj i hl.1;rw [dA] at hO;have iP:=hO.bg rfl;have hw:=iP.wide;have bn:=iP.one;dsimp only at hw bn;have gR:∀ e∈es.drop o,e.length=sz:=fun e he=>hw e (yw he);have hlen:((es.drop o).take n).length=n:=by simp;omega
  have bV:((es.drop o).take n).flatten=(es.flatten.drop (o * sz)).take (n * sz):=by rw [xA _ gR,xf _ hw]
  have gl : ∀ f∈((es.drop o).take n).flatten,f.one=true:=fun f hf=>by rw [bV] at hf;exact bn f (yw (yx hf))
  cases dF:β i with
  | none =>
   obtain ⟨rfl,rfl⟩:=e4 dF;obtain rfl:n=0:=by omega
   exact .list none 0 0 _ _ [] zd (zi _) zd zd zd zd zd
  | some b=>
   obtain ⟨o',rfl,k2,k3⟩:=e5 b dF;obtain ⟨v',us,r1,r2,r3⟩:=iP.row;dsimp only at r1 r3;have aK:=hO.lt dF;have hR:ax w (aH J w β ⟨t,ob⟩) ((us.drop (o * sz)).take (n * sz)) ((es.drop o).take n).flatten:=by rw [bV];exact (r3.drop _).take _
   refine .list _ n cc sz _ _ hlen e2 (fun e he=>gR e (yx he)) gl (fun h0=>⟨b,o',rfl,⟨aK.2,hF.fresh b aK.1 (.inr ⟨i,hl.1,dF⟩),fun aQ ba e=>?_⟩,fun j u hu=>?_⟩) hR.1 hR.2
   ·have:=hF.inj i aQ b hl.1 (yV.aX ba) dF e;subst this;rw [dA] at ba;cases ba
   ·have:=k2 (.inl zc);subst this;rw [yt] at hu;split at hu
    ·rw [yJ] at hu;have aY:=r1.cells (g:=b) (by rw [r2];exact dF) _ u hu;rwa [yi,zY] at aY
    ·cases hu
 refine ⟨β,?_⟩;have aK:∃ q:ab,q=⟨(d,.list sz ((es.drop o).take n))::t,ob⟩:=⟨_,rfl⟩
 refine hF.step (C:=fun _=>False) hF.size hF.defers hF.bF (fun b hb=>⟨hb,rfl⟩) (fun k=>?_) (fun id _=>⟨rfl,rfl,fun _ _ _=>rfl⟩) (fun _ h=>h.elim) (fun _ h=>h.elim) (fun _ h=>h.elim) hF.inj (fun b _ hn=>⟨rfl,hn⟩);show (_∧look .undef ((d,_)::t) k=look .undef t k)∨_;by_cases eG:d=k
 ·subst eG;right;have:(⟨(d,.list sz ((es.drop o).take n))::t,ob⟩:ab).get d=.list sz ((es.drop o).take n):=by show look _ _ _=_;rw [zp,if_pos rfl]
  rw [this];exact ⟨VR.a9 (fh.mono (fun b hb=>⟨hb,rfl⟩)) rfl,fun id aa e=>by cases e⟩
 ·left;exact ⟨rfl,by rw [zp,if_neg eG]⟩
theorem aI.aC (d:Nat) {v j o:Nat} (h:look .undef t d=(.ptr i v j o)) (hb:look {} ob i=⟨v,.shut,E,sz,es⟩):aI ⟨t,ob⟩ ⟨(d,.aC sz es j o)::t,ob⟩:=by
 intro N w0 J a w β hF;have dA:(⟨t,ob⟩:ab).ob i=⟨v,.shut,E,sz,es⟩:=hb;have hl:=yF dA za;obtain ⟨_,b,dF,hv⟩:=hF.bJ (x:=.tmp d) (s:=⟨t,ob⟩) h hl.1 hl.2;have fh:Rd w (aH J w β ⟨t,ob⟩) (a.tmps.getD d undef) (.aC sz es j o):=by
  have eZ : a.tmps.getD d undef=.pointer (some ⟨b,j * ((⟨t,ob⟩:ab).ob i).sz+o,none⟩):=hv;rw [eZ,dA];have hO:=hF.obj i hl.1;rw [dA] at hO;have iP:=hO.bg rfl;have aK:=hO.lt dF;obtain ⟨v',us,r1,r2,r3⟩:=iP.row;dsimp only at r1 r3;have e:j * sz+o=0+(j * sz+o):=by omega
  dsimp only;rw [e];refine .aC b 0 sz es j o us ⟨aK.2,hF.fresh b aK.1 (.inr ⟨i,hl.1,dF⟩),fun aQ ba e=>?_⟩ iP.wide iP.one (fun k u hu=>?_) r3.1 r3.2
  ·have:=hF.inj i aQ b hl.1 (yV.aX ba) dF e;subst this;rw [dA] at ba;cases ba
  ·have aY:=r1.cells (g:=b) (by rw [r2];exact dF) _ u hu;rwa [yi] at aY
 refine ⟨β,?_⟩;refine hF.step (C:=fun _=>False) hF.size hF.defers hF.bF (fun b hb=>⟨hb,rfl⟩) (fun k=>?_) (fun id _=>⟨rfl,rfl,fun _ _ _=>rfl⟩) (fun _ h=>h.elim) (fun _ h=>h.elim) (fun _ h=>h.elim) hF.inj (fun b _ hn=>⟨rfl,hn⟩);show (_∧look .undef ((d,_)::t) k=look .undef t k)∨_;by_cases eG:d=k
 ·subst eG;right;have:(⟨(d,.aC sz es j o)::t,ob⟩:ab).get d=.aC sz es j o:=by show look _ _ _=_;rw [zp,if_pos rfl]
  rw [this];exact ⟨VR.a9 (fh.mono (fun b hb=>⟨hb,rfl⟩)) rfl,fun id aa e=>by cases e⟩
 ·left;exact ⟨rfl,by rw [zp,if_neg eG]⟩
theorem aI.bk (d:Nat) {v j o:Nat} (h:look .undef t d=(.ptr i v j o)) (hb:look {} ob i=⟨v,.own,E,sz,es⟩) :
  aI ⟨t,ob⟩ ⟨(d,.aC sz es j o)::t,(i,⟨v,.shut,E,sz,es⟩)::ob⟩:=
 (aI.shut hb).trans (aI.aC (d:=d) h (by rw [zp,if_pos rfl]))
theorem aI.share (d:Nat) {v:Nat} (h:look .undef t d=.own i v 0 n) (hb:look {} ob i=⟨v,.own,E,sz,es⟩) (hn:n=es.length) :
  aI ⟨t,ob⟩ ⟨(d,.list sz es)::t,(i,⟨v,.shut,E,sz,es⟩)::ob⟩:=
 (aI.shut hb).trans (aI.list (d:=d) h (by rw [zp,if_pos rfl]) (by rw [hn,YR,YZ]))
theorem aI.gF (d:Nat) {v:Nat} (h:look .undef t d=.omap i v) (hb:look {} ob i=⟨v,.aR,E,sz,es⟩) :
  aI ⟨t,ob⟩ ⟨(d,.smap es)::t,(i,⟨v,.maps,E,sz,es⟩)::ob⟩:=by
 have h1:aI ⟨t,ob⟩ ⟨t,(i,⟨v,.maps,E,sz,es⟩)::ob⟩:=by
  intro N w0 J a w β hF;have dA:(⟨t,ob⟩:ab).ob i=⟨v,.aR,E,sz,es⟩:=hb;refine ⟨β,hF.gz i .maps (fun h=>by cases h) (fun hd=>by rw [dA] at hd;cases hd) (fun _=>by rw [dA];rfl) (fun k=>?_) (fun k=>rfl) (fun _ ho=>by rw [dA] at ho ⊢;exact .ofMap ⟨(ho.fj rfl (fun e=>by cases e)).ex⟩ rfl (fun e=>by cases e))⟩;show look {} ((i,_)::ob) k=_;rw [zp];show _=if i=k then { (look {} ob i) with ae:=.maps } else _
  rw [hb];rfl
 refine h1.trans ?_;intro N w0 J a w β hF;have dA:(⟨t,(i,⟨v,.maps,E,sz,es⟩)::ob⟩:ab).ob i=⟨v,.maps,E,sz,es⟩:=by show look {} ((i,_)::ob) i=_;rw [zp,if_pos rfl]
 have hl:=yF dA za;have hg:=hF.dO (x:=.tmp d) (s:=⟨t,(i,⟨v,.maps,E,sz,es⟩)::ob⟩) h hl.1 hl.2;have hO:=(hF.obj i hl.1).fj (by rw [dA];rfl) (by rw [dA];exact fun e=>by cases e);rw [dA] at hO;obtain ⟨_,b,aG,hx⟩:=hg;obtain ⟨b',clock,ai,q1,q2,q3,q4,q5,q6,q7⟩:=hO.ex;rw [aG] at q1;injection q1 with q1
 subst q1;have aK:=(hF.obj i hl.1).lt aG;have fh:Rd w (aH J w β ⟨t,(i,⟨v,.maps,E,sz,es⟩)::ob⟩) (a.tmps.getD d undef) (.smap es):=by
  have pR : a.tmps.getD d undef=.map (some b):=hx;rw [pR];refine .smap b clock ai es ⟨aK.2,hF.fresh b aK.1 (.inr ⟨i,hl.1,aG⟩),fun aQ ba e=>?_⟩ q3 q4 q5 q6 q7;have:=hF.inj i aQ b hl.1 (yV.aX ba) aG e;subst this;rw [dA] at ba;cases ba
 refine ⟨β,?_⟩;refine hF.step (C:=fun _=>False) hF.size hF.defers hF.bF (fun b hb=>⟨hb,rfl⟩) (fun k=>?_) (fun id _=>⟨rfl,rfl,fun _ _ _=>rfl⟩) (fun _ h=>h.elim) (fun _ h=>h.elim) (fun _ h=>h.elim) hF.inj (fun b _ hn=>⟨rfl,hn⟩);show (_∧look .undef ((d,_)::t) k=look .undef t k)∨_;by_cases eG:d=k
 ·subst eG;right;have:(⟨(d,.smap es)::t,(i,⟨v,.maps,E,sz,es⟩)::ob⟩:ab).get d=.smap es:=by show look _ _ _=_;rw [zp,if_pos rfl]
  rw [this];exact ⟨VR.a9 (fh.mono (fun b hb=>⟨hb,rfl⟩)) rfl,fun id aa e=>by cases e⟩
 ·left;exact ⟨rfl,by rw [zp,if_neg eG]⟩
section
variable {g:Nat→Nat} {b:zS}
end
section
variable {g:Nat→Nat} {D:Nat→Prop} {td th:Nat→Option Nat} {s1 s2:ab} {w:World} {I1 I2:Nat→Prop}
end
section
variable {c:Ctx} {w0 w:World} {J:JJ} {a:Act} {β:Nat→Option Nat} {t:List (Nat×FV)} {ob:List (Nat×zS)}
end
section
variable {c:Ctx} {ops:Array Oper} {rest:List Oper} {t:List (Nat×FV)} {ob:List (Nat×zS)} {dst:Option Nat} {ty:TypeId} {pos:String} {af:Array Edge} {gd:Option (Nat×Bool)} {QS:ab→Prop}
end
structure aF where
 p:Int
 k:Int
 key:Int
 arg:Int
 res:Int
 call:Int
 ret:Int
 done:Bool
 deriving DecidableEq,Inhabited
def aF.aL (o:aF):List Value:=[.int .i64 o.p,.int .i64 o.k,.int .i64 o.key,.int .i64 o.arg,.int .i64 o.res,.int .i64 o.call,.int .i64 o.ret,.bool o.done]
theorem aF.wide:na 8 aF.aL:=fun _=>rfl
section
variable {w:World} {B:Nat} {A:Option Addr}
theorem Sl.op {l:List aF} (h:Sl aF.aL w B A l) (hi:i<l.length):∃ b off,A=some ⟨b,off,none⟩∧b<B∧
  w.cell? ⟨b,off+i * 8,none⟩=some (.int .i64 (nth l i).p)∧w.cell? ⟨b,off+i * 8+1,none⟩=some (.int .i64 (nth l i).k)∧w.cell? ⟨b,off+i * 8+2,none⟩=some (.int .i64 (nth l i).key)∧
  w.cell? ⟨b,off+i * 8+3,none⟩=some (.int .i64 (nth l i).arg)∧w.cell? ⟨b,off+i * 8+4,none⟩=some (.int .i64 (nth l i).res)∧w.cell? ⟨b,off+i * 8+5,none⟩=some (.int .i64 (nth l i).call)∧
  w.cell? ⟨b,off+i * 8+6,none⟩=some (.int .i64 (nth l i).ret)∧w.cell? ⟨b,off+i * 8+7,none⟩=some (.bool (nth l i).done):=by
 obtain ⟨b,off,ha,hb,hc⟩:=h.get aF.wide hi;rw [← Zx hi] at hc;exact ⟨b,off,ha,hb,hc 0 _ zc rfl,hc 1 _ zc rfl,hc 2 _ zc rfl,hc 3 _ zc rfl,hc 4 _ zc rfl,hc 5 _ zc rfl,hc 6 _ zc rfl,hc 7 _ zc rfl⟩
theorem Sl.ln {b off:Nat} {l:List aF} (h:Sl aF.aL w B (some ⟨b,off,none⟩) l) (hi:i<l.length) :
  w.cell? ⟨b,off+i * 8,none⟩=some (.int .i64 (nth l i).p)∧w.cell? ⟨b,off+i * 8+1,none⟩=some (.int .i64 (nth l i).k)∧w.cell? ⟨b,off+i * 8+2,none⟩=some (.int .i64 (nth l i).key)∧
  w.cell? ⟨b,off+i * 8+3,none⟩=some (.int .i64 (nth l i).arg)∧w.cell? ⟨b,off+i * 8+4,none⟩=some (.int .i64 (nth l i).res)∧w.cell? ⟨b,off+i * 8+5,none⟩=some (.int .i64 (nth l i).call)∧
  w.cell? ⟨b,off+i * 8+6,none⟩=some (.int .i64 (nth l i).ret)∧w.cell? ⟨b,off+i * 8+7,none⟩=some (.bool (nth l i).done):=by
 obtain ⟨b',c5,ha,_,hc⟩:=h.op hi;injection ha with ha;injection ha with h1 h2;subst h1;subst h2
 exact hc
end
theorem cS.op {t:TypeId} {o:aF} (h:cS w g t o.aL):w.cell? ⟨g,0,none⟩=some (.int .i64 o.p)∧w.cell? ⟨g,1,none⟩=some (.int .i64 o.k)∧w.cell? ⟨g,2,none⟩=some (.int .i64 o.key)∧
  w.cell? ⟨g,3,none⟩=some (.int .i64 o.arg)∧w.cell? ⟨g,4,none⟩=some (.int .i64 o.res)∧w.cell? ⟨g,5,none⟩=some (.int .i64 o.call)∧w.cell? ⟨g,6,none⟩=some (.int .i64 o.ret)∧w.cell? ⟨g,7,none⟩=some (.bool o.done):=
 ⟨h.cell 0,h.cell 1,h.cell 2,h.cell 3,h.cell 4,h.cell 5,h.cell 6,h.cell 7⟩
def oK (x y:aF):Bool:=decide (x=y)
@[go_sem] theorem aF.eta (x:aF):(⟨x.p,x.k,x.key,x.arg,x.res,x.call,x.ret,x.done⟩:aF)=x:=rfl
@[go_sem ↓] theorem kW (w:World) (a1 a2 a3 a4 a5 a6 a7 b1 b2 b3 b4 b5 b6 b7:Int) (a8 b8:Bool):(Op.equalIn 10000 33 (.agg #[.int .i64 a1,.int .i64 a2,.int .i64 a3,.int .i64 a4,.int .i64 a5,.int .i64 a6,.int .i64 a7,.bool a8])
  (.agg #[.int .i64 b1,.int .i64 b2,.int .i64 b3,.int .i64 b4,.int .i64 b5,.int .i64 b6,.int .i64 b7,.bool b8])).run Tryd.prog w=.ok (oK ⟨a1,a2,a3,a4,a5,a6,a7,a8⟩ ⟨b1,b2,b3,b4,b5,b6,b7,b8⟩) w:=by
 unfold oK;have hS:Tryd.prog.underlying 33=some (.struct (Tryd.prog.fieldsOf 33)):=by kernel_rfl
 have hp:Tryd.prog.stoodInHeld 33=false:=by kernel_rfl
 rw [show (10000:Nat)=9999+1 from rfl,run_equalIn_agg w 9999 33 _ _ hS hp];simp only [Program.fieldsOf,Tryd.underlying33];simp [go_sem];by_cases h1:a1=b1
 ·by_cases h2:a2=b2
  ·by_cases h3:a3=b3
   ·by_cases h4:a4=b4
    ·by_cases h5:a5=b5
     ·by_cases h6:a6=b6
      ·by_cases h7:a7=b7
       ·by_cases h8:a8=b8 <;> simp [h1,h2,h3,h4,h5,h6,h7,h8]
       ·simp [h1,h2,h3,h4,h5,h6,h7]
      ·simp [h1,h2,h3,h4,h5,h6]
     ·simp [h1,h2,h3,h4,h5]
    ·simp [h1,h2,h3,h4]
   ·simp [h1,h2,h3]
  ·simp [h1,h2]
 ·simp [h1]
end
section
open Go.RowKit Go.Maps Go.MapKept Go.ChangeMaps
structure kQ (P:Program) (k:TypeId) (κ:Type) (ek:κ→Value) (ok:κ→Prop):Prop where
 K:Keyed P k
 of:∀ x,ok x→∃ l,keyOf P k (ek x)=some l
 inj:∀ x y,ek x=ek y→x=y
def xD {κ:Type} (ek:κ→Value) (ok:κ→Prop) (w:World) (b n:Nat) (f:κ→Option Value):Prop:=
 ∃ es clock,w.heap[b]? = some (.map es clock)∧es.size≤n∧Stamped es clock∧(∀ e∈es.toList,∃ x,ok x∧e.key=ek x)∧∀ x u,f x=some u↔∃ e∈es.toList,e.key=ek x∧e.val=u
open Classical in
noncomputable def iG {κ:Type} (f:κ→Option Value) (x:κ) (u:Value):κ→Option Value:=fun y=>if y=x then some u else f y
theorem Xi (f:κ→Option Value) (x:κ) (u:Value):iG f x u x=some u:=by simp [iG]
theorem Yt (f:κ→Option Value) {x y:κ} (u:Value) (h:y≠x):iG f x u y=f y:=by simp [iG,h]
section
variable {κ:Type} {ek:κ→Value} {ok:κ→Prop} {P:Program} {k:TypeId} {w w' : World} {b n:Nat} {f:κ→Option Value}
theorem xD.made (w:World):xD ek ok (w.alloc (.map #[] 0)) w.heap.size 0 (fun _=>none):=
 ⟨#[],0,heap_alloc_new w _,zi _,stamped_empty _,by simp,by simp⟩
theorem xD.lt (h:xD ek ok w b n f):b<w.heap.size:=by
 obtain ⟨es,clock,hb,_⟩:=h;exact (yC.1 hb).1
theorem xD.mono (h:xD ek ok w b n f) {n' : Nat} (hn:n≤n'):xD ek ok w b n' f:=by
 obtain ⟨es,clock,hb,hs,r⟩:=h;exact ⟨es,clock,hb,by omega,r⟩
theorem xD.dx (h:xD ek ok w b n f) (hb:w'.heap[b]? = w.heap[b]?):xD ek ok w' b n f:=by
 obtain ⟨es,clock,hh,r⟩:=h;exact ⟨es,clock,hb.trans hh,r⟩
theorem xD.drewN (h:xD ek ok w b n f) (m:Nat):xD ek ok (w.drewN m) b n f:=h
theorem xD.alloc (h:xD ek ok w b n f) (o:Obj):xD ek ok (w.alloc o) b n f:=h.dx (Below.heap_alloc w o b h.lt)
theorem xD.grown {row:Option Nat} (h:xD ek ok w b n f) (hg:w.grownBy w' row) (hr:some b≠row):xD ek ok w' b n f:=h.dx (hg.block b h.lt hr)
theorem xD.ext (h:xD ek ok w b n f) (hb:Below w.heap.size w w'):xD ek ok w' b n f:=h.dx (hb.block b h.lt)
theorem xD.gC (h:xD ek ok w b n f) {t:TypeId} {cs:List Value} (ho:cS w g t cs):b≠g:=by
 obtain ⟨es,clock,hb,_⟩:=h;rintro rfl;unfold cS at ho;rw [hb] at ho;cases ho
theorem sD {e t:TypeId} (T:kQ P k κ ek ok) (ht:P.underlying t=some (.map k e)) (hz:(zeroValue e).run P w=.ok z w) (h:xD ek ok w b n f) (c:Bool) (x:κ) (hx:ok x) :
  (Instr.lookup t (.map (some b)) (ek x) c).run P w=.ok (if c then .tuple #[(f x).getD z,.bool (f x).isSome] else (f x).getD z) w:=by
 obtain ⟨es,clock,hb,hs,bA,cJ,hf⟩:=h;obtain ⟨l,hl⟩:=T.of x hx;have l8:∀ e∈es.toList,∃ l,keyOf P k e.key=some l:=fun e he=>by
  obtain ⟨y,hy,he⟩:=cJ e he;obtain ⟨l,hl⟩:=T.of y hy;exact ⟨l,by rw [he];exact hl⟩
 rcases T.K.find w hl es.toList l8 with ⟨h1,h2⟩|⟨j,e0,h1,h2,h3⟩
 ·have hn:f x=none:=by
   cases oZ:f x with
   | none => rfl
   | some u =>
    obtain ⟨e,he,hk,_⟩:=(hf x u).1 oZ;exact absurd hk (h2 e he)
  cases c <;> simp [Instr.lookup,run_underlying ht,yL hb,T.K.check w _ hl,h1,hz,Result.andThen,hn]
 ·have hn:f x=some e0.val:=(hf x _).2 ⟨e0,zN h2,h3,rfl⟩;cases c <;> simp [Instr.lookup,run_underlying ht,yL hb,T.K.check w _ hl,h1,Result.andThen,hn]
theorem sw {e t:TypeId} (T:kQ P k κ ek ok) (ht:P.underlying t=some (.map k e)) (h:xD ek ok w b n f) (x:κ) (hx:ok x) (u:Value) :
  ∃ w',(Instr.mapUpdate t (.map (some b)) (ek x) u).run P w=.ok () w'∧xD ek ok w' b (n+1) (iG f x u)∧w.grownBy w' (some b):=by
 obtain ⟨es,clock,hb,hs,bA,cJ,hf⟩:=h;obtain ⟨l,hl⟩:=T.of x hx;have l8:∀ e∈es.toList,∃ l,keyOf P k e.key=some l:=fun e he=>by
  obtain ⟨y,hy,he⟩:=cJ e he;obtain ⟨l,hl⟩:=T.of y hy;exact ⟨l,by rw [he];exact hl⟩
 have gr:∀ o,w.grownBy (setBlock w b o) (some b):=fun o=>⟨rfl,rfl,rfl,by simp [setBlock],fun i _ hi=>heap_setBlock_other hb _ (fun e=>hi (by rw [e]))⟩
 rcases T.K.find w hl es.toList l8 with ⟨h1,h2⟩|⟨j,e0,h1,h2,h3⟩
 ·refine ⟨setBlock w b (.map (es.push ⟨ek x,u,clock⟩) (clock+1)),?_,⟨_,_,heap_setBlock_same hb _,by simp;omega,stamped_push bA h2,?_,?_⟩,gr _⟩
  ·simp [Instr.mapUpdate,run_underlying ht,yL hb,T.K.check w false hl,h1,Xa _ hb,Result.andThen,setBlock]
  ·intro e he;simp only [Ut,yv,zX] at he;rcases he with he|rfl
   ·exact cJ e he
   ·exact ⟨x,hx,rfl⟩
  ·intro y v;by_cases hy:y=x
   ·subst hy;rw [Xi];constructor
    ·intro hv;injection hv with hv;exact ⟨⟨ek y,u,clock⟩,by simp,rfl,hv⟩
    ·rintro ⟨e,he,hk,hv⟩;simp only [Ut,yv,zX] at he;rcases he with he|rfl
     ·exact absurd hk (h2 e he)
     ·rw [← hv]
   ·rw [Yt f u hy,hf];constructor
    ·rintro ⟨e,he,hk,hv⟩;exact ⟨e,by simp [he],hk,hv⟩
    ·rintro ⟨e,he,hk,hv⟩;simp only [Ut,yv,zX] at he;rcases he with he|rfl
     ·exact ⟨e,he,hk,hv⟩
     ·exact absurd (T.inj _ _ hk).symm hy
 ·have hj:es[j]? = some e0:=by simpa using h2
  have ja:j<es.toList.length:=(zP.1 h2).1;have fY:∀ e',es[j]? = some e'→({ e' with key:=ek x,val:=u }:MapEntry).key=e'.key:=fun e' fc=>by rw [hj] at fc;cases fc;exact h3.symm
  have iq:(es.modify j (fun e'=>{ e' with key:=ek x,val:=u })).toList=es.toList.set j { e0 with key:=ek x,val:=u }:=by rw [Array.toList_modify,modify_eq_set _ _ _ _ h2]
  have hd:=((stamped_iff es clock).1 bA).2.2;have other:∀ i e,es.toList[i]? = some e→i≠j→e.key≠ek x:=by
   intro i e hi bK;rw [← h3];obtain ⟨kn,rfl⟩:=zP.1 hi;obtain ⟨_,rfl⟩:=zP.1 h2;rcases Nat.lt_or_gt_of_ne bK with aK|l5
   ·exact YX.1 hd i j kn ja aK
   ·exact (YX.1 hd j i ja kn l5).symm
  have mR:∀ y∈es.toList.set j { e0 with key:=ek x,val:=u },y={ e0 with key:=ek x,val:=u }∨(y∈es.toList∧y.key≠ek x):=by
   intro y hy;obtain ⟨i,hi,ex⟩:=yl hy;rw [List.getElem_set] at ex;split at ex
   ·exact Or.inl ex.symm
   ·rename_i bK;have nG : i<es.toList.length:=by simpa using hi
    exact Or.inr ⟨ex▸zZ nG,other i y (by rw [yY nG,ex]) (fun e1=>bK e1.symm)⟩
  refine ⟨setBlock w b (.map (es.modify j (fun e'=>{ e' with key:=ek x,val:=u })) clock),?_,⟨_,_,heap_setBlock_same hb _,by simp;omega,stamped_modify bA _ _ (fun _ _=>rfl) (fun e' _ fc=>fY e' fc),?_,?_⟩,gr _⟩
  ·simp [Instr.mapUpdate,run_underlying ht,yL hb,T.K.check w false hl,h1,hj,h3,T.K.stays w hl,Xa _ hb,Result.andThen,setBlock]
  ·intro e he;rw [iq] at he;rcases mR e he with rfl|⟨he,_⟩
   ·exact ⟨x,hx,rfl⟩
   ·exact cJ e he
  ·intro y v;rw [iq];by_cases hy:y=x
   ·subst hy;rw [Xi];constructor
    ·intro hv;injection hv with hv
     exact ⟨{ e0 with key:=ek y,val:=u },List.mem_iff_getElem.2 ⟨j,by simpa using ja,by simp⟩,rfl,hv⟩
    ·rintro ⟨e,he,hk,hv⟩;rcases mR e he with rfl|⟨_,bK⟩
     ·rw [← hv]
     ·exact absurd hk bK
   ·rw [Yt f u hy,hf];constructor
    ·rintro ⟨e,he,hk,hv⟩;obtain ⟨i,hi,rfl⟩:=yl he;have iY:i≠j:=by
      rintro rfl;obtain ⟨_,jF⟩:=zP.1 h2;rw [jF,h3] at hk;exact hy (T.inj _ _ hk).symm
     exact ⟨es.toList[i],List.mem_iff_getElem.2 ⟨i,by simpa using hi,by rw [List.getElem_set,if_neg (fun e=>iY e.symm)]⟩,hk,hv⟩
    ·rintro ⟨e,he,hk,hv⟩;rcases mR e he with rfl|⟨he,_⟩
     ·exact absurd (T.inj _ _ hk).symm hy
     ·exact ⟨e,he,hk,hv⟩
theorem yP {e t:TypeId}
  (T:kQ P k κ ek ok) (ht:P.underlying t=some (.map k e)) (hz:(zeroValue e).run P w=.ok z w) (h:xD ek ok w b n f) (x:κ) (hx:ok x)
  (hg:o.guard=none) (m i:Operand) (bu:o.op=Op.lookup t m i true) (hm:a.eval m=.map (some b)) (hi:a.eval i=ek x)
  (hK:wpList P ops Q rest (a.put o.dst (.tuple #[(f x).getD z,.bool (f x).isSome])) w):wpList P ops Q (o::rest) a w:=by
 refine wpList_plain hg fun K' hK'=>?_;have bf:=sD T ht hz h true x hx;unfold Oper.wp;simp [execOp,bu,hm,hi,bf,Result.andThen];exact hK' _ _ hK
theorem Zr {e t:TypeId}
  (T:kQ P k κ ek ok) (ht:P.underlying t=some (.map k e)) (h:xD ek ok w b n f) (x:κ) (hx:ok x) (u:Value)
  (hg:o.guard=none) (m i v:Operand) (bu:o.op=Op.mapUpdate t m i v) (hm:a.eval m=.map (some b)) (hi:a.eval i=ek x) (hv:a.eval v=u)
  (hK:∀ w',xD ek ok w' b (n+1) (iG f x u)→w.grownBy w' (some b)→wpList P ops Q rest (a.put o.dst undef) w'):wpList P ops Q (o::rest) a w:=by
 refine wpList_plain hg fun K' hK'=>?_;obtain ⟨w',bf,h1,h2⟩:=sw T ht h x hx u;unfold Oper.wp;simp [execOp,bu,hm,hi,hv,bf,Result.andThen];exact hK' _ _ (hK w' h1 h2)
end
def g9 (x:Int):Value:=.int .i64 x
theorem sj (h:bx x):(Lit.int .i64 x).wf=true:=WalkArith.wf_i64 (by unfold bx at h;omega)
theorem xY:kQ Tryd.prog 3 Int g9 bx:=⟨int_keyed Tryd.underlying3,fun x hx=>⟨_,keyOf_int_mk Tryd.underlying3 (sj hx)⟩,fun x y h=>by injection h⟩
end
section
open Go.RowKit
attribute [local go_sem ↓] Go.wp_at_zero Go.wp_at_succ
def jB (o:aF):Prop:=bx o.p∧bx o.k∧bx o.key∧bx o.arg∧bx o.res∧bx o.call∧bx o.ret
noncomputable def aU (B:Int→Bool):Int→Option Value:=fun x=>if B x then some (.agg #[]) else none
theorem YB (B:Int→Bool) (x:Int):(aU B x).getD (.agg #[])=.agg #[]:=by unfold aU;split <;> rfl
theorem ZI (B:Int→Bool) (x:Int):(aU B x).isSome=B x:=by unfold aU;split <;> simp_all
theorem Wy (B:Int→Bool) (x:Int):iG (aU B) x (.agg #[])=aU (fun y=>B y || y == x):=by
 funext y;by_cases hy:y=x
 ·subst hy;rw [Xi];simp [aU]
 ·rw [Yt _ _ hy];simp [aU,hy]
theorem XT:(fun _=>none)=aU (fun _=>false):=by funext y;simp [aU]
def YO (g:Int→Option aF):Int→Option Value:=fun x=>(g x).map fun o=>.agg o.aL.toArray
theorem r9 (g:Int→Option aF) (x:Int):(YO g x).getD (.agg #[.int .i64 0,.int .i64 0,.int .i64 0,.int .i64 0,.int .i64 0,.int .i64 0,.int .i64 0,.bool false])=.agg #[.int .i64 ((g x).getD default).p,.int .i64 ((g x).getD default).k,.int .i64 ((g x).getD default).key,.int .i64 ((g x).getD default).arg,.int .i64 ((g x).getD default).res,.int .i64 ((g x).getD default).call,.int .i64 ((g x).getD default).ret,.bool ((g x).getD default).done]:=by
 unfold YO;cases g x <;> rfl
theorem qp (g:Int→Option aF) (x:Int):(YO g x).isSome=(g x).isSome:=by simp [YO]
open Classical in
theorem VP (g:Int→Option aF) (x:Int) (o:aF):iG (YO g) x (.agg o.aL.toArray)=YO (fun y=>if y=x then some o else g y):=by
 funext y;by_cases hy:y=x
 ·subst hy;rw [Xi];simp [YO]
 ·rw [Yt _ _ hy];simp [YO,hy]
def fz (o:aF):Bool:=decide (0≤o.p) && decide (0≤o.k) && decide (o.k≤4) && decide (0≤o.call) && decide (o.call<o.ret) && (o.done || decide (o.res=0))
def VW (l:List aF) (k:Nat) (x:Int):Bool:=(l.take k).any fun o=>o.done && o.ret == x
def Yx (l:List aF) (k:Nat) (x:Int):Bool:=(l.take k).any fun o=>o.call == x
def yW (l:List aF):Nat→Int→Option aF
 | 0, _ => none
 | k+1, p => if p=(nth l k).p then some (nth l k) else yW l k p
def fA (l:List aF) (k:Nat):Int:=
 if fz (nth l k)=false then 1
 else if 0<k∧(nth l k).call≤(nth l (k - 1)).call then 5
 else if (VW l k (nth l k).call || (nth l k).done && (VW l k (nth l k).ret || Yx l l.length (nth l k).ret))=true then 4
 else if (yW l k (nth l k).p).isSome=true∧(((yW l k (nth l k).p).getD default).done=false∨(nth l k).call<((yW l k (nth l k).p).getD default).ret) then 5
 else 0
def zL (l:List aF) (k:Nat):Nat→Int
 | 0 => 0
 | n+1 => if fA l k=0 then zL l (k+1) n else fA l k
def Yj (l:List aF):Int:=if 300<l.length then 2 else zL l 0 l.length
theorem WX {l:List aF} {k:Nat} (h:fA l k=0):zL l k (n+1)=zL l (k+1) n:=by simp [zL,h]
theorem Wl {l:List aF} {k:Nat} (h:fA l k≠0):zL l k (n+1)=fA l k:=by simp [zL,h]
theorem qI {l:List aF} {k:Nat} (hk:k<l.length) (x:Int):Yx l (k+1) x=(Yx l k x || x == (nth l k).call):=by
 unfold Yx;rw [ZV hk,List.any_append,Zx hk];simp [BEq.comm (a:=x)]
theorem VX {l:List aF} {k:Nat} (hk:k<l.length) (x:Int):VW l (k+1) x=(VW l k x || ((nth l k).done && x == (nth l k).ret)):=by
 unfold VW;rw [ZV hk,List.any_append,Zx hk];simp [BEq.comm (a:=x)]
theorem Zu (o:Obj):Below w.heap.size w (w.alloc o):=(Yw _ _).alloc (zi _) _
theorem Zz (o:aF) (w:World):Calls Tryd.prog 44 #[.agg #[.int .i64 o.p,.int .i64 o.k,.int .i64 o.key,.int .i64 o.arg,.int .i64 o.res,.int .i64 o.call,.int .i64 o.ret,.bool o.done]] w fun e w'=>e=.returned (.bool (fz o))∧Below w.heap.size w w':=by
 by_cases h1:0≤o.p
 ·by_cases h2:0≤o.k
  ·by_cases h3:o.k≤4
   ·by_cases h4:0≤o.call
    ·by_cases h5:o.call<o.ret
     ·cases h6:o.done with
      | true =>
       go_enter Tryd.func44,Tryd.ntmps44
       go_wp2
       go_ret
       exact ⟨by simp [fz,h1,h2,h3,h4,h5,h6],Zu _⟩
      | false=>
       by_cases h7:o.res=0
       ·have oR : (o.res == 0)=true:=by simpa using h7
        go_enter Tryd.func44,Tryd.ntmps44
        go_wp2
        go_ret
        exact ⟨by simp [fz,h1,h2,h3,h4,h5,h6,h7],Zu _⟩
       ·have oR : (o.res == 0)=false:=by simpa using h7
        go_enter Tryd.func44,Tryd.ntmps44
        go_wp2
        go_ret
        exact ⟨by simp [fz,h1,h2,h3,h4,h5,h6,h7],Zu _⟩
     ·go_enter Tryd.func44,Tryd.ntmps44
      go_wp2
      go_ret
      exact ⟨by simp [fz,h1,h2,h3,h4];intros;omega,Zu _⟩
    ·go_enter Tryd.func44,Tryd.ntmps44
     go_wp2
     go_ret
     exact ⟨by simp [fz,h1,h2,h3];intros;omega,Zu _⟩
   ·go_enter Tryd.func44,Tryd.ntmps44
    go_wp2
    go_ret
    exact ⟨by simp [fz,h1,h2];intros;omega,Zu _⟩
  ·go_enter Tryd.func44,Tryd.ntmps44
   go_wp2
   go_ret
   exact ⟨by simp [fz,h1];intros;omega,Zu _⟩
 ·go_enter Tryd.func44,Tryd.ntmps44
  go_wp2
  go_ret
  exact ⟨by simp [fz];intros;omega,Zu _⟩
theorem UH (l:List aF) (k:Nat):yW l (k+1)=fun p=>if p=(nth l k).p then some (nth l k) else yW l k p:=rfl
theorem ru (l:List aF):VW l 0=fun _=>false:=by funext x;simp [VW]
theorem qK (l:List aF):Yx l 0=fun _=>false:=by funext x;simp [Yx]
theorem qo:(fun _=>none)=YO (fun _=>none):=by funext y;simp [YO]
theorem rr {l:List aF} {k:Nat} (hk:k<l.length) (h:(nth l k).done=true):VW l (k+1)=fun x=>VW l k x || x == (nth l k).ret:=by
 funext x;rw [VX hk,h];simp
theorem qu {l:List aF} {k:Nat} (hk:k<l.length) (h:(nth l k).done=false):VW l (k+1)=VW l k:=by
 funext x;rw [VX hk,h];simp
theorem qJ {l:List aF} {k:Nat} (hk:k<l.length):Yx l (k+1)=fun x=>Yx l k x || x == (nth l k).call:=by
 funext x;rw [qI hk]
theorem WS {l:List aF} {k:Nat} {e:Int} (h:zL l k (l.length - k)=X) (hk:k<l.length) (he:fA l k=e) (h0:e≠0):e=X:=by
 rw [show l.length - k=(l.length - (k+1))+1 by omega,Wl (by rw [he];exact h0),he] at h;exact h
theorem si {l:List aF} {k:Nat} (h:zL l k (l.length - k)=X) (hk:k<l.length) (he:fA l k=0):zL l (k+1) (l.length - (k+1))=X:=by
 rw [show l.length - k=(l.length - (k+1))+1 by omega,WX he] at h;exact h
set_option maxRecDepth 100000 in
theorem qk (A:Option Addr) (c:Nat) (l:List aF) (w:World) (h1:Sl aF.aL w w.heap.size A l) (cn:∀ o∈l,jB o) (hlen:l.length≤1000000000) :
  Calls Tryd.prog 12 #[.slice A l.length c] w fun e w'=>e=.returned (.int .i64 (Yj l))∧Below w.heap.size w w':=by
 have sZ:=@run_makeMap Tryd.prog;by_cases kb:300<l.length
 ·go_enter Tryd.func12,Tryd.ntmps12
  go_wp2_with fail
  go_ret
  exact ⟨by simp [Yj,kb],Yw _ _⟩
 ·have hc : Yj l=zL l 0 l.length:=by simp [Yj,kb]
  rw [hc]
  go_enter Tryd.func12,Tryd.ntmps12
  go_wp2_with fail
  go_loopw [24] (fun i wr=>∃ k:Nat,k≤l.length∧i=.int .i64 k∧xD g9 bx wr w.heap.size k (aU (Yx l k))∧Below w.heap.size w wr) (fun i _=>l.length - (intOf i).toNat)
  case atStart=>exact ⟨0,by omega,rfl,by rw [qK,← XT];exact xD.made w,Zu _⟩
  case round =>
   obtain ⟨k,hk,rfl,bm,hb⟩:=hrel;by_cases aK:k<l.length
   ·obtain ⟨b1,o1,rfl,lS,p0,p1,p2,p3,p4,p5,p6,p7⟩:=(h1.below hb).op aK;have aA:=hb.size;have kX:b1<wr.heap.size:=by omega
    have hI:=cn _ (XK aK);have Hs:=zH (qJ aK)
    go_wp2_with (at_mapUpdate;go_loud (refine Zr xY Tryd.underlying78 (bm.alloc _) (nth l k).call hI.2.2.2.2.2.1 (.agg #[]) rfl (.tmp 28) (.tmp 30) (.tmp 31) rfl rfl rfl rfl ?_;intro w1 kq o3))
    go_roundw
    case rel=>
     refine ⟨k+1,by omega,by go_num,?_,?_⟩
     ·rw [Hs.out,← Wy];exact kq
     ·exact (hb.alloc aA _).grown o3 yd (by rintro k' ⟨⟩;exact zi _)
    case measure=>simp [intOf];omega
   ·obtain rfl : k=l.length:=by omega
    obtain ⟨wb,rfl⟩:∃ wb:World,wb=wr:=⟨_,rfl⟩
    have mB:=hb.size;have o9:=bm.lt
    go_wp2_with fail
    go_loopw [37] (fun i wr=>∃ k:Nat,k≤l.length∧i=.int .i64 k∧xD g9 bx wr w.heap.size l.length (aU (Yx l l.length))∧xD g9 bx wr wb.heap.size k (aU (VW l k))∧xD g9 bx wr (wb.heap.size+1) k (YO (yW l k))∧Below w.heap.size w wr∧wb.heap.size+2≤wr.heap.size∧
     zL l k (l.length - k)=zL l 0 l.length) (fun i _=>l.length - (intOf i).toNat)
    case atStart=>
     refine ⟨0,by omega,rfl,(bm.alloc _).alloc _,?_,?_,(hb.alloc mB _).alloc yd _,by simp,by simp⟩
     ·rw [ru,← XT];exact (xD.made wb).alloc _
     ·have:=xD.made (ek:=g9) (ok:=bx) (wb.alloc (.map #[] 0));rw [show yW l 0=fun _=>none from rfl,← qo];simpa using this
    case round =>
     obtain ⟨k,hk,rfl,mh,k9,mj,hb,pE,dB⟩:=hrel;have jD:=zH dB;clear dB bm;by_cases aK:k<l.length
     ·obtain ⟨b1,o1,rfl,lS,p0,p1,p2,p3,p4,p5,p6,p7⟩:=(h1.below hb).op aK;have aA:=hb.size;have kX:b1<wr.heap.size:=by omega
      have hI:=cn _ (XK aK);obtain ⟨o,ho⟩:∃ o,nth l k=o:=⟨_,rfl⟩
      rw [ho] at p0 p1 p2 p3 p4 p5 p6 p7 hI;obtain ⟨pv,nP⟩:∃ pv,(yW l k o.p).getD default=pv:=⟨_,rfl⟩
      obtain ⟨b4,kY⟩:∃ b4,(yW l k o.p).isSome=b4:=⟨_,rfl⟩
      obtain ⟨b5,nA⟩:∃ b5,VW l k o.call=b5:=⟨_,rfl⟩
      obtain ⟨b6,nB⟩:∃ b6,VW l k o.ret=b6:=⟨_,rfl⟩
      obtain ⟨b7,nC⟩:∃ b7,Yx l l.length o.ret=b7:=⟨_,rfl⟩
      have nj:=zH nP;have nc:=zH kY;have ng:=zH nA;have nh:=zH nB;have ni:=zH nC;clear nP kY nA nB nC
      go_upto_region 18 with (first|(at_lookup;refine yP xY Tryd.underlying78 (Tryd.zeroValue79 _) (k9.alloc _) o.call hI.2.2.2.2.2.1 rfl (.tmp 43) (.tmp 45) rfl rfl rfl ?_;rw [YB,ZI,ng.out])|(at_lookup;refine yP xY Tryd.underlying78 (Tryd.zeroValue79 _) ((k9.alloc _).alloc _) o.ret hI.2.2.2.2.2.2 rfl (.tmp 50) (.tmp 52) rfl rfl rfl ?_;rw [YB,ZI,nh.out])|(at_lookup;refine yP xY Tryd.underlying78 (Tryd.zeroValue79 _) (((mh.alloc _).alloc _).alloc _) o.ret hI.2.2.2.2.2.2 rfl (.tmp 57) (.tmp 59) rfl rfl rfl ?_;rw [YB,ZI,ni.out])|(at_lookup;refine yP xY Tryd.underlying80 (Tryd.zeroValue33 _) ((((mj.alloc _).alloc _).alloc _).alloc _) o.p hI.1 rfl (.tmp 64) (.tmp 66) rfl rfl rfl ?_;rw [r9,qp,nc.out,nj.out]))
      obtain ⟨W,hW⟩:∃ W,W=(((((wr.alloc (.cells #[.int .i64 o.p,.int .i64 o.k,.int .i64 o.key,.int .i64 o.arg,.int .i64 o.res,.int .i64 o.call,.int .i64 o.ret,.bool o.done] 33)).alloc (.cells #[] 79)).alloc (.cells #[] 79)).alloc (.cells #[] 79)).alloc (.cells #[.int .i64 pv.p,.int .i64 pv.k,.int .i64 pv.key,.int .i64 pv.arg,.int .i64 pv.res,.int .i64 pv.call,.int .i64 pv.ret,.bool pv.done] 33)):=⟨_,rfl⟩
      have B1:cS W wr.heap.size 33 o.aL:=by rw [hW];exact ((((cS.new wr 33 o.aL).alloc _).alloc _).alloc _).alloc _
      have B2:cS W (wr.heap.size+1+1+1+1) 33 pv.aL:=by
       rw [hW];have:=cS.new ((((wr.alloc (.cells #[.int .i64 o.p,.int .i64 o.k,.int .i64 o.key,.int .i64 o.arg,.int .i64 o.res,.int .i64 o.call,.int .i64 o.ret,.bool o.done] 33)).alloc (.cells #[] 79)).alloc (.cells #[] 79)).alloc (.cells #[] 79)) 33 pv.aL;simp only [World.size_alloc] at this;exact this
      have kr:xD g9 bx W w.heap.size l.length (aU (Yx l l.length)):=by rw [hW];exact ((((mh.alloc _).alloc _).alloc _).alloc _).alloc _
      have kx:xD g9 bx W wb.heap.size k (aU (VW l k)):=by rw [hW];exact ((((k9.alloc _).alloc _).alloc _).alloc _).alloc _
      have kv:xD g9 bx W (wb.heap.size+1) k (YO (yW l k)):=by rw [hW];exact ((((mj.alloc _).alloc _).alloc _).alloc _).alloc _
      have ka:Below wr.heap.size wr W:=by rw [hW];exact ((((Zu _).alloc zd _).alloc yd _).alloc yd _).alloc yd _
      have q5:=ka.cell (p:=⟨b1,o1+k * 8+5,none⟩) kX;rw [← hW];clear hW mh k9 mj;obtain ⟨x0,x1,x2,x3,x4,x5,x6,x7⟩:=B1.op;cases mF:fz o with
      | false =>
       go_wp2_with (go_at_call 44;refine (Zz o _).mono ?_;rintro e w2 ⟨rfl,fP⟩)
       go_ret
       exact ⟨congrArg _ (congrArg _ (WS jD.out aK (by rw [fA,if_pos (by rw [ho];exact mF)]) za)),hb.trans ((oJ ka fP).mono aA)⟩
      | true =>
       have hP:=ka.size
       go_upto_region 20 with (go_at_call 44;refine (Zz o _).mono ?_;rintro e w2 ⟨rfl,fP⟩)
       have et:=oJ ka fP;have C1:=B1.below fP B1.lt;have C2:=B2.below fP B2.lt;have kt:=kr.ext fP;have jd:=kx.ext fP;have jc:=kv.ext fP;clear B1 B2 kr kx kv x0 x1 x2 x3 x4 x5 x6 x7 fP ka q5;obtain ⟨x0,x1,x2,x3,x4,x5,x6,x7⟩:=C1.op;obtain ⟨y0,y1,y2,y3,y4,y5,y6,y7⟩:=C2.op;have nn:=zH mF;clear mF;have pF:=et.size;by_cases eP:0<k∧o.call≤(nth l (k - 1)).call
       ·obtain ⟨nJ,eP⟩:=eP;have cR:k - 1<l.length:=by omega
        obtain ⟨_,_,_,_,_,q5,_,_⟩:=((h1.below hb).below (et.mono aA)).ln cR;have dG:(0:Int)<(k:Int):=by omega
        go_wp2_with fail
        go_quiet (fail)
        go_wp2_with fail
        go_ret
        exact ⟨congrArg _ (congrArg _ (WS jD.out aK (by rw [fA,if_neg (by rw [ho,nn.out];simp),if_pos (by rw [ho];exact ⟨nJ,eP⟩)]) za)),Vo (hb.trans (et.mono aA)) _⟩
       ·have j1:=zH eP
        go_cut [74] (fun s wx=>s=.bool false∧∃ n,wx=w2.drewN n)
        case first=>
         by_cases nJ:0<k
         ·have cR:k - 1<l.length:=by omega
          obtain ⟨_,_,_,_,_,q5,_,_⟩:=((h1.below hb).below (et.mono aA)).ln cR;have dG:(0:Int)<(k:Int):=by omega
          have hle:(nth l (k - 1)).call<o.call:=by
           have:=j1.out;omega
          clear eP
          go_wp2_with fail
          go_quiet (fail)
          go_wp2_with fail
          go_meet
          case rel=>exact ⟨by simp;omega,_,rfl⟩
         ·have dG:decide ((0:Int)<(k:Int))=false:=by simp;omega
          clear eP
          go_wp2_with fail
          go_quiet (fail)
          go_wp2_with fail
          go_meet
          case rel=>exact ⟨by simp,_,rfl⟩
        case rest=>
         obtain ⟨rfl,n,rfl⟩:=hcut;clear eP
         go_upto_region 22 with fail
         go_cut [11,13,15,88] (fun _ _ _ s wx=>s=.bool (b5 || (o.done && (b6 || b7)))∧wx=w2.drewN n)
         case first=>
          go_wp2_with fail
          all_goals go_meet
          all_goals exact ⟨by simp [*],rfl⟩
         case rest=>
          obtain ⟨rfl,rfl⟩:=hcut;obtain ⟨b8,lO⟩:∃ b8,(b5 || (o.done && (b6 || b7)))=b8:=⟨_,rfl⟩
          rw [lO];have oM:=zH lO;clear lO;have e1:¬ (fz (nth l k)=false):=by rw [ho,nn.out];simp
          have e2:¬ (0<k∧(nth l k).call≤(nth l (k - 1)).call):=by rw [ho];exact j1.out
          have e3:(VW l k (nth l k).call || (nth l k).done && (VW l k (nth l k).ret || Yx l l.length (nth l k).ret))=b8:=by rw [ho,ng.out,nh.out,ni.out];exact oM.out
          have E1:=zH e1;have E2:=zH e2;have E3:=zH e3;clear e1 e2 e3;cases b8 with
          | true =>
           go_wp2_with fail
           go_ret
           exact ⟨congrArg _ (congrArg _ (WS jD.out aK (by rw [fA,if_neg E1.out,if_neg E2.out,if_pos E3.out]) za)),Vo (hb.trans (et.mono aA)) _⟩
          | false=>
           go_upto_region 24 with fail
           go_cut [17,100] (fun _ s wx=>s=.bool (b4 && (!pv.done || decide (o.call<pv.ret)))∧wx=w2.drewN n)
           case first=>
            go_wp2_with fail
            all_goals go_meet
            all_goals exact ⟨by simp [*],rfl⟩
           case rest=>
            obtain ⟨rfl,rfl⟩:=hcut;obtain ⟨b9,lQ⟩:∃ b9,(b4 && (!pv.done || decide (o.call<pv.ret)))=b9:=⟨_,rfl⟩
            rw [lQ];have e4:((yW l k (nth l k).p).isSome=true∧(((yW l k (nth l k).p).getD default).done=false∨(nth l k).call<((yW l k (nth l k).p).getD default).ret))↔b9=true:=by
             rw [ho,nc.out,nj.out,← lQ];simp
            have E4:=zH e4;clear lQ e4;cases b9 with
            | true =>
             go_wp2_with fail
             go_ret
             exact ⟨congrArg _ (congrArg _ (WS jD.out aK (by rw [fA,if_neg E1.out,if_neg E2.out,if_neg (by rw [E3.out];simp),if_pos (E4.out.mpr (by trivial))]) za)),Vo (hb.trans (et.mono aA)) _⟩
            | false=>
             have hz:=si jD.out aK (by rw [fA,if_neg E1.out,if_neg E2.out,if_neg (by rw [E3.out];simp),if_neg (fun h=>by have:=E4.out.1 h;cases this)]);have Hz:=zH hz;clear hz;have nk:=zH (show yW l (k+1)=fun p=>if p=o.p then some o else yW l k p by rw [UH,ho]);have mn:=jd.gC C1;have mo:wb.heap.size≠w.heap.size:=by omega
             have pg:wb.heap.size≠wb.heap.size+1:=by omega
             have ph:=jc.gC C1;cases ig:o.done with
             | true=>
              rw [ig] at x7;have Hr:=zH (rr aK (by rw [ho];exact ig));have sR:=zH ig;clear ig
              go_upto_region 28 with (at_mapUpdate;refine Zr xY Tryd.underlying78 (jd.drewN n) o.ret hI.2.2.2.2.2.2 (.agg #[]) rfl (.tmp 116) (.tmp 118) (.tmp 119) rfl rfl rfl rfl ?_;intro w3 pa jL)
              have mA:w2.heap.size≤w3.heap.size:=jL.size;have D1:=(C1.drewN n).grown jL (by simpa using fun e=>mn e.symm);have ml:=(jc.drewN n).grown jL zd;have mi:=(kt.drewN n).grown jL (by simpa using fun e=>mo e.symm);have lN:=(Vo (hb.trans (et.mono aA)) n).grown jL yd (by rintro k' ⟨⟩;omega);clear x0 x1 x2 x3 x4 x5 x6 x7 jL;obtain ⟨x0,x1,x2,x3,x4,x5,x6,x7⟩:=D1.op
              go_wp2_with (at_mapUpdate;refine Zr xY Tryd.underlying80 ml o.p hI.1 (.agg o.aL.toArray) rfl (.tmp 120) (.tmp 122) (.tmp 123) rfl rfl rfl rfl ?_;intro w4 mg gX)
              go_roundw
              case rel=>
               refine ⟨k+1,by omega,by go_num,mi.grown gX yd,?_,?_,lN.grown gX zc (by rintro k' ⟨⟩;omega),by have:=gX.size;omega,Hz.out⟩
               ·rw [Hr.out,ho,← Wy];exact pa.grown gX zd
               ·rw [nk.out,← VP];exact mg
              case measure=>simp [intOf];omega
             | false=>
              rw [ig] at x7;have Hr:=zH (qu aK (by rw [ho];exact ig));have Hv:=zH (show (.agg o.aL.toArray:Value)=.agg #[.int .i64 o.p,.int .i64 o.k,.int .i64 o.key,.int .i64 o.arg,.int .i64 o.res,.int .i64 o.call,.int .i64 o.ret,.bool false] by simp [aF.aL,ig]);clear ig
              go_wp2_with (at_mapUpdate;refine Zr xY Tryd.underlying80 (jc.drewN n) o.p hI.1 (.agg #[.int .i64 o.p,.int .i64 o.k,.int .i64 o.key,.int .i64 o.arg,.int .i64 o.res,.int .i64 o.call,.int .i64 o.ret,.bool false]) rfl (.tmp 120) (.tmp 122) (.tmp 123) rfl rfl rfl rfl ?_;intro w4 mg gX)
              have mA:w2.heap.size≤w4.heap.size:=gX.size
              go_roundw
              case rel=>
               refine ⟨k+1,by omega,by go_num,(kt.drewN n).grown gX yd,?_,?_,(Vo (hb.trans (et.mono aA)) n).grown gX yd (by rintro k' ⟨⟩;omega),by omega,Hz.out⟩
               ·rw [Hr.out];exact ((jd.drewN n).grown gX zd).mono zc
               ·rw [nk.out,← VP,Hv.out];exact mg
              case measure=>simp [intOf];omega
     ·go_wp2
      go_ret
      obtain rfl:k=l.length:=by omega
      have e:=jD.out;rw [Nat.sub_self] at e;exact ⟨by rw [← e];rfl,hb⟩
end
section
set_option maxRecDepth 100000
def m5:List (Nat×TS):=[
 (3,⟨.int .i64,1,8,[.int .i64 0]⟩),
 (4,⟨.bool,1,1,[.bool false]⟩),
 (1,⟨.any,1,8,[.au]⟩),
 (2,⟨.int .i64,1,8,[.int .i64 0]⟩),
 (5,⟨.int .u8,1,1,[.int .u8 0]⟩),
 (6,⟨.int .u8,1,1,[.int .u8 0]⟩),
 (7,⟨.ao [(0,2),(1,3),(2,4),(3,6)],4,24,[.int .i64 0,.int .i64 0,.bool false,.int .u8 0]⟩),
 (8,⟨.ao [(0,2),(1,3),(2,4),(3,6)],4,24,[.int .i64 0,.int .i64 0,.bool false,.int .u8 0]⟩),
 (9,⟨.str,1,16,[.str ByteArray.empty]⟩),
 (10,⟨.str,1,16,[.str ByteArray.empty]⟩),
 (11,⟨.str,1,16,[.str ByteArray.empty]⟩),
 (12,⟨.int .u64,1,8,[.int .u64 0]⟩),
 (13,⟨.ao [(0,9),(1,12)],2,24,[.str ByteArray.empty,.int .u64 0]⟩),
 (14,⟨.ao [(0,9),(1,12)],2,24,[.str ByteArray.empty,.int .u64 0]⟩),
 (15,⟨.any,1,8,[.undef]⟩),
 (16,⟨.any,1,8,[.undef]⟩),
 (17,⟨.any,1,8,[.undef]⟩),
 (18,⟨.ao [(0,17)],1,8,[.undef]⟩),
 (19,⟨.ao [(0,17)],1,8,[.undef]⟩),
 (20,⟨.any,1,16,[.undef]⟩),
 (21,⟨.int .i32,1,4,[.int .i32 0]⟩),
 (22,⟨.any,1,8,[.au]⟩),
 (23,⟨.slice 3,1,24,[.nil]⟩),
 (24,⟨.slice 45,1,24,[.nil]⟩),
 (25,⟨.ao [(0,23),(1,24)],2,48,[.nil,.nil]⟩),
 (26,⟨.ao [(0,23),(1,24)],2,48,[.nil,.nil]⟩),
 (27,⟨.ao [(0,3),(1,3),(2,3),(3,26)],5,72,[.int .i64 0,.int .i64 0,.int .i64 0,.nil,.nil]⟩),
 (28,⟨.ao [(0,3),(1,3),(2,3),(3,26)],5,72,[.int .i64 0,.int .i64 0,.int .i64 0,.nil,.nil]⟩),
 (29,⟨.any,1,8,[.au]⟩),
 (30,⟨.any,1,8,[.au]⟩),
 (31,⟨.any,1,8,[.au]⟩),
 (32,⟨.ao [(0,3),(1,3),(2,3),(3,3),(4,3),(5,3),(6,3),(7,4)],8,64,[.int .i64 0,.int .i64 0,.int .i64 0,.int .i64 0,.int .i64 0,.int .i64 0,.int .i64 0,.bool false]⟩),
 (33,⟨.ao [(0,3),(1,3),(2,3),(3,3),(4,3),(5,3),(6,3),(7,4)],8,64,[.int .i64 0,.int .i64 0,.int .i64 0,.int .i64 0,.int .i64 0,.int .i64 0,.int .i64 0,.bool false]⟩),
 (34,⟨.slice 33,1,24,[.nil]⟩),
 (35,⟨.slice 37,1,24,[.nil]⟩),
 (36,⟨.ao [(0,3),(1,3),(2,3),(3,3),(4,35)],5,56,[.int .i64 0,.int .i64 0,.int .i64 0,.int .i64 0,.nil]⟩),
 (37,⟨.ao [(0,3),(1,3),(2,3),(3,3),(4,35)],5,56,[.int .i64 0,.int .i64 0,.int .i64 0,.int .i64 0,.nil]⟩),
 (38,⟨.ao [(0,3),(1,3),(2,37)],7,72,[.int .i64 0,.int .i64 0,.int .i64 0,.int .i64 0,.int .i64 0,.int .i64 0,.nil]⟩),
 (39,⟨.ao [(0,3),(1,3),(2,37)],7,72,[.int .i64 0,.int .i64 0,.int .i64 0,.int .i64 0,.int .i64 0,.int .i64 0,.nil]⟩),
 (40,⟨.slice 23,1,24,[.nil]⟩),
 (41,⟨.slice 70,1,24,[.nil]⟩),
 (42,⟨.ao [(0,34),(1,40),(2,41)],3,72,[.nil,.nil,.nil]⟩),
 (43,⟨.ao [(0,34),(1,40),(2,41)],3,72,[.nil,.nil,.nil]⟩),
 (44,⟨.ao [(0,3),(1,3),(2,3)],3,24,[.int .i64 0,.int .i64 0,.int .i64 0]⟩),
 (45,⟨.ao [(0,3),(1,3),(2,3)],3,24,[.int .i64 0,.int .i64 0,.int .i64 0]⟩),
 (46,⟨.int .i64,1,8,[.int .i64 0]⟩),
 (47,⟨.any,1,8,[.au]⟩),
 (48,⟨.any,1,8,[.au]⟩),
 (49,⟨.any,1,8,[.au]⟩),
 (50,⟨.ao [(0,39),(7,43),(10,28)],15,216,[.int .i64 0,.int .i64 0,.int .i64 0,.int .i64 0,.int .i64 0,.int .i64 0,.nil,.nil,.nil,.nil,.int .i64 0,.int .i64 0,.int .i64 0,.nil,.nil]⟩),
 (51,⟨.ao [(0,39),(7,43),(10,28)],15,216,[.int .i64 0,.int .i64 0,.int .i64 0,.int .i64 0,.int .i64 0,.int .i64 0,.nil,.nil,.nil,.nil,.int .i64 0,.int .i64 0,.int .i64 0,.nil,.nil]⟩),
 (52,⟨.any,1,8,[.au]⟩),
 (53,⟨.ao [(0,52),(1,52)],2,16,[.au,.au]⟩),
 (54,⟨.ao [(0,52),(1,52)],2,16,[.au,.au]⟩),
 (56,⟨.map 59 54,1,8,[.bG]⟩),
 (57,⟨.any,1,8,[.au]⟩),
 (58,⟨.ao [(0,3),(1,3)],2,16,[.int .i64 0,.int .i64 0]⟩),
 (59,⟨.ao [(0,3),(1,3)],2,16,[.int .i64 0,.int .i64 0]⟩),
 (60,⟨.any,1,8,[.au]⟩),
 (61,⟨.map 65 4,1,8,[.bG]⟩),
 (62,⟨.any,1,8,[.au]⟩),
 (63,⟨.any,1,8,[.au]⟩),
 (64,⟨.ao [(0,3),(1,3)],2,16,[.int .i64 0,.int .i64 0]⟩),
 (65,⟨.ao [(0,3),(1,3)],2,16,[.int .i64 0,.int .i64 0]⟩),
 (66,⟨.any,1,8,[.au]⟩),
 (67,⟨.ao [(0,3),(1,3),(2,3)],3,24,[.int .i64 0,.int .i64 0,.int .i64 0]⟩),
 (68,⟨.ao [(0,3),(1,3),(2,3)],3,24,[.int .i64 0,.int .i64 0,.int .i64 0]⟩),
 (69,⟨.ao [(0,68),(3,3)],4,32,[.int .i64 0,.int .i64 0,.int .i64 0,.int .i64 0]⟩),
 (70,⟨.ao [(0,68),(3,3)],4,32,[.int .i64 0,.int .i64 0,.int .i64 0,.int .i64 0]⟩),
 (71,⟨.any,1,8,[.au]⟩),
 (72,⟨.any,1,8,[.au]⟩),
 (73,⟨.any,1,8,[.au]⟩),
 (74,⟨.any,1,8,[.au]⟩),
 (75,⟨.any,1,8,[.au]⟩),
 (76,⟨.any,1,8,[.au]⟩),
 (77,⟨.any,1,8,[.au]⟩),
 (78,⟨.map 3 79,1,8,[.bG]⟩),
 (79,⟨.ao [],0,0,[]⟩),
 (80,⟨.map 3 33,1,8,[.bG]⟩),
 (83,⟨.any,1,8,[.au]⟩),
 (84,⟨.any,1,8,[.au]⟩),
 (85,⟨.any,1,8,[.au]⟩),
 (86,⟨.any,1,8,[.au]⟩),
 (87,⟨.any,1,8,[.au]⟩),
 (88,⟨.any,1,8,[.au]⟩),
 (89,⟨.any,1,8,[.au]⟩),
 (90,⟨.map 3 91,1,8,[.bG]⟩),
 (91,⟨.map 3 4,1,8,[.bG]⟩),
 (92,⟨.any,1,8,[.au]⟩),
 (93,⟨.any,1,8,[.au]⟩),
 (94,⟨.slice 73,1,24,[.nil]⟩),
 (95,⟨.any,1,8,[.au]⟩),
 (96,⟨.any,1,8,[.au]⟩),
 (97,⟨.any,1,8,[.au]⟩),
 (98,⟨.map 3 3,1,8,[.bG]⟩),
 (99,⟨.any,1,8,[.au]⟩),
 (100,⟨.any,1,8,[.au]⟩),
 (101,⟨.any,1,8,[.au]⟩),
 (102,⟨.any,1,8,[.au]⟩),
 (103,⟨.any,1,8,[.au]⟩),
 (104,⟨.any,1,8,[.au]⟩),
 (105,⟨.any,1,8,[.au]⟩),
 (106,⟨.any,1,8,[.au]⟩),
 (107,⟨.any,1,8,[.au]⟩),
 (108,⟨.any,1,8,[.au]⟩),
 (109,⟨.any,1,8,[.au]⟩),
 (110,⟨.any,1,8,[.au]⟩),
 (111,⟨.slice 4,1,24,[.nil]⟩),
 (112,⟨.any,1,8,[.au]⟩),
 (113,⟨.any,1,8,[.au]⟩),
 (114,⟨.any,1,8,[.au]⟩),
 (115,⟨.any,1,8,[.au]⟩),
 (116,⟨.any,1,8,[.au]⟩),
 (117,⟨.any,1,8,[.au]⟩),
 (118,⟨.ao [(0,17),(1,17),(2,17),(3,9)],4,40,[.undef,.undef,.undef,.str ByteArray.empty]⟩),
 (119,⟨.ao [(0,17),(1,17),(2,17),(3,9)],4,40,[.undef,.undef,.undef,.str ByteArray.empty]⟩),
 (120,⟨.arr 0 16,0,0,[]⟩),
 (123,⟨.any,1,8,[.au]⟩),
 (124,⟨.int .u32,1,4,[.int .u32 0]⟩),
 (125,⟨.int .u8,1,1,[.int .u8 0]⟩),
 (126,⟨.int .u8,1,1,[.int .u8 0]⟩),
 (127,⟨.any,1,8,[.au]⟩),
 (128,⟨.any,1,8,[.undef]⟩),
 (129,⟨.int .i32,1,4,[.int .i32 0]⟩),
 (130,⟨.int .i32,1,4,[.int .i32 0]⟩),
 (131,⟨.ao [(0,12),(1,12),(2,124),(3,125),(4,5),(5,5),(6,126),(7,127),(8,128),(9,129),(10,130)],11,48,[.int .u64 0,.int .u64 0,.int .u32 0,.int .u8 0,.int .u8 0,.int .u8 0,.int .u8 0,.au,.undef,.int .i32 0,.int .i32 0]⟩),
 (132,⟨.ao [(0,12),(1,12),(2,124),(3,125),(4,5),(5,5),(6,126),(7,127),(8,128),(9,129),(10,130)],11,48,[.int .u64 0,.int .u64 0,.int .u32 0,.int .u8 0,.int .u8 0,.int .u8 0,.int .u8 0,.au,.undef,.int .i32 0,.int .i32 0]⟩)]
def kV (T:Nat):TS:=look {} m5 T
theorem rD:m5.all (fun p=>match p.2.k with|.other=>true|_=>ZJ Tryd.prog p.1 p.2)=true:=by kernel_rfl
theorem n7 {α:Type} {d:α} {q:Nat→α→Bool} (hd:∀ T,q T d=true):∀ (l:List (Nat×α)),l.all (fun p=>q p.1 p.2)=true→∀ T,q T (look d l T)=true
 | [], _, T => hd T
 | (i, a) :: l, h, T => by
  rw [ZP,zD] at h;rw [zp];split
  ·rename_i e;subst e;exact h.1
  ·exact n7 hd l h.2 T
theorem Vk (T:Nat):(match (kV T).k with|.other=>true|_=>ZJ Tryd.prog T (kV T))=true:=
 n7 (q:=fun T ts=>match ts.k with|.other=>true|_=>ZJ Tryd.prog T ts) (fun _=>rfl) m5 rD T
theorem Xh:Tryd.prog.follows .mixedOrders=true:=by kernel_rfl
def lz (P:Program) (h1:∀ T,(match (kV T).k with|.other=>true|_=>ZJ P T (kV T))=true) (h2:P.follows .mixedOrders=true) (N:Nat):Ctx:=⟨P,N,kV,h1,h2⟩
theorem zs (N:Nat) {f:Nat} {code:Code} {m:Vl} {res:FV} (h1:Tryd.prog.funcs[f]? = some fn) (h3:fn.ntmps=N) (hh:res.hand=none) (h:FW (lz Tryd.prog Vk Xh N) code (fun e s=>(e=.ret∨e=.normal)∧gJ (lz Tryd.prog Vk Xh N) fn s m res) (entry args)) (h2:fn.body=some code:=by exact rfl) (h4:kU Tryd.prog f=true:=by kernel_rfl) (hn:∀ f∈args,f.hand=none:=by simp [FV.hand]) (hl:args.length≤N:=by exact yo rfl):zV Tryd.prog f args m res:=.g7 (c:=lz Tryd.prog Vk Xh N) ⟨h1,h2,h3,h4⟩ hn hl hh h
end
section
open Go.RowKit
structure j3 {α:Type} (sz:Nat) (aL:α→List Value) (fv:α→List FV):Prop where
 rd:∀ w I x,ax w I (aL x) (fv x)
 inv:∀ w I us x,ax w I us (fv x)→us=aL x
 wide:∀ x,(fv x).length=sz
 one:∀ x,∀ f∈fv x,f.one=true
 flat:∀ x,FV.flat.cw (fv x)=true
section
variable {α:Type} {sz:Nat} {aL:α→List Value} {fv:α→List FV}
theorem j3.eU (T:j3 sz aL fv) (w:World) (I:Nat→Prop):∀ (l:List α) (us:List Value),ax w I us (l.map fv).flatten→us=YtedkppfghdipdaaDoor.flat aL l
 | [], us, h => by have := h.1; simpa [YtedkppfghdipdaaDoor.flat] using this
 | x :: l, us, h => by
  have h':=h;simp only [ya,yr] at h;have hl:=T.wide x;have h1:=h.take sz;have h2:=h.drop sz;rw [List.take_left' hl] at h1;rw [List.drop_left' hl] at h2;have e1:=T.inv w I _ x h1;have e2:=T.eU w I l _ h2;simp only [YtedkppfghdipdaaDoor.flat,YT];rw [← e1,show List.flatMap aL l=YtedkppfghdipdaaDoor.flat aL l from rfl,← e2,List.take_append_drop]
theorem j3.of (T:j3 sz aL fv) {B:Nat} {l:List α} (h:Rd w I v (.list sz (l.map fv))) (hI:∀ b,I b→b<B):∃ A c,v=.slice A l.length c∧l.length≤c∧Sl aL w B A l:=by
 cases h with
 | list A n c sz es us hn hc he ho hA hl hr =>
  rw [zR] at hn;subst hn;have:=T.eU w I l us ⟨hl,hr⟩;subst this;refine ⟨A,c,rfl,hc,fun bK=>?_⟩;obtain ⟨b,off,ha,hb,aY⟩:=hA (by simpa using bK);exact ⟨b,off,ha,hI b hb,aY⟩
end
theorem Rd.bC {k:IntKind} {n:Int} (h:Rd w I v (.int k n)):v=.int k n:=by cases h;rfl
theorem Rd.eg {b:Bool} (h:Rd w I v (.bool b)):v=.bool b:=by cases h;rfl
theorem ax.cons_inv (h:ax w I us (f::fs)):∃ u vs,us=u::vs∧Rd w I u f∧ax w I vs fs:=by
 cases us with
 | nil => have := h.1; simp at this
 | cons u vs => exact ⟨u, vs, rfl, h.2 0 u f rfl rfl, by have := h.1; simpa using this, fun j u' f' hu hf => h.2 (j+1) u' f' (by simpa using hu) (by simpa using hf)⟩
theorem ax.dX (h:ax w I us []):us=[]:=by have:=h.1;simpa using this
theorem ax.inv1 (h:ax w I vs [f0]):∃ u0,vs=[u0]∧Rd w I u0 f0:=by
 obtain ⟨u0,r0,rfl,e0,h0⟩:=h.cons_inv;have:=h0.dX;subst this;exact ⟨u0,rfl,e0⟩
theorem ax.inv2 {f1:FV} (h:ax w I vs [f0,f1]):∃ u0 u1,vs=[u0,u1]∧Rd w I u0 f0∧Rd w I u1 f1:=by
 obtain ⟨u0,r0,rfl,e0,h0⟩:=h.cons_inv;obtain ⟨u1,r1,rfl,e1,h1⟩:=h0.cons_inv;have:=h1.dX;subst this;exact ⟨u0,u1,rfl,e0,e1⟩
def ZL (x:Int):List FV:=[.int .i64 x]
def aF.fv (o:aF):List FV:=[.int .i64 o.p,.int .i64 o.k,.int .i64 o.key,.int .i64 o.arg,.int .i64 o.res,.int .i64 o.call,.int .i64 o.ret,.bool o.done]
theorem p8:j3 8 aF.aL aF.fv where
 rd w I x:=ax.cons (.int _ _) <| ax.cons (.int _ _) <| ax.cons (.int _ _) <| ax.cons (.int _ _) <| ax.cons (.int _ _) <| ax.cons (.int _ _) <| ax.cons (.int _ _) <| ax.cons (.bool _) .nil
 inv w I us x h:=by
  obtain ⟨_,_,rfl,h1,h⟩:=h.cons_inv;obtain ⟨_,_,rfl,h2,h⟩:=h.cons_inv;obtain ⟨_,_,rfl,h3,h⟩:=h.cons_inv;obtain ⟨_,_,rfl,h4,h⟩:=h.cons_inv;obtain ⟨_,_,rfl,h5,h⟩:=h.cons_inv;obtain ⟨_,_,rfl,h6,h⟩:=h.cons_inv;obtain ⟨_,_,rfl,h7,h⟩:=h.cons_inv;obtain ⟨_,_,rfl,h8,h⟩:=h.cons_inv;rw [h1.bC,h2.bC,h3.bC,h4.bC,h5.bC,h6.bC,h7.bC,h8.eg,h.dX];rfl
 wide x:=rfl
 one x f hf:=by simp [aF.fv] at hf;rcases hf with rfl|rfl|rfl|rfl|rfl|rfl|rfl|rfl <;> rfl
 flat x:=rfl
theorem zV.law {P:Program} {f:Nat} (h:zV P f args .fr (.bool true)) (hv:ax w (fun b=>b<w.heap.size) vs args):Calls P f vs.toArray w fun e w'=>e=.returned (.bool true)∧Below w.heap.size w w':=by
 refine (h.calls w _ vs (fun b hb=>hb) hv).mono ?_;rintro e w' ⟨v,rfl,hb,hr⟩;have px : Rd w' _ v (.bool true):=hr;rw [px.eg];exact ⟨rfl,hb⟩
theorem sK {id aa:Nat} (hr:fn.results.toList=[.tmp d]) (h:look .undef t d=.own id aa 0 n) (hb:look {} ob id=⟨aa,.own,E,sz,es⟩) (hn:n=es.length) (hp:0<sz) (e:es=aO)
  (hf:∀ e∈aO,FV.flat.cw e=true):gJ c fn ⟨t,ob⟩ (.ow E sz) (.list sz aO):=by
 subst e;have bD : (⟨t,ob⟩:ab).ob id=⟨aa,.own,E,sz,es⟩:=hb;have:=gJ.ow (c:=c) (fn:=fn) (s:=⟨t,ob⟩) hr h (by rw [bD]) (by rw [bD]) (by rw [bD];exact hn) (by rw [bD];exact hp) (by rw [bD];exact hf);rw [bD] at this;exact this
theorem zj {s:ab} {f' : FV} (hr:fn.results.toList=[.tmp d]) (h:s.get d=f) (e:f=f') (hf:f'.flat=true):gJ c fn s .fr f':=by
 subst e;exact .flat (fs:=[f]) (by rw [hr];exact .cons (.tmp d h (FV.e8 hf)) .nil) rfl hf
end
section
open Go.RowKit
def xP (n bq:Int):Int:=(if n<0 then -(n+1) else n) % bq
theorem Vn {n:Int} (h:0<bq):0≤xP n bq:=Int.emod_nonneg _ zc
theorem qd {n:Int} (h:0<bq):xP n bq<bq:=Int.emod_lt_of_pos _ h
theorem qH (n bq:Int) (w:World) (hn:bx n) (h1:1≤bq) (h2:bq≤4611686018427387904) :
  Calls Tryd.prog 4 #[.int .i64 n,.int .i64 bq] w fun e w'=>e=.returned (.int .i64 (xP n bq))∧w=w':=by
 unfold bx at hn;obtain ⟨g1,g2⟩:=hn;by_cases ky:n<0
 ·have e:xP n bq=(-(n+1)) % bq:=by simp [xP,ky]
  rw [e];clear e
  go_enter Tryd.func4,Tryd.ntmps4
  go_wp2
  go_ret
  have e2:-(n+1).tmod bq=(-(n+1)) % bq:=by rw [← Int.neg_tmod,Int.tmod_eq_emod_of_nonneg zc]
  exact ⟨by simp [e2],rfl⟩
 ·have e:xP n bq=n % bq:=by simp [xP,ky]
  rw [e];clear e
  go_enter Tryd.func4,Tryd.ntmps4
  go_wp2
  go_ret
  exact ⟨rfl,rfl⟩
theorem Xn (n bq:Int) (hn:bx n) (h1:1≤bq) (h2:bq≤4611686018427387904):zV Tryd.prog 4 [.int .i64 n,.int .i64 bq] .fr (.int .i64 (xP n bq)) where
 go:=by kernel_rfl
 hand:=rfl
 calls w I vs hI hv:=by
  obtain ⟨_,_,rfl,e1,e2⟩:=hv.inv2;rw [e1.bC,e2.bC];refine (qH n bq w hn h1 h2).mono ?_;rintro e w' ⟨rfl,rfl⟩;exact ⟨_,rfl,Yw _ _,.int _ _⟩
theorem UD (l:List aF) (cn:∀ o∈l,jB o) (hlen:l.length≤1000000000):zV Tryd.prog 12 [.list 8 (l.map aF.fv)] .fr (.int .i64 (Yj l)) where
 go:=by kernel_rfl
 hand:=rfl
 calls w I vs hI hv:=by
  obtain ⟨_,rfl,e1⟩:=hv.inv1;obtain ⟨A,c,rfl,_,hs⟩:=p8.of e1 hI;refine (qk A c l w hs cn hlen).mono ?_;rintro e w' ⟨rfl,hb⟩;exact ⟨_,rfl,hb,.int _ _⟩
end
section
set_option maxRecDepth 100000
open Go.ChangeShapes Go.WideShapes Go.ChangeAt Go.RowKit Go.Deep
theorem r8 (h:(Lit.int .i64 x).wf=true):bx x:=by
 simp [Lit.wf,IntKind.min,IntKind.max,IntKind.signed,IntKind.bits] at h;unfold bx;omega
section
variable {H:Type} {enc:TypeId×Value→H} {W:World} {base:Nat} {spare:Nat→Bool} {held:Bool} {v:Value} {d:DataW H} {p:List MemPlace} {r:Reach} {b0:Nat}
theorem rj (ht:Tryd.prog.underlying 3=some (.int .i64)) (hv:Value.okWide Tryd.prog W r b0 3 v) (h:DataW.Trod enc Tryd.prog W base spare held 3 v d p):∃ x,v=.int .i64 x∧bx x:=by
 obtain ⟨x,rfl,_,_,wx⟩:=open_int ht hv h;exact ⟨x,rfl,r8 wx⟩
end
section
variable {H:Type} {enc:TypeId×Value→H} {W:World} {base:Nat} {spare:Nat→Bool} {held:Bool} {v:Value} {d:DataW H} {p:List MemPlace} {r:Reach} {b0:Nat}
end
section
variable {H:Type} {enc:TypeId×Value→H} {W:World} {base:Nat} {spare:Nat→Bool} {held:Bool} {v:Value} {d:DataW H} {p:List MemPlace} {r:Reach} {b0:Nat}
theorem ot (hv:Value.okWide Tryd.prog W r b0 3 v) (h:DataW.Trod enc Tryd.prog W base spare held 3 v d p):∃ x:Int,Rd W (fun b=>b<W.heap.size) v (.int .i64 x)∧bx x:=by
 obtain ⟨x,rfl,i⟩:=rj Tryd.underlying3 hv h;exact ⟨x,.int _ _,i⟩
end
end
end Go.Proofs.YtedkppfghdipdaaDoor
