/-
  Lemmas, in parts.
-/
import Derived.Test.YtedkppfghdipdaaGreatDoorZFmM
import Derived.Test.YtedkppfghdipdaaGreatDoorZA
import Derived.Test.YtedkppfghdipdaaGreatDoorProg
import Derived.KernelRfl
import Derived.Maps.OwnSet
import Derived.DeepKeys4
import Derived.Deep.RegionHeld3
import Derived.Deep.DrawnRows
import Derived.Deep.DeepCutAuto
import Derived.Test.YtedkppfghdipdaaGreatDoorZBxxx
import Derived.ProofKit
import Derived.OpenShut
import Derived.ShutString
import Derived.ChangeOld
import Derived.Below
import Derived.Deep.Slices
import Derived.Deep.Fields
import Derived.ChangeSame
namespace Go.Proofs.YtedkppfghdipdaaGreatDoor
set_option linter.unusedVariables false
set_option maxHeartbeats 16000000
variable {args fs et : List FV} {es aS : List (List FV)} {B E d g i sz:Nat} {ob:List (Nat×yb)} {t t' : List (Nat×FV)} {f f0:FV} {v z:Value} {o:Oper} {w:World} {κ:Type} {ops:Array Oper} {rest:List Oper} {a:Act} {Q:Exit→Act→World→Prop} {X aL n x:Int} {fn:Func} {c:Ctx} {I:Nat→Prop} {us vs:List Value}
section
open Go.RowKit
structure bt where
 new:Nat
 src:Option Nat
 vo:Nat
 b:yb
inductive WC (M:List bt):FV→FV→Prop where
 | plain {f f' : FV} (hn:f.hand=none) (e:f=f'):WC M f f'
 | own {i i' v v' o o' n n' : Nat} {b:yb} (hm:(⟨i', some i, v, b⟩:bt) ∈ M) (hv:b.aa=v') (eo:o=o') (e:n=n'):WC M (.own i v o n) (.own i' v' o' n')
 | ptr {i i' v v' j o:Nat} {b:yb} (hm:(⟨i', some i, v, b⟩:bt) ∈ M) (hv:b.aa=v'):WC M (.ptr i v j o) (.ptr i' v' j o)
 | nil {i' vo v' : Nat} {b:yb} (hm:(⟨i', none, vo, b⟩:bt) ∈ M) (hv:b.aa=v'):WC M .nil (.own i' v' 0 0)
 | cB {sz:Nat}:WC M .nil (.list sz [])
 | omap {i i' v v' : Nat} {b:yb} (hm:(⟨i', some i, v, b⟩:bt) ∈ M) (hv:b.aa=v'):WC M (.omap i v) (.omap i' v')
 | eZ {k:Wk} {fs et : List FV} (hl:fs.length=et.length) (h:∀ (j:Nat) f f', fs[j]? = some f → et[j]? = some f' → WC M f f'):WC M (.wrap k fs) (.wrap k et)
inductive Ye (M:List bt):List FV→List FV→Prop where
 | nil:Ye M [] []
 | cons {f f' : FV} {fs et : List FV} (h:WC M f f') (hs:Ye M fs et):Ye M (f :: fs) (f' :: et)
theorem Ye.get {M:List bt} (h:Ye M fs et):fs.length=et.length∧∀ (j:Nat) f f',fs[j]? = some f→et[j]? = some f'→WC M f f':=by
 induction h with
 | nil => exact ⟨rfl, by simp⟩
 | cons h hs ih =>
  refine ⟨by simp [ih.1],fun j f f' hf bw=>?_⟩;cases j with
  | zero => simp at hf bw; subst hf; subst bw; exact h
  | succ j => exact ih.2 j f f' (by simpa using hf) (by simpa using bw)
theorem WC.wrap {M:List bt} {k:Wk} (h:Ye M fs et):WC M (.wrap k fs) (.wrap k et):=.eZ h.get.1 h.get.2
inductive kL (M:List bt):List (List FV)→List (List FV)→Prop where
 | nil:kL M [] []
 | cons {f f' : FV} {es aS : List (List FV)} (h:WC M f f') (hs:kL M es aS):kL M ([f] :: es) ([f'] :: aS)
theorem kL.len {M:List bt} (h:kL M es aS):es.length=aS.length∧es.flatten.length=aS.flatten.length∧(∀ e∈aS,e.length=1)∧∀ (j:Nat) f f',es.flatten[j]? = some f→aS.flatten[j]? = some f'→WC M f f':=by
 induction h with
 | nil => exact ⟨rfl, rfl, by simp, by simp⟩
 | cons h hs ih=>
  obtain ⟨h1,h2,h3,h4⟩:=ih;refine ⟨by simp [h1],by simpa using h2,fun e he=>?_,fun j f f' hf bw=>?_⟩
  ·rcases zU.1 he with rfl|he
   ·rfl
   ·exact h3 e he
  ·cases j with
   | zero => simp at hf bw; subst hf; subst bw; exact h
   | succ j => simp at hf bw; exact h4 j f f' (by simpa using hf) (by simpa using bw)
def iB (M:List bt) (sz:Nat) (es aS : List (List FV)):Prop:=es.length=aS.length∧es.flatten.length=aS.flatten.length∧(∀ e∈aS,e.length=sz)∧∀ (j:Nat) f f',es.flatten[j]? = some f→aS.flatten[j]? = some f'→WC M f f'
theorem iB.nil {M:List bt} {sz:Nat}:iB M sz [] []:=⟨rfl,rfl,by simp,by simp⟩
theorem iB.cons {M:List bt} {r r' : List FV} (h:Ye M r r') (hl:r'.length=sz) (hs:iB M sz es aS):iB M sz (r::es) (r'::aS):=by
 obtain ⟨h1,h2,h3,h4⟩:=hs;obtain ⟨g1,g2⟩:=h.get;refine ⟨by simp [h1],by simp [h2,g1],fun e he=>?_,fun j f f' hf bw=>?_⟩
 ·rcases zU.1 he with rfl|he
  ·exact hl
  ·exact h3 e he
 ·rw [zS] at hf bw;rcases xa j r.length with hj|hj
  ·rw [xo hj] at hf;rw [xo (by rw [← g1];exact hj)] at bw;exact g2 j f f' hf bw
  ·rw [xL hj] at hf;rw [xL (by rw [← g1];exact hj),← g1] at bw;exact h4 _ f f' hf bw
def ou (M:List bt) (es aS : List (List FV)):Prop:=es.length=aS.length∧∀ (j:Nat) dX,aS[j]? = some dX→∃ k f f',es[j]? = some [k,f]∧dX=[k,f']∧WC M f f'
def yT.plain:yT→Bool
 | .dead|.aw|.bB => false
 | _ => true
theorem yT.ib {l:yT} (h:l.plain=true):l≠.dead:=by rintro rfl;cases h
inductive xw (ob:List (Nat×yb)) (M0:List bt):List bt→Prop where
 | nil:xw ob M0 []
 | px {i' i vo v E sz:Nat} {lf:yT} {es aS : List (List FV)} {M:List bt} (h:look {} ob i=⟨vo, lf, E, sz, es⟩) (hl:lf.plain=true) (e:es=aS) (hM:xw ob M0 M):xw ob M0 (⟨i', some i, vo, ⟨v, lf, E, sz, aS⟩⟩ :: M)
 | new {i' vo v E sz:Nat} {M:List bt} (hM:xw ob M0 M):xw ob M0 (⟨i', none, vo, ⟨v, .own, E, sz, []⟩⟩ :: M)
 | nP {i' i vo v E:Nat} {es aS : List (List FV)} {M:List bt} (h:look {} ob i=⟨vo, .aw, E, 1, es⟩) (e:kL M0 es aS) (hM:xw ob M0 M):xw ob M0 (⟨i', some i, vo, ⟨v, .aw, E, 1, aS⟩⟩ :: M)
 | lM {i' i vo v E sz:Nat} {es aS : List (List FV)} {M:List bt} (h:look {} ob i=⟨vo, .aw, E, sz, es⟩) (e:iB M0 sz es aS) (hM:xw ob M0 M):xw ob M0 (⟨i', some i, vo, ⟨v, .aw, E, sz, aS⟩⟩ :: M)
 | nQ {i' i vo v E sz:Nat} {es aS : List (List FV)} {M:List bt} (h:look {} ob i=⟨vo, .bB, E, sz, es⟩) (e:ou M0 es aS) (hM:xw ob M0 M):xw ob M0 (⟨i', some i, vo, ⟨v, .bB, E, sz, aS⟩⟩ :: M)
theorem xw.get {M0 M:List bt} (h:xw ob M0 M):∀ e∈M,e.b.ag≠.dead∧(∀ i,e.src=some i→∃ ch,look {} ob i=⟨e.vo,e.b.ag,e.b.E,e.b.sz,ch⟩∧ch.length=e.b.es.length∧((e.b.ag.plain=true∧ch=e.b.es)∨(e.b.ag=.aw∧iB M0 e.b.sz ch e.b.es)∨(e.b.ag=.bB∧ou M0 ch e.b.es)))∧(e.src=none→e.b.ag=.own∧e.b.es=[]):=by
 induction h with
 | nil => intro e he; simp at he
 | px h hl e hM ih=>
  intro q hq;rcases zU.1 hq with rfl|hq
  ·refine ⟨yT.ib hl,fun i hi=>?_,fun hi=>by cases hi⟩;injection hi with hi
   subst hi;subst e;exact ⟨_,h,rfl,.inl ⟨hl,rfl⟩⟩
  ·exact ih q hq
 | new hM ih =>
  intro q hq;rcases zU.1 hq with rfl|hq
  ·exact ⟨by simp,(fun i hi=>by cases hi),fun _=>⟨rfl,rfl⟩⟩
  ·exact ih q hq
 | nP h e hM ih=>
  intro q hq;rcases zU.1 hq with rfl|hq
  ·refine ⟨by simp,fun i hi=>?_,fun hi=>by cases hi⟩;injection hi with hi
   subst hi;exact ⟨_,h,e.len.1,.inr (.inl ⟨rfl,e.len⟩)⟩
  ·exact ih q hq
 | lM h e hM ih=>
  intro q hq;rcases zU.1 hq with rfl|hq
  ·refine ⟨by simp,fun i hi=>?_,fun hi=>by cases hi⟩;injection hi with hi
   subst hi;exact ⟨_,h,e.1,.inr (.inl ⟨rfl,e⟩)⟩
  ·exact ih q hq
 | nQ h e hM ih=>
  intro q hq;rcases zU.1 hq with rfl|hq
  ·refine ⟨by simp,fun i hi=>?_,fun hi=>by cases hi⟩;injection hi with hi
   subst hi;exact ⟨_,h,e.1,.inr (.inr ⟨rfl,e⟩)⟩
  ·exact ih q hq
inductive gA (t:List (Nat×FV)) (M:List bt):Nat→FV→Prop where
 | plain {d:Nat} {f f' : FV} (h:look .undef t d=f) (hn:f.hand=none) (e:f=f'):gA t M d f'
 | own {d i i' v v' o n n' : Nat} {b:yb} (h:look .undef t d=(.own i v o n)) (hm:(⟨i', some i, v, b⟩:bt) ∈ M) (hv:b.aa=v') (e:n=n'):gA t M d (.own i' v' o n')
 | ptr {d i i' v v' j o:Nat} {b:yb} (h:look .undef t d=(.ptr i v j o)) (hm:(⟨i', some i, v, b⟩:bt) ∈ M) (hv:b.aa=v'):gA t M d (.ptr i' v' j o)
 | nil {d i' vo v' : Nat} {b:yb} (h:look .undef t d=.nil) (hm:(⟨i', none, vo, b⟩:bt) ∈ M) (hv:b.aa=v'):gA t M d (.own i' v' 0 0)
 | cB {d sz:Nat} (h:look .undef t d=.nil):gA t M d (.list sz [])
 | omap {d i i' v v' : Nat} {b:yb} (h:look .undef t d=(.omap i v)) (hm:(⟨i', some i, v, b⟩:bt) ∈ M) (hv:b.aa=v'):gA t M d (.omap i' v')
 | wrap {d:Nat} {k:Wk} {fs et : List FV} (h:look .undef t d=.wrap k fs) (hc:Ye M fs et):gA t M d (.wrap k et)
inductive jE (t:List (Nat×FV)) (M:List bt):List (Nat×FV)→Prop where
 | nil:jE t M []
 | cons {d:Nat} {f:FV} {t' : List (Nat × FV)} (h:gA t M d f) (hs:jE t M t'):jE t M ((d, f) :: t')
theorem gA.oF {M:List bt} (h:gA t M d f):WC M (look .undef t d) f:=by
 cases h with
 | plain h hn e => rw [h]; exact .plain hn e
 | own h hm hv e => rw [h]; exact .own hm hv rfl e
 | ptr h hm hv => rw [h]; exact .ptr hm hv
 | nil h hm hv => rw [h]; exact .nil hm hv
 | cB h => rw [h]; exact .cB
 | omap h hm hv => rw [h]; exact .omap hm hv
 | wrap h hc => rw [h]; exact .wrap hc
theorem jE.get {M:List bt} (h:jE t M t') (d:Nat):look .undef t' d=.undef∨gA t M d (look .undef t' d):=by
 induction h with
 | nil => exact .inl rfl
 | cons h hs ih =>
  rw [zA];split
  ·rename_i e;subst e;exact .inr h
  ·exact ih
def ZY (M:List bt) (k:Nat):Option bt:=look none (M.map fun e=>(e.new,some e)) k
theorem WV:∀ {M:List bt} {k:Nat} {e:bt},ZY M k=some e→e∈M∧e.new=k
 | [], _, _, h => by cases h
 | q :: M, k, e, h => by
  unfold ZY at h;rw [yf,zA] at h;split at h
  ·rename_i hk;injection h with h;subst h;exact ⟨by simp,hk⟩
  ·have:=WV (M:=M) h;exact ⟨by simp [this.1],this.2⟩
theorem Wl:∀ {M:List bt} (_:(M.map bt.new).Nodup) {e:bt},e∈M→ZY M e.new=some e
 | [], _, _, h => by simp at h
 | q::M,hn,e,h=>by
  unfold ZY;rw [yf,zA];rw [yf,Vq] at hn;rcases zU.1 h with rfl|h
  ·rw [if_pos rfl]
  ·rw [if_neg (fun hq=>hn.1 (zM.2 ⟨e,h,hq.symm⟩))];exact Wl hn.2 h
theorem pK:∀ (M:List bt) (k:Nat),look {} (M.map fun e=>(e.new,e.b)) k=((ZY M k).map bt.b).getD {}
 | [], _ => rfl
 | q :: M, k => by
  unfold ZY;rw [yf,yf,zA,zA];split
  ·rfl
  ·exact pK M k
theorem YD:∀ {M:List bt} (_:(M.filterMap bt.src).Nodup) {e q:bt} {i:Nat},e∈M→q∈M→e.src=some i→q.src=some i→e=q
 | [], _, _, _, _, h, _, _, _ => by simp at h
 | p::M,hn,e,q,i,he,hq,h1,h2=>by
  have key:∀ x∈M,x.src=some i→p.src=some i→False:=fun x hx mg rk=>by
   rw [ZK,rk] at hn;exact (Vq.1 hn).1 (Zi.2 ⟨x,hx,mg⟩)
  have kz : (M.filterMap bt.src).Nodup:=by
   rw [ZK] at hn;cases hp:p.src with
   | none => rw [hp] at hn; exact hn
   | some j => rw [hp] at hn; exact (Vq.1 hn).2
  rcases zU.1 he with rfl|he
  ·rcases zU.1 hq with rfl|jl
   ·rfl
   ·exact (key q jl h2 h1).elim
  ·rcases zU.1 hq with rfl|jl
   ·exact (key e (by assumption) h1 h2).elim
   ·exact YD kz (by assumption) jl h1 h2
inductive UW (ob:List (Nat×yb)):List bt→Prop where
 | nil:UW ob []
 | low {q:bt} {M:List bt} (h:Nat.ble Zz q.new=false) (hs:UW ob M):UW ob (q :: M)
 | same {i v:Nat} {b:yb} {M:List bt} (e:b.aa=v) (hs:UW ob M):UW ob (⟨i, some i, v, b⟩ :: M)
 | bump {q:bt} {M:List bt} (e:(look {} ob q.new).aa<q.b.aa) (hs:UW ob M):UW ob (q :: M)
theorem UW.get {M:List bt} (h:UW ob M):∀ q∈M,Zz≤q.new→(q.src=some q.new∧q.b.aa=q.vo)∨(look {} ob q.new).aa<q.b.aa:=by
 induction h with
 | nil => intro q hq; cases hq
 | low h hs ih =>
  intro q hq gQ;rcases zU.1 hq with rfl|hq
  ·rw [Nat.ble_eq_true_of_le gQ] at h;cases h
  ·exact ih q hq gQ
 | same e hs ih =>
  intro q hq gQ;rcases zU.1 hq with rfl|hq
  ·exact .inl ⟨rfl,e⟩
  ·exact ih q hq gQ
 | bump e hs ih =>
  intro q hq gQ;rcases zU.1 hq with rfl|hq
  ·exact .inr e
  ·exact ih q hq gQ
def oe (ob:List (Nat×yb)) (M:List bt):Bool:=ob.all fun p=>!Nat.ble Zz p.1 || M.any fun q=>Nat.beq q.new p.1
theorem Uy {α:Type} {d:α}:∀ {l:List (Nat×α)} {k:Nat},(∀ p∈l,p.1≠k)→look d l k=d
 | [], _, _ => rfl
 | p :: l, k, h => by
  obtain ⟨i,x⟩:=p;rw [zA,if_neg (h (i,x) zd)];exact Uy fun p hp=>h p (Xu _ hp)
theorem sR {M:List bt} (h:oe ob M=true) {k:Nat} (hk:Zz≤k):(∃ q∈M,q.new=k)∨look {} ob k={}:=by
 by_cases hx:∃ p∈ob,p.1=k
 ·obtain ⟨p,hp,rfl⟩:=hx;have h1:=zG.1 h p hp;rw [Nat.ble_eq_true_of_le hk] at h1;simp only [Bool.not_true,yU] at h1;obtain ⟨q,hq,e⟩:=Yx.1 h1;exact .inl ⟨q,hq,Nat.eq_of_beq_eq_true e⟩
 ·exact .inr (Uy fun p hp e=>hx ⟨p,hp,e⟩)
theorem aC.conv (M:List bt) (hk:(M.map bt.new).Nodup) (hs:(M.filterMap bt.src).Nodup) (m4:oe ob M=true) (l9:UW ob M) (ho:xw ob M M) (ht:jE t M t'):aC ⟨t,ob⟩ ⟨t',M.map fun e=>(e.new,e.b)⟩:=by
 intro N w0 J a w β hF;refine ⟨fun k=>(ZY M k).bind fun e=>e.src.bind β,?_⟩;have hE:=ho.get;have bE:∀ k,(⟨t',M.map fun e=>(e.new,e.b)⟩:ab).ob k=((ZY M k).map bt.b).getD {}:=fun k=>pK M k;have cT:∀ e∈M,(⟨t',M.map fun e=>(e.new,e.b)⟩:ab).ob e.new=e.b:=fun e he=>by rw [bE,Wl hk he];rfl
 have iz:∀ e∈M,((ZY M e.new).bind fun e=>e.src.bind β)=e.src.bind β:=fun e he=>by rw [Wl hk he];rfl
 have ai:∀ k,((⟨t',M.map fun e=>(e.new,e.b)⟩:ab).ob k).ag≠.dead→∃ e∈M,e.new=k:=fun k hl=>by
  rw [bE] at hl;cases hm:ZY M k with
  | none => rw [hm] at hl; exact absurd rfl hl
  | some e => exact ⟨e, WV hm⟩
 have hold:∀ e∈M,∀ i,e.src=some i→∃ ch,(⟨t,ob⟩:ab).ob i=⟨e.vo,e.b.ag,e.b.E,e.b.sz,ch⟩∧ch.length=e.b.es.length∧((e.b.ag.plain=true∧ch=e.b.es)∨(e.b.ag=.aw∧iB M e.b.sz ch e.b.es)∨(e.b.ag=.bB∧ou M ch e.b.es)):=fun e he i hi=>(hE e he).2.1 i hi;have hI:∀ b,aK J w β ⟨t,ob⟩ b→aK J w (fun k=>(ZY M k).bind fun e=>e.src.bind β) ⟨t',M.map fun e=>(e.new,e.b)⟩ b∧w.heap[b]? = w.heap[b]?:=fun b hb=>by
  refine ⟨⟨hb.1,hb.2.1,fun id hl=>?_⟩,rfl⟩;obtain ⟨e,he,rfl⟩:=ai id (yT.bg hl);rw [cT e he] at hl;dsimp only;rw [iz e he];cases iK:e.src with
  | none => simp
  | some i =>
   obtain ⟨ch,h1,_⟩:=hold e he i iK;exact hb.2.2 i (by rw [h1];exact hl)
 have lB:∀ e∈M,∀ i,e.src=some i→∀ v o n,WA w (β i) ((⟨t,ob⟩:ab).ob i) v o n→WA w ((ZY M e.new).bind fun e=>e.src.bind β) ((⟨t',M.map fun e=>(e.new,e.b)⟩:ab).ob e.new) v o n:=fun e he i hi v o n h=>by
  rw [iz e he,hi,cT e he];obtain ⟨ch,h1,h2,_⟩:=hold e he i hi;rw [h1] at h;obtain ⟨A,c,k1,k2,k3,k4,k5⟩:=h.ex;exact ⟨h.row,A,c,k1,k2,by rw [← h2];exact k3,k4,k5⟩
 have lH:∀ v f f',WC M f f'→iT w (aK J w β ⟨t,ob⟩) β ⟨t,ob⟩ v f→iT w (aK J w (fun k=>(ZY M k).bind fun e=>e.src.bind β) ⟨t',M.map fun e=>(e.new,e.b)⟩) (fun k=>(ZY M k).bind fun e=>e.src.bind β) ⟨t',M.map fun e=>(e.new,e.b)⟩ v f':=fun v f f' hc hv=>by
  cases hc with
  | plain hn e =>
   subst e;cases f <;> first|exact Rd.mono hI hv|(simp [FV.hand] at hn)
  | own hm aA eo e =>
   intro _ _;subst e;subst eo;obtain ⟨ch,h1,_⟩:=hold _ hm _ rfl;exact lB _ hm _ rfl _ _ _ (hv (by rw [h1];exact (hE _ hm).1) (by rw [h1]))
  | @ptr i i' v v' j o b hm aA =>
   intro _ _;obtain ⟨ch,h1,_⟩:=hold _ hm _ rfl;obtain ⟨a9,bb,hb,hp⟩:=hv (by rw [h1];exact (hE _ hm).1) (by rw [h1]);have h2:=cT _ hm;have h3:=iz _ hm;dsimp only at h2 h3;rw [h1] at a9 hp;refine ⟨by rw [h2];exact a9,bb,?_,by rw [h2];exact hp⟩;dsimp only;rw [h3];exact hb
  | @nil i' vo v' b hm aA =>
   intro _ _;have h2:=cT _ hm;have h3:=iz _ hm;dsimp only at h2 h3;have fI : Rd w _ v .nil:=hv;have gX:v=.slice none 0 0:=by cases fI;rfl
   rw [gX];dsimp only;rw [h2,h3];exact ⟨by have:=((hE _ hm).2.2 rfl).1;dsimp only at this;rw [this];rfl,none,0,rfl,zm _,by omega,fun _=>⟨rfl,rfl⟩,fun b hb=>by simp at hb⟩
  | eZ hl aY => have fI : Rd w _ v (.wrap _ _) := hv; cases fI
  | cB =>
   have fI : Rd w _ v .nil:=hv;have gX:v=.slice none 0 0:=by cases fI;rfl
   rw [gX];exact Rd.list none 0 0 _ [] [] rfl (zm _) zd zd zd zd zd
  | @omap i i' v v' b hm aA =>
   intro _ _;obtain ⟨ch,h1,_⟩:=hold _ hm _ rfl;obtain ⟨a9,bb,hb,hp⟩:=hv (by rw [h1];exact (hE _ hm).1) (by rw [h1]);have h2:=cT _ hm;have h3:=iz _ hm;dsimp only at h2 h3;rw [h1] at a9;refine ⟨by rw [h2];exact a9,bb,?_,hp⟩;dsimp only;rw [h3];exact hb
 have hU:∀ v f f',WC M f f'→VR w (aK J w β ⟨t,ob⟩) β ⟨t,ob⟩ v f→VR w (aK J w (fun k=>(ZY M k).bind fun e=>e.src.bind β) ⟨t',M.map fun e=>(e.new,e.b)⟩) (fun k=>(ZY M k).bind fun e=>e.src.bind β) ⟨t',M.map fun e=>(e.new,e.b)⟩ v f':=fun v f f' hc hv=>by
  by_cases hw:∃ k fs,f=.wrap k fs
  ·obtain ⟨k,fs,rfl⟩:=hw;cases hc with
   | plain hn e => cases hn
   | eZ hl aY =>
    obtain ⟨us,e,h1,h2⟩:=hv;refine ⟨us,e,h1.trans hl,fun j u g hu hg=>?_⟩;rename_i et;have hj:j<fs.length:=by rw [hl];exact (zK.1 hg).1
    exact lH u fs[j] g (aY j fs[j] g (by simp [hj]) hg) (h2 j u fs[j] hu (by simp [hj]))
  ·exact VR.pw (lH v f f' hc (hv.nT fun k fs e=>hw ⟨k,fs,e⟩))
 have dK:∀ f f',WC M f f'→∀ id aa,(id,aa)∈f'.hands→aa≤((⟨t',M.map fun e=>(e.new,e.b)⟩:ab).ob id).aa:=fun f f' hc id aa hh=>by
  cases hc with
  | plain hn e => rw [← e] at hh; exact (FV.aU hn hh).elim
  | cB => cases hh
  | eZ hl aY=>
   obtain ⟨g,hg,e⟩:=Zi.1 hh;obtain ⟨j,hj,rfl⟩:=yu hg;rename_i fs et;have eU:j<fs.length:=by rw [hl];exact hj
   have eS:=aY j fs[j] et[j] (by simp [eU]) zd;generalize fs[j]=f0 at eS;generalize et[j]=f1 at eS e;cases eS with
   | plain hn e1 => rw [← e1, hn] at e; cases e
   | cB => cases e
   | eZ _ _ => simp only [FV.hand, zI, yi] at e; omega
   | _ hm aA =>
    simp only [FV.hand,zI,yi] at e;obtain ⟨rfl,rfl⟩:=e;have h2:=cT _ hm;dsimp only at h2;rw [h2,aA];exact zm _
  | _ hm aA =>
   simp only [FV.hands,yg,yi] at hh;obtain ⟨e1,e2⟩:=hh;replace e1:=e1.symm;replace e2:=e2.symm;subst e1;subst e2;have h2:=cT _ hm;dsimp only at h2;rw [h2,aA];exact zm _
 refine { size:=hF.size,defers:=hF.defers,bN:=hF.bN,c8:=hF.c8,slot:=fun d=>?_,cm:=fun d id aa hh=>?_,obj:=fun id hl=>?_,inj:=fun id aN b hl bf e e'=>?_,kept:=fun b hb=>⟨(hF.kept b hb).1,fun id hl e=>?_,(hF.kept b hb).2.2⟩,gh:=fun v f hg=>?_ }
 ·show VR _ _ _ _ _ (look .undef t' d);rcases ht.get d with h|h
  ·rw [h];exact VR.bk (.undef _) rfl
  ·exact hU _ _ _ h.oF (hF.slot d)
 ·have m6 : (id,aa)∈(look FV.undef t' d).hands:=hh;rcases ht.get d with h|h
  ·rw [h] at m6;cases m6
  ·exact dK _ _ h.oF id aa m6
 ·obtain ⟨e,he,rfl⟩:=ai id hl;rw [cT e he,iz e he];cases iK:e.src with
  | none =>
   obtain ⟨h1,h2⟩:=(hE e he).2.2 iK;refine .ofRow ?_ (.own h1) (by rw [h1];rfl);refine ⟨by rw [h2];simp,by rw [h2];simp,.slice none 0 0,[],?_,rfl,?_⟩
   ·rw [h2];exact Yu _ _ _ _
   ·rw [h2];exact az.nil
  | some i=>
   obtain ⟨ch,h1,hlen,dD⟩:=hold e he i iK;have h2:=hF.obj i (by rw [h1];exact (hE e he).1);rw [h1] at h2;rcases dD with ⟨fH,rfl⟩|⟨hh,aw⟩|⟨hh,qX⟩
   ·cases hr:e.b.ag.row with
    | true =>
     have h4:=h2.bl hr;exact .ofRow ⟨h4.wide,h4.one,(h4.mono hI (fun _ _=>rfl)).row⟩ (h2.fK hr) hr
    | false=>
     have pg:e.b.ag.bz=false:=by
      cases bc:e.b.ag <;> rw [bc] at hr fH <;> first|rfl|(simp [yT.row,yT.plain] at hr fH;done)
     have kB:e.b.ag≠.bB:=by intro e2;rw [e2] at fH;cases fH
     have h4:=(h2.fY pg kB).mono hI (fun _ _=>rfl);exact .ofMap ⟨h4.ex⟩ pg kB
   ·have h4:=h2.eH (by rw [hh];rfl) (by rw [hh];rfl);obtain ⟨l1,l2,l3,l4⟩:=aw;obtain ⟨v,us,r1,r2,r3,r4⟩:=h4.row;dsimp only at r1 r3 r4;refine .lK ⟨fun q hq=>l3 q hq,fun f hf id aa k9=>?_,v,us,by rw [← l1];exact r1,r2,r3.trans l2,fun j u f' hu bw=>?_⟩ hh
    ·obtain ⟨j,hj,rfl⟩:=yu hf;have eU:j<ch.flatten.length:=by rw [l2];exact hj
     exact dK _ _ (l4 j ch.flatten[j] _ zd zd) id aa k9
    ·have hj:j<ch.flatten.length:=by rw [l2];exact (zK.1 bw).1
     exact hU _ _ _ (l4 j ch.flatten[j] f' zd bw) (r4 j u _ hu zd)
   ·have h4:=h2.j6 hh;obtain ⟨bb,clock,aq,r1,r2,r3,r4,r5,r6,r7⟩:=h4.ex;dsimp only at r5 r6 r7;obtain ⟨l1,l2⟩:=qX;have fh:∀ (j:Nat) dX,e.b.es[j]? = some dX→∃ en k f f',aq[j]? = some en∧ch[j]? = some [k,f]∧dX=[k,f']∧WC M f f'∧k.simple=true∧en.key=k.val:=fun j dX hr=>by
     obtain ⟨k,f,f',q1,q2,q3⟩:=l2 j dX hr;have hj:j<aq.size:=by rw [r5];exact (zK.1 q1).1
     obtain ⟨kf,vf,q4,q5,q6⟩:=r6 j aq[j] _ (by simp [hj]) q1;injection q4 with q4 _
     subst q4;exact ⟨aq[j],k,f,f',by simp [hj],q1,q2,q3,q5,q6⟩
    refine .lL ⟨fun f hf id aa k9=>?_,bb,clock,aq,r1,r2,r3,r4,by rw [r5];exact l1,fun j en dX fF hr=>?_,fun j en dX f2 fF hr mY=>?_⟩ hh
    ·obtain ⟨dX,hr,hf⟩:=yv.1 hf;obtain ⟨j,hj,rfl⟩:=yu hr;obtain ⟨en,k,f1,mI,q0,q1,q2,q3,q4,q5⟩:=fh j _ (xp hj);rw [q2] at hf;rcases zU.1 hf with rfl|hf
     ·exact (FV.aU (by cases f <;> first|rfl|(simp [FV.simple,FV.aB] at q4)) k9).elim
     ·rw [yg.1 hf] at k9;exact dK _ _ q3 id aa k9
    ·obtain ⟨qC,k,f1,mI,q0,q1,q2,q3,q4,q5⟩:=fh j _ hr;rw [q0] at fF;injection fF with fF
     subst fF;exact ⟨k,mI,q2,q4,q5⟩
    ·obtain ⟨qC,k,f1,mI,q0,q1,q2,q3,q4,q5⟩:=fh j _ hr;rw [q2] at mY;simp at mY;subst mY;exact hU _ _ _ q3 (r7 j en _ f1 fF q1 rfl)
 ·obtain ⟨q,hq,rfl⟩:=ai id hl;obtain ⟨q',jl,rfl⟩:=ai aN bf;rw [iz q hq] at e;rw [iz q' jl] at e';cases jo:q.src with
  | none => rw [jo] at e; simp at e
  | some i=>
   cases mf:q'.src with
   | none => rw [mf] at e'; simp at e'
   | some i' =>
    rw [jo] at e;rw [mf] at e';obtain ⟨_,h1,_⟩:=hold q hq i jo;obtain ⟨_,h2,_⟩:=hold q' jl i' mf;have:=hF.inj i i' b (by rw [h1];exact (hE q hq).1) (by rw [h2];exact (hE q' jl).1) e e';subst this;rw [YD hs hq jl jo mf]
 ·obtain ⟨q,hq,rfl⟩:=ai id hl;rw [iz q hq] at e;cases jo:q.src with
  | none => rw [jo] at e; simp at e
  | some i =>
   rw [jo] at e;obtain ⟨_,h1,_⟩:=hold q hq i jo;exact (hF.kept b hb).2.1 i (by rw [h1];exact (hE q hq).1) e
 ·obtain ⟨g1,g2⟩:=hF.gh v f hg;refine ⟨g1.mono hI fun id aa hh hl dV=>?_,fun id aa hh=>⟨(g2 id aa hh).1,?_⟩⟩
  ·obtain ⟨q1,q2⟩:=g2 id aa hh;obtain ⟨e,he,rfl⟩:=ai id hl;rw [cT e he] at dV;rcases l9.get e he q1 with ⟨h1,h2⟩|h1
   ·obtain ⟨ch,k1,k2,k3⟩:=hold e he _ h1;rw [k1,cT e he];refine ⟨(hE e he).1,by rw [← dV,h2],?_,rfl,rfl,fun v o n hv=>?_⟩
    ·rw [iz e he,h1];rfl
    ·rw [← cT e he];exact lB e he _ h1 v o n (by rw [k1];exact hv)
   ·exact absurd q2 (by have:(⟨t,ob⟩:ab).ob e.new=look {} ob e.new:=rfl;rw [this];omega)
  ·obtain ⟨q1,q2⟩:=g2 id aa hh;rcases sR m4 q1 with ⟨e,he,rfl⟩|cU
   ·rw [cT e he];rcases l9.get e he q1 with ⟨h1,h2⟩|h1
    ·obtain ⟨ch,k1,k2,k3⟩:=hold e he _ h1;rw [k1] at q2;rw [h2];exact q2
    ·have:(⟨t,ob⟩:ab).ob e.new=look {} ob e.new:=rfl;rw [this] at q2;omega
   ·have:(⟨t,ob⟩:ab).ob id=look {} ob id:=rfl;rw [this,cU] at q2;exact yZ q2 (zN _)
theorem aC.cv (M:List bt) (ho:xw ob M M) (ht:jE t M t') (hk:(M.map bt.new).Nodup:=by simp) (hs:(M.filterMap bt.src).Nodup:=by simp) (m4:oe ob M=true:=by rfl)
  (l9:UW ob M:=by repeat (first|exact UW.nil|refine UW.low rfl ?_|refine UW.same rfl ?_|refine UW.bump (Nat.lt_succ_self _) ?_)):aC ⟨t,ob⟩ ⟨t',M.map fun e=>(e.new,e.b)⟩:=aC.conv M hk hs m4 l9 ho ht
theorem aC.shut {v:Nat} (h:look {} ob i=⟨v,.own,E,sz,es⟩):aC ⟨t,ob⟩ ⟨t,(i,⟨v,.shut,E,sz,es⟩)::ob⟩:=by
 intro N w0 J a w β hF;have dS:(⟨t,ob⟩:ab).ob i=⟨v,.own,E,sz,es⟩:=h;refine ⟨β,hF.fJ i .shut (fun h=>by cases h) (fun hd=>?_) (fun _=>by rw [dS];rfl) (fun k=>?_) (fun k=>rfl) (fun _ ho=>?_)⟩;rotate_right
 ·rw [dS] at ho ⊢;have:=ho.bl rfl;exact .ofRow ⟨this.wide,this.one,this.row⟩ (.shut rfl) rfl
 ·have hb:(⟨t,ob⟩:ab).ob i=⟨v,.own,E,sz,es⟩:=h;rw [hb] at hd;cases hd
 ·show look {} ((i,_)::ob) k=_;rw [zA];show _=if i=k then { (look {} ob i) with ag:=.shut } else _
  rw [h];rfl
theorem aC.aH (d:Nat) {v j o:Nat} (h:look .undef t d=(.ptr i v j o)) (hb:look {} ob i=⟨v,.shut,E,sz,es⟩):aC ⟨t,ob⟩ ⟨(d,.aH sz es j o)::t,ob⟩:=by
 intro N w0 J a w β hF;have dS:(⟨t,ob⟩:ab).ob i=⟨v,.shut,E,sz,es⟩:=hb;have hl:=yz dS zb;obtain ⟨_,b,eL,hv⟩:=hF.bL (x:=.tmp d) (s:=⟨t,ob⟩) h hl.1 hl.2;have g6:Rd w (aK J w β ⟨t,ob⟩) (a.tmps.getD d undef) (.aH sz es j o):=by
  have fI : a.tmps.getD d undef=.pointer (some ⟨b,j * ((⟨t,ob⟩:ab).ob i).sz+o,none⟩):=hv;rw [fI,dS];have hO:=hF.obj i hl.1;rw [dS] at hO;have mM:=hO.bl rfl;have aM:=hO.lt eL;obtain ⟨v',us,r1,r2,r3⟩:=mM.row;dsimp only at r1 r3;have e:j * sz+o=0+(j * sz+o):=by omega
  dsimp only;rw [e];refine .aH b 0 sz es j o us ⟨aM.2,hF.fresh b aM.1 (.inr ⟨i,hl.1,eL⟩),fun aN bf e=>?_⟩ mM.wide mM.one (fun k u hu=>?_) r3.1 r3.2
  ·have:=hF.inj i aN b hl.1 (yT.bg bf) eL e;subst this;rw [dS] at bf;cases bf
  ·have aO:=r1.cells (g:=b) (by rw [r2];exact eL) _ u hu;rwa [yD] at aO
 refine ⟨β,?_⟩;refine hF.step (C:=fun _=>False) hF.size hF.defers hF.bN (fun b hb=>⟨hb,rfl⟩) (fun k=>?_) (fun id _=>⟨rfl,rfl,fun _ _ _=>rfl⟩) (fun _ h=>h.elim) (fun _ h=>h.elim) (fun _ h=>h.elim) hF.inj (fun b _ hn=>⟨rfl,hn⟩);show (_∧look .undef ((d,_)::t) k=look .undef t k)∨_;by_cases fS:d=k
 ·subst fS;right;have:(⟨(d,.aH sz es j o)::t,ob⟩:ab).get d=.aH sz es j o:=by show look _ _ _=_;rw [zA,if_pos rfl]
  rw [this];exact ⟨VR.bk (g6.mono (fun b hb=>⟨hb,rfl⟩)) rfl,fun id aa e=>by cases e⟩
 ·left;exact ⟨rfl,by rw [zA,if_neg fS]⟩
theorem aC.bx (d:Nat) {v j o:Nat} (h:look .undef t d=(.ptr i v j o)) (hb:look {} ob i=⟨v,.own,E,sz,es⟩) :
  aC ⟨t,ob⟩ ⟨(d,.aH sz es j o)::t,(i,⟨v,.shut,E,sz,es⟩)::ob⟩:=
 (aC.shut hb).trans (aC.aH (d:=d) h (by rw [zA,if_pos rfl]))
theorem aC.ic (d:Nat) {v:Nat} (h:look .undef t d=.omap i v) (hb:look {} ob i=⟨v,.aX,E,sz,es⟩) :
  aC ⟨t,ob⟩ ⟨(d,.smap es)::t,(i,⟨v,.maps,E,sz,es⟩)::ob⟩:=by
 have h1:aC ⟨t,ob⟩ ⟨t,(i,⟨v,.maps,E,sz,es⟩)::ob⟩:=by
  intro N w0 J a w β hF;have dS:(⟨t,ob⟩:ab).ob i=⟨v,.aX,E,sz,es⟩:=hb;refine ⟨β,hF.fJ i .maps (fun h=>by cases h) (fun hd=>by rw [dS] at hd;cases hd) (fun _=>by rw [dS];rfl) (fun k=>?_) (fun k=>rfl) (fun _ ho=>by rw [dS] at ho ⊢;exact .ofMap ⟨(ho.fY rfl (fun e=>by cases e)).ex⟩ rfl (fun e=>by cases e))⟩;show look {} ((i,_)::ob) k=_;rw [zA];show _=if i=k then { (look {} ob i) with ag:=.maps } else _
  rw [hb];rfl
 refine h1.trans ?_;intro N w0 J a w β hF;have dS:(⟨t,(i,⟨v,.maps,E,sz,es⟩)::ob⟩:ab).ob i=⟨v,.maps,E,sz,es⟩:=by show look {} ((i,_)::ob) i=_;rw [zA,if_pos rfl]
 have hl:=yz dS zb;have hg:=hF.er (x:=.tmp d) (s:=⟨t,(i,⟨v,.maps,E,sz,es⟩)::ob⟩) h hl.1 hl.2;have hO:=(hF.obj i hl.1).fY (by rw [dS];rfl) (by rw [dS];exact fun e=>by cases e);rw [dS] at hO;obtain ⟨_,b,aE,hx⟩:=hg;obtain ⟨b',clock,aq,q1,q2,q3,q4,q5,q6,q7⟩:=hO.ex;rw [aE] at q1;injection q1 with q1
 subst q1;have aM:=(hF.obj i hl.1).lt aE;have g6:Rd w (aK J w β ⟨t,(i,⟨v,.maps,E,sz,es⟩)::ob⟩) (a.tmps.getD d undef) (.smap es):=by
  have rK : a.tmps.getD d undef=.map (some b):=hx;rw [rK];refine .smap b clock aq es ⟨aM.2,hF.fresh b aM.1 (.inr ⟨i,hl.1,aE⟩),fun aN bf e=>?_⟩ q3 q4 q5 q6 q7;have:=hF.inj i aN b hl.1 (yT.bg bf) aE e;subst this;rw [dS] at bf;cases bf
 refine ⟨β,?_⟩;refine hF.step (C:=fun _=>False) hF.size hF.defers hF.bN (fun b hb=>⟨hb,rfl⟩) (fun k=>?_) (fun id _=>⟨rfl,rfl,fun _ _ _=>rfl⟩) (fun _ h=>h.elim) (fun _ h=>h.elim) (fun _ h=>h.elim) hF.inj (fun b _ hn=>⟨rfl,hn⟩);show (_∧look .undef ((d,_)::t) k=look .undef t k)∨_;by_cases fS:d=k
 ·subst fS;right;have:(⟨(d,.smap es)::t,(i,⟨v,.maps,E,sz,es⟩)::ob⟩:ab).get d=.smap es:=by show look _ _ _=_;rw [zA,if_pos rfl]
  rw [this];exact ⟨VR.bk (g6.mono (fun b hb=>⟨hb,rfl⟩)) rfl,fun id aa e=>by cases e⟩
 ·left;exact ⟨rfl,by rw [zA,if_neg fS]⟩
theorem aC.ag {v:Nat} {l l' : yT} (h:look {} ob i=⟨v,l,E,sz,es⟩) (hl:l≠.dead) (hm:l'.eD=true→l.eD=true) (hs:l'≠.dead→l'.bz=l.bz)
  (nD:∀ (w:World) (base:Nat) (I:Nat→Prop) (β:Nat→Option Nat) (s:ab) (b:Option Nat),l'≠.dead→bY w base I β s b ⟨v,l,E,sz,es⟩→bY w base I β s b ⟨v,l',E,sz,es⟩):aC ⟨t,ob⟩ ⟨t,(i,⟨v,l',E,sz,es⟩)::ob⟩:=by
 intro N w0 J a w β hF;have dS:(⟨t,ob⟩:ab).ob i=⟨v,l,E,sz,es⟩:=h;refine ⟨β,hF.fJ i l' (fun e=>by rw [dS];exact hm e) (fun hd=>by rw [dS] at hd;exact absurd hd hl) (fun e=>by rw [dS];exact hs e) (fun k=>?_) (fun k=>rfl) (fun e ho=>by rw [dS] at ho ⊢;exact nD _ _ _ _ _ _ e ho)⟩;show look {} ((i,_)::ob) k=_;rw [zA];show _=if i=k then { (look {} ob i) with ag:=l' } else _
 rw [h];rfl
theorem aC.pA {v:Nat} (h:look {} ob i=⟨v,.own,E,sz,es⟩):aC ⟨t,ob⟩ ⟨t,(i,⟨v,.aw,E,sz,es⟩)::ob⟩:=by
 refine aC.ag h zb (fun _=>rfl) (fun _=>rfl) fun w base I β s b _ ho=>?_;have hr:=ho.bl rfl;obtain ⟨v1,us,r1,r2,r3⟩:=hr.row;have cU:∀ f∈es.flatten,f.hand=none:=fun f hf=>by have:=hr.one f hf;cases f <;> first|rfl|(simp [FV.one] at this)
 exact .lK ⟨hr.wide,(fun f hf id aa e=>(FV.aU (cU f hf) e).elim),v1,us,r1,r2,r3.1,fun j u f hu hf=>VR.bk (r3.2 j u f hu hf) (cU f (zH hf))⟩ rfl
section
variable {g:Nat→Nat} {b:yb}
end
section
variable {g:Nat→Nat} {D:Nat→Prop} {wE wF:Nat→Option Nat} {s1 s2:ab} {w:World} {I1 I2:Nat→Prop}
end
section
variable {c:Ctx} {w0 w:World} {J:JJ} {a:Act} {β:Nat→Option Nat} {t:List (Nat×FV)} {ob:List (Nat×yb)}
end
section
variable {c:Ctx} {ops:Array Oper} {rest:List Oper} {t:List (Nat×FV)} {ob:List (Nat×yb)} {dst:Option Nat} {ty:TypeId} {pos:String} {af:Array Edge} {gd:Option (Nat×Bool)} {QS:ab→Prop}
end
structure aG where
 p:Int
 k:Int
 key:Int
 arg:Int
 res:Int
 call:Int
 ret:Int
 done:Bool
 deriving DecidableEq,Inhabited
def aG.aJ (o:aG):List Value:=[.int .i64 o.p,.int .i64 o.k,.int .i64 o.key,.int .i64 o.arg,.int .i64 o.res,.int .i64 o.call,.int .i64 o.ret,.bool o.done]
theorem aG.wide:ov 8 aG.aJ:=fun _=>rfl
def mB (x:Int):List Value:=[.int .i64 x]
section
variable {w:World} {B:Nat} {A:Option Addr}
theorem Sl.op {l:List aG} (h:Sl aG.aJ w B A l) (hi:i<l.length):∃ b off,A=some ⟨b,off,none⟩∧b<B∧
  w.cell? ⟨b,off+i * 8,none⟩=some (.int .i64 (nth l i).p)∧w.cell? ⟨b,off+i * 8+1,none⟩=some (.int .i64 (nth l i).k)∧w.cell? ⟨b,off+i * 8+2,none⟩=some (.int .i64 (nth l i).key)∧
  w.cell? ⟨b,off+i * 8+3,none⟩=some (.int .i64 (nth l i).arg)∧w.cell? ⟨b,off+i * 8+4,none⟩=some (.int .i64 (nth l i).res)∧w.cell? ⟨b,off+i * 8+5,none⟩=some (.int .i64 (nth l i).call)∧
  w.cell? ⟨b,off+i * 8+6,none⟩=some (.int .i64 (nth l i).ret)∧w.cell? ⟨b,off+i * 8+7,none⟩=some (.bool (nth l i).done):=by
 obtain ⟨b,off,ha,hb,hc⟩:=h.get aG.wide hi;rw [← Zc hi] at hc;exact ⟨b,off,ha,hb,hc 0 _ zc rfl,hc 1 _ zc rfl,hc 2 _ zc rfl,hc 3 _ zc rfl,hc 4 _ zc rfl,hc 5 _ zc rfl,hc 6 _ zc rfl,hc 7 _ zc rfl⟩
theorem Sl.ml {b off:Nat} {l:List aG} (h:Sl aG.aJ w B (some ⟨b,off,none⟩) l) (hi:i<l.length) :
  w.cell? ⟨b,off+i * 8,none⟩=some (.int .i64 (nth l i).p)∧w.cell? ⟨b,off+i * 8+1,none⟩=some (.int .i64 (nth l i).k)∧w.cell? ⟨b,off+i * 8+2,none⟩=some (.int .i64 (nth l i).key)∧
  w.cell? ⟨b,off+i * 8+3,none⟩=some (.int .i64 (nth l i).arg)∧w.cell? ⟨b,off+i * 8+4,none⟩=some (.int .i64 (nth l i).res)∧w.cell? ⟨b,off+i * 8+5,none⟩=some (.int .i64 (nth l i).call)∧
  w.cell? ⟨b,off+i * 8+6,none⟩=some (.int .i64 (nth l i).ret)∧w.cell? ⟨b,off+i * 8+7,none⟩=some (.bool (nth l i).done):=by
 obtain ⟨b',dr,ha,_,hc⟩:=h.op hi;injection ha with ha;injection ha with h1 h2;subst h1;subst h2
 exact hc
end
theorem sP (l:List Int):flat mB l=l.map (Value.int .i64):=by
 induction l with
 | nil => rfl
 | cons a l ih => simp only [flat, ZL, mB, yf, List.cons_append, Xv] at *; rw [ih]
theorem c5.op {t:TypeId} {o:aG} (h:c5 w g t o.aJ):w.cell? ⟨g,0,none⟩=some (.int .i64 o.p)∧w.cell? ⟨g,1,none⟩=some (.int .i64 o.k)∧w.cell? ⟨g,2,none⟩=some (.int .i64 o.key)∧
  w.cell? ⟨g,3,none⟩=some (.int .i64 o.arg)∧w.cell? ⟨g,4,none⟩=some (.int .i64 o.res)∧w.cell? ⟨g,5,none⟩=some (.int .i64 o.call)∧w.cell? ⟨g,6,none⟩=some (.int .i64 o.ret)∧w.cell? ⟨g,7,none⟩=some (.bool o.done):=
 ⟨h.cell 0,h.cell 1,h.cell 2,h.cell 3,h.cell 4,h.cell 5,h.cell 6,h.cell 7⟩
def qw (x y:aG):Bool:=decide (x=y)
@[go_sem] theorem aG.eta (x:aG):(⟨x.p,x.k,x.key,x.arg,x.res,x.call,x.ret,x.done⟩:aG)=x:=rfl
@[go_sem ↓] theorem lZ (w:World) (a1 a2 a3 a4 a5 a6 a7 b1 b2 b3 b4 b5 b6 b7:Int) (a8 b8:Bool):(Op.equalIn 10000 77 (.agg #[.int .i64 a1,.int .i64 a2,.int .i64 a3,.int .i64 a4,.int .i64 a5,.int .i64 a6,.int .i64 a7,.bool a8])
  (.agg #[.int .i64 b1,.int .i64 b2,.int .i64 b3,.int .i64 b4,.int .i64 b5,.int .i64 b6,.int .i64 b7,.bool b8])).run Tryz.prog w=.ok (qw ⟨a1,a2,a3,a4,a5,a6,a7,a8⟩ ⟨b1,b2,b3,b4,b5,b6,b7,b8⟩) w:=by
 unfold qw;have hS:Tryz.prog.underlying 77=some (.struct (Tryz.prog.fieldsOf 77)):=by kernel_rfl
 have hp:Tryz.prog.stoodInHeld 77=false:=by kernel_rfl
 rw [show (10000:Nat)=9999+1 from rfl,run_equalIn_agg w 9999 77 _ _ hS hp];simp only [Program.fieldsOf,Tryz.underlying77];simp [go_sem];by_cases h1:a1=b1
 ·by_cases h2:a2=b2
  ·by_cases h3:a3=b3
   ·by_cases h4:a4=b4
    ·by_cases h5:a5=b5
     ·by_cases h6:a6=b6
      ·by_cases h7:a7=b7
       ·by_cases h8:a8=b8 <;> simp [h1,h2,h3,h4,h5,h6,h7,h8]
       ·simp [h1,h2,h3,h4,h5,h6,h7]
      ·simp [h1,h2,h3,h4,h5,h6]
     ·simp [h1,h2,h3,h4,h5]
    ·simp [h1,h2,h3,h4]
   ·simp [h1,h2,h3]
  ·simp [h1,h2]
 ·simp [h1]
end
section
open Go.RowKit Go.Maps Go.MapKept Go.ChangeMaps
structure lU (P:Program) (k:TypeId) (κ:Type) (ek:κ→Value) (ok:κ→Prop):Prop where
 K:Keyed P k
 of:∀ x,ok x→∃ l,keyOf P k (ek x)=some l
 inj:∀ x y,ek x=ek y→x=y
def Ze {κ:Type} (ek:κ→Value) (ok:κ→Prop) (w:World) (b n:Nat) (f:κ→Option Value):Prop:=
 ∃ es clock,w.heap[b]? = some (.map es clock)∧es.size≤n∧Stamped es clock∧(∀ e∈es.toList,∃ x,ok x∧e.key=ek x)∧∀ x u,f x=some u↔∃ e∈es.toList,e.key=ek x∧e.val=u
open Classical in
noncomputable def jx {κ:Type} (f:κ→Option Value) (x:κ) (u:Value):κ→Option Value:=fun y=>if y=x then some u else f y
theorem XK (f:κ→Option Value) (x:κ) (u:Value):jx f x u x=some u:=by simp [jx]
theorem YP (f:κ→Option Value) {x y:κ} (u:Value) (h:y≠x):jx f x u y=f y:=by simp [jx,h]
section
variable {κ:Type} {ek:κ→Value} {ok:κ→Prop} {P:Program} {k:TypeId} {w w' : World} {b n:Nat} {f:κ→Option Value}
theorem Ze.made (w:World):Ze ek ok (w.alloc (.map #[] 0)) w.heap.size 0 (fun _=>none):=
 ⟨#[],0,heap_alloc_new w _,zm _,stamped_empty _,by simp,by simp⟩
theorem Ze.lt (h:Ze ek ok w b n f):b<w.heap.size:=by
 obtain ⟨es,clock,hb,_⟩:=h;exact (yQ.1 hb).1
theorem Ze.mono (h:Ze ek ok w b n f) {n' : Nat} (hn:n≤n'):Ze ek ok w b n' f:=by
 obtain ⟨es,clock,hb,hs,r⟩:=h;exact ⟨es,clock,hb,by omega,r⟩
theorem Ze.dN (h:Ze ek ok w b n f) (hb:w'.heap[b]? = w.heap[b]?):Ze ek ok w' b n f:=by
 obtain ⟨es,clock,hh,r⟩:=h;exact ⟨es,clock,hb.trans hh,r⟩
theorem Ze.drewN (h:Ze ek ok w b n f) (m:Nat):Ze ek ok (w.drewN m) b n f:=h
theorem Ze.alloc (h:Ze ek ok w b n f) (o:Obj):Ze ek ok (w.alloc o) b n f:=h.dN (Below.heap_alloc w o b h.lt)
theorem Ze.grown {row:Option Nat} (h:Ze ek ok w b n f) (hg:w.grownBy w' row) (hr:some b≠row):Ze ek ok w' b n f:=h.dN (hg.block b h.lt hr)
theorem Ze.ext (h:Ze ek ok w b n f) (hb:Below w.heap.size w w'):Ze ek ok w' b n f:=h.dN (hb.block b h.lt)
theorem Ze.ia (h:Ze ek ok w b n f) {t:TypeId} {cs:List Value} (ho:c5 w g t cs):b≠g:=by
 obtain ⟨es,clock,hb,_⟩:=h;rintro rfl;unfold c5 at ho;rw [hb] at ho;cases ho
theorem vp {e t:TypeId} (T:lU P k κ ek ok) (ht:P.underlying t=some (.map k e)) (hz:(zeroValue e).run P w=.ok z w) (h:Ze ek ok w b n f) (c:Bool) (x:κ) (hx:ok x) :
  (Instr.lookup t (.map (some b)) (ek x) c).run P w=.ok (if c then .tuple #[(f x).getD z,.bool (f x).isSome] else (f x).getD z) w:=by
 obtain ⟨es,clock,hb,hs,bF,cR,hf⟩:=h;obtain ⟨l,hl⟩:=T.of x hx;have m9:∀ e∈es.toList,∃ l,keyOf P k e.key=some l:=fun e he=>by
  obtain ⟨y,hy,he⟩:=cR e he;obtain ⟨l,hl⟩:=T.of y hy;exact ⟨l,by rw [he];exact hl⟩
 rcases T.K.find w hl es.toList m9 with ⟨h1,h2⟩|⟨j,e0,h1,h2,h3⟩
 ·have hn:f x=none:=by
   cases qN:f x with
   | none => rfl
   | some u =>
    obtain ⟨e,he,hk,_⟩:=(hf x u).1 qN;exact absurd hk (h2 e he)
  cases c <;> simp [Instr.lookup,run_underlying ht,yY hb,T.K.check w _ hl,h1,hz,Result.andThen,hn]
 ·have hn:f x=some e0.val:=(hf x _).2 ⟨e0,zH h2,h3,rfl⟩;cases c <;> simp [Instr.lookup,run_underlying ht,yY hb,T.K.check w _ hl,h1,Result.andThen,hn]
theorem vd {e t:TypeId} (T:lU P k κ ek ok) (ht:P.underlying t=some (.map k e)) (h:Ze ek ok w b n f) (x:κ) (hx:ok x) (u:Value) :
  ∃ w',(Instr.mapUpdate t (.map (some b)) (ek x) u).run P w=.ok () w'∧Ze ek ok w' b (n+1) (jx f x u)∧w.grownBy w' (some b):=by
 obtain ⟨es,clock,hb,hs,bF,cR,hf⟩:=h;obtain ⟨l,hl⟩:=T.of x hx;have m9:∀ e∈es.toList,∃ l,keyOf P k e.key=some l:=fun e he=>by
  obtain ⟨y,hy,he⟩:=cR e he;obtain ⟨l,hl⟩:=T.of y hy;exact ⟨l,by rw [he];exact hl⟩
 have gr:∀ o,w.grownBy (setBlock w b o) (some b):=fun o=>⟨rfl,rfl,rfl,by simp [setBlock],fun i _ hi=>heap_setBlock_other hb _ (fun e=>hi (by rw [e]))⟩
 rcases T.K.find w hl es.toList m9 with ⟨h1,h2⟩|⟨j,e0,h1,h2,h3⟩
 ·refine ⟨setBlock w b (.map (es.push ⟨ek x,u,clock⟩) (clock+1)),?_,⟨_,_,heap_setBlock_same hb _,by simp;omega,stamped_push bF h2,?_,?_⟩,gr _⟩
  ·simp [Instr.mapUpdate,run_underlying ht,yY hb,T.K.check w false hl,h1,Xy _ hb,Result.andThen,setBlock]
  ·intro e he;simp only [n1,yJ,yg] at he;rcases he with he|rfl
   ·exact cR e he
   ·exact ⟨x,hx,rfl⟩
  ·intro y v;by_cases hy:y=x
   ·subst hy;rw [XK];constructor
    ·intro hv;injection hv with hv;exact ⟨⟨ek y,u,clock⟩,by simp,rfl,hv⟩
    ·rintro ⟨e,he,hk,hv⟩;simp only [n1,yJ,yg] at he;rcases he with he|rfl
     ·exact absurd hk (h2 e he)
     ·rw [← hv]
   ·rw [YP f u hy,hf];constructor
    ·rintro ⟨e,he,hk,hv⟩;exact ⟨e,by simp [he],hk,hv⟩
    ·rintro ⟨e,he,hk,hv⟩;simp only [n1,yJ,yg] at he;rcases he with he|rfl
     ·exact ⟨e,he,hk,hv⟩
     ·exact absurd (T.inj _ _ hk).symm hy
 ·have hj:es[j]? = some e0:=by simpa using h2
  have ir:j<es.toList.length:=(zK.1 h2).1;have gS:∀ e',es[j]? = some e'→({ e' with key:=ek x,val:=u }:MapEntry).key=e'.key:=fun e' fT=>by rw [hj] at fT;cases fT;exact h3.symm
  have jf:(es.modify j (fun e'=>{ e' with key:=ek x,val:=u })).toList=es.toList.set j { e0 with key:=ek x,val:=u }:=by rw [Array.toList_modify,modify_eq_set _ _ _ _ h2]
  have hd:=((stamped_iff es clock).1 bF).2.2;have other:∀ i e,es.toList[i]? = some e→i≠j→e.key≠ek x:=by
   intro i e hi bM;rw [← h3];obtain ⟨iG,rfl⟩:=zK.1 hi;obtain ⟨_,rfl⟩:=zK.1 h2;rcases Nat.lt_or_gt_of_ne bM with aM|m5
   ·exact Xw.1 hd i j iG ir aM
   ·exact (Xw.1 hd j i ir iG m5).symm
  have nV:∀ y∈es.toList.set j { e0 with key:=ek x,val:=u },y={ e0 with key:=ek x,val:=u }∨(y∈es.toList∧y.key≠ek x):=by
   intro y hy;obtain ⟨i,hi,ex⟩:=yu hy;rw [Vm] at ex;split at ex
   ·exact Or.inl ex.symm
   ·rename_i bM;have oY : i<es.toList.length:=by simpa using hi
    exact Or.inr ⟨ex▸yt oY,other i y (by rw [xp oY,ex]) (fun e1=>bM e1.symm)⟩
  refine ⟨setBlock w b (.map (es.modify j (fun e'=>{ e' with key:=ek x,val:=u })) clock),?_,⟨_,_,heap_setBlock_same hb _,by simp;omega,stamped_modify bF _ _ (fun _ _=>rfl) (fun e' _ fT=>gS e' fT),?_,?_⟩,gr _⟩
  ·simp [Instr.mapUpdate,run_underlying ht,yY hb,T.K.check w false hl,h1,hj,h3,T.K.stays w hl,Xy _ hb,Result.andThen,setBlock]
  ·intro e he;rw [jf] at he;rcases nV e he with rfl|⟨he,_⟩
   ·exact ⟨x,hx,rfl⟩
   ·exact cR e he
  ·intro y v;rw [jf];by_cases hy:y=x
   ·subst hy;rw [XK];constructor
    ·intro hv;injection hv with hv
     exact ⟨{ e0 with key:=ek y,val:=u },Vo.2 ⟨j,by simpa using ir,by simp⟩,rfl,hv⟩
    ·rintro ⟨e,he,hk,hv⟩;rcases nV e he with rfl|⟨_,bM⟩
     ·rw [← hv]
     ·exact absurd hk bM
   ·rw [YP f u hy,hf];constructor
    ·rintro ⟨e,he,hk,hv⟩;obtain ⟨i,hi,rfl⟩:=yu he;have im:i≠j:=by
      rintro rfl;obtain ⟨_,ko⟩:=zK.1 h2;rw [ko,h3] at hk;exact hy (T.inj _ _ hk).symm
     exact ⟨es.toList[i],Vo.2 ⟨i,by simpa using hi,by rw [Vm,if_neg (fun e=>im e.symm)]⟩,hk,hv⟩
    ·rintro ⟨e,he,hk,hv⟩;rcases nV e he with rfl|⟨he,_⟩
     ·exact absurd (T.inj _ _ hk).symm hy
     ·exact ⟨e,he,hk,hv⟩
theorem xc {e t:TypeId}
  (T:lU P k κ ek ok) (ht:P.underlying t=some (.map k e)) (hz:(zeroValue e).run P w=.ok z w) (h:Ze ek ok w b n f) (x:κ) (hx:ok x)
  (hg:o.guard=none) (m i:Operand) (bK:o.op=Op.lookup t m i true) (hm:a.eval m=.map (some b)) (hi:a.eval i=ek x)
  (hK:wpList P ops Q rest (a.put o.dst (.tuple #[(f x).getD z,.bool (f x).isSome])) w):wpList P ops Q (o::rest) a w:=by
 refine wpList_plain hg fun K' hK'=>?_;have bm:=vp T ht hz h true x hx;unfold Oper.wp;simp [execOp,bK,hm,hi,bm,Result.andThen];exact hK' _ _ hK
theorem ZU {e t:TypeId}
  (T:lU P k κ ek ok) (ht:P.underlying t=some (.map k e)) (h:Ze ek ok w b n f) (x:κ) (hx:ok x) (u:Value)
  (hg:o.guard=none) (m i v:Operand) (bK:o.op=Op.mapUpdate t m i v) (hm:a.eval m=.map (some b)) (hi:a.eval i=ek x) (hv:a.eval v=u)
  (hK:∀ w',Ze ek ok w' b (n+1) (jx f x u)→w.grownBy w' (some b)→wpList P ops Q rest (a.put o.dst undef) w'):wpList P ops Q (o::rest) a w:=by
 refine wpList_plain hg fun K' hK'=>?_;obtain ⟨w',bm,h1,h2⟩:=vd T ht h x hx u;unfold Oper.wp;simp [execOp,bK,hm,hi,hv,bm,Result.andThen];exact hK' _ _ (hK w' h1 h2)
end
def iQ (x:Int):Value:=.int .i64 x
theorem vL (h:bq x):(Lit.int .i64 x).wf=true:=WalkArith.wf_i64 (by unfold bq at h;omega)
theorem ZB:lU Tryz.prog 3 Int iQ bq:=⟨int_keyed Tryz.underlying3,fun x hx=>⟨_,keyOf_int_mk Tryz.underlying3 (vL hx)⟩,fun x y h=>by injection h⟩
end
section
open Go.RowKit
attribute [local go_sem ↓] Go.wp_at_zero Go.wp_at_succ
def kl (o:aG):Prop:=bq o.p∧bq o.k∧bq o.key∧bq o.arg∧bq o.res∧bq o.call∧bq o.ret
noncomputable def ba (B:Int→Bool):Int→Option Value:=fun x=>if B x then some (.agg #[]) else none
theorem YW (B:Int→Bool) (x:Int):(ba B x).getD (.agg #[])=.agg #[]:=by unfold ba;split <;> rfl
theorem Yp (B:Int→Bool) (x:Int):(ba B x).isSome=B x:=by unfold ba;split <;> simp_all
theorem Vb (B:Int→Bool) (x:Int):jx (ba B) x (.agg #[])=ba (fun y=>B y || y == x):=by
 funext y;by_cases hy:y=x
 ·subst hy;rw [XK];simp [ba]
 ·rw [YP _ _ hy];simp [ba,hy]
theorem Wy:(fun _=>none)=ba (fun _=>false):=by funext y;simp [ba]
def Xj (g:Int→Option aG):Int→Option Value:=fun x=>(g x).map fun o=>.agg o.aJ.toArray
theorem uK (g:Int→Option aG) (x:Int):(Xj g x).getD (.agg #[.int .i64 0,.int .i64 0,.int .i64 0,.int .i64 0,.int .i64 0,.int .i64 0,.int .i64 0,.bool false])=.agg #[.int .i64 ((g x).getD default).p,.int .i64 ((g x).getD default).k,.int .i64 ((g x).getD default).key,.int .i64 ((g x).getD default).arg,.int .i64 ((g x).getD default).res,.int .i64 ((g x).getD default).call,.int .i64 ((g x).getD default).ret,.bool ((g x).getD default).done]:=by
 unfold Xj;cases g x <;> rfl
theorem tJ (g:Int→Option aG) (x:Int):(Xj g x).isSome=(g x).isSome:=by simp [Xj]
open Classical in
theorem UA (g:Int→Option aG) (x:Int) (o:aG):jx (Xj g) x (.agg o.aJ.toArray)=Xj (fun y=>if y=x then some o else g y):=by
 funext y;by_cases hy:y=x
 ·subst hy;rw [XK];simp [Xj]
 ·rw [YP _ _ hy];simp [Xj,hy]
def gp (o:aG):Bool:=decide (0≤o.p) && decide (0≤o.k) && decide (o.k≤4) && decide (0≤o.call) && decide (o.call<o.ret) && (o.done || decide (o.res=0))
def UI (l:List aG) (k:Nat) (x:Int):Bool:=(l.take k).any fun o=>o.done && o.ret == x
def YS (l:List aG) (k:Nat) (x:Int):Bool:=(l.take k).any fun o=>o.call == x
def xl (l:List aG):Nat→Int→Option aG
 | 0, _ => none
 | k+1, p => if p=(nth l k).p then some (nth l k) else xl l k p
def gw (l:List aG) (k:Nat):Int:=
 if gp (nth l k)=false then 1
 else if 0<k∧(nth l k).call≤(nth l (k - 1)).call then 5
 else if (UI l k (nth l k).call || (nth l k).done && (UI l k (nth l k).ret || YS l l.length (nth l k).ret))=true then 4
 else if (xl l k (nth l k).p).isSome=true∧(((xl l k (nth l k).p).getD default).done=false∨(nth l k).call<((xl l k (nth l k).p).getD default).ret) then 5
 else 0
def zX (l:List aG) (k:Nat):Nat→Int
 | 0 => 0
 | n+1 => if gw l k=0 then zX l (k+1) n else gw l k
def YH (l:List aG):Int:=if 300<l.length then 2 else zX l 0 l.length
theorem Vz {l:List aG} {k n:Nat} (h:gw l k=0):zX l k (n+1)=zX l (k+1) n:=by simp [zX,h]
theorem WO {l:List aG} {k n:Nat} (h:gw l k≠0):zX l k (n+1)=gw l k:=by simp [zX,h]
theorem r8 {l:List aG} {k:Nat} (hk:k<l.length) (x:Int):YS l (k+1) x=(YS l k x || x == (nth l k).call):=by
 unfold YS;rw [Zj hk,List.any_append,Zc hk];simp [BEq.comm (a:=x)]
theorem UJ {l:List aG} {k:Nat} (hk:k<l.length) (x:Int):UI l (k+1) x=(UI l k x || ((nth l k).done && x == (nth l k).ret)):=by
 unfold UI;rw [Zj hk,List.any_append,Zc hk];simp [BEq.comm (a:=x)]
theorem ZZ (o:Obj):Below w.heap.size w (w.alloc o):=(YR _ _).alloc (zm _) _
theorem Yd (o:aG) (w:World):Calls Tryz.prog 84 #[.agg #[.int .i64 o.p,.int .i64 o.k,.int .i64 o.key,.int .i64 o.arg,.int .i64 o.res,.int .i64 o.call,.int .i64 o.ret,.bool o.done]] w fun e w'=>e=.returned (.bool (gp o))∧Below w.heap.size w w':=by
 by_cases h1:0≤o.p
 ·by_cases h2:0≤o.k
  ·by_cases h3:o.k≤4
   ·by_cases h4:0≤o.call
    ·by_cases h5:o.call<o.ret
     ·cases h6:o.done with
      | true =>
       go_enter Tryz.func84,Tryz.ntmps84
       go_wp2
       go_ret
       exact ⟨by simp [gp,h1,h2,h3,h4,h5,h6],ZZ _⟩
      | false=>
       by_cases h7:o.res=0
       ·have qE : (o.res == 0)=true:=by simpa using h7
        go_enter Tryz.func84,Tryz.ntmps84
        go_wp2
        go_ret
        exact ⟨by simp [gp,h1,h2,h3,h4,h5,h6,h7],ZZ _⟩
       ·have qE : (o.res == 0)=false:=by simpa using h7
        go_enter Tryz.func84,Tryz.ntmps84
        go_wp2
        go_ret
        exact ⟨by simp [gp,h1,h2,h3,h4,h5,h6,h7],ZZ _⟩
     ·go_enter Tryz.func84,Tryz.ntmps84
      go_wp2
      go_ret
      exact ⟨by simp [gp,h1,h2,h3,h4];intros;omega,ZZ _⟩
    ·go_enter Tryz.func84,Tryz.ntmps84
     go_wp2
     go_ret
     exact ⟨by simp [gp,h1,h2,h3];intros;omega,ZZ _⟩
   ·go_enter Tryz.func84,Tryz.ntmps84
    go_wp2
    go_ret
    exact ⟨by simp [gp,h1,h2];intros;omega,ZZ _⟩
  ·go_enter Tryz.func84,Tryz.ntmps84
   go_wp2
   go_ret
   exact ⟨by simp [gp,h1];intros;omega,ZZ _⟩
 ·go_enter Tryz.func84,Tryz.ntmps84
  go_wp2
  go_ret
  exact ⟨by simp [gp];intros;omega,ZZ _⟩
theorem sH (l:List aG) (k:Nat):xl l (k+1)=fun p=>if p=(nth l k).p then some (nth l k) else xl l k p:=rfl
theorem ud (l:List aG):UI l 0=fun _=>false:=by funext x;simp [UI]
theorem sa (l:List aG):YS l 0=fun _=>false:=by funext x;simp [YS]
theorem tI:(fun _=>none)=Xj (fun _=>none):=by funext y;simp [Xj]
theorem ub {l:List aG} {k:Nat} (hk:k<l.length) (h:(nth l k).done=true):UI l (k+1)=fun x=>UI l k x || x == (nth l k).ret:=by
 funext x;rw [UJ hk,h];simp
theorem tO {l:List aG} {k:Nat} (hk:k<l.length) (h:(nth l k).done=false):UI l (k+1)=UI l k:=by
 funext x;rw [UJ hk,h];simp
theorem r9 {l:List aG} {k:Nat} (hk:k<l.length):YS l (k+1)=fun x=>YS l k x || x == (nth l k).call:=by
 funext x;rw [r8 hk]
theorem Vu {l:List aG} {k:Nat} {e:Int} (h:zX l k (l.length - k)=X) (hk:k<l.length) (he:gw l k=e) (h0:e≠0):e=X:=by
 rw [show l.length - k=(l.length - (k+1))+1 by omega,WO (by rw [he];exact h0),he] at h;exact h
theorem vK {l:List aG} {k:Nat} (h:zX l k (l.length - k)=X) (hk:k<l.length) (he:gw l k=0):zX l (k+1) (l.length - (k+1))=X:=by
 rw [show l.length - k=(l.length - (k+1))+1 by omega,Vz he] at h;exact h
set_option maxRecDepth 100000 in
theorem tE (A:Option Addr) (c:Nat) (l:List aG) (w:World) (h1:Sl aG.aJ w w.heap.size A l) (ck:∀ o∈l,kl o) (hlen:l.length≤1000000000) :
  Calls Tryz.prog 36 #[.slice A l.length c] w fun e w'=>e=.returned (.int .i64 (YH l))∧Below w.heap.size w w':=by
 have wo:=@run_makeMap Tryz.prog;by_cases kZ:300<l.length
 ·go_enter Tryz.func36,Tryz.ntmps36
  go_wp2_with fail
  go_ret
  exact ⟨by simp [YH,kZ],YR _ _⟩
 ·have hc : YH l=zX l 0 l.length:=by simp [YH,kZ]
  rw [hc]
  go_enter Tryz.func36,Tryz.ntmps36
  go_wp2_with fail
  go_loopw [24] (fun i wr=>∃ k:Nat,k≤l.length∧i=.int .i64 k∧Ze iQ bq wr w.heap.size k (ba (YS l k))∧Below w.heap.size w wr) (fun i _=>l.length - (intOf i).toNat)
  case atStart=>exact ⟨0,by omega,rfl,by rw [sa,← Wy];exact Ze.made w,ZZ _⟩
  case round =>
   obtain ⟨k,hk,rfl,bB,hb⟩:=hrel;by_cases aM:k<l.length
   ·obtain ⟨b1,o1,rfl,mS,p0,p1,p2,p3,p4,p5,p6,p7⟩:=(h1.below hb).op aM;have aF:=hb.size;have l5:b1<wr.heap.size:=by omega
    have hI:=ck _ (Ym aM);have Hs:=zO (r9 aM)
    go_wp2_with (at_mapUpdate;go_loud (refine ZU ZB Tryz.underlying118 (bB.alloc _) (nth l k).call hI.2.2.2.2.2.1 (.agg #[]) rfl (.tmp 28) (.tmp 30) (.tmp 31) rfl rfl rfl rfl ?_;intro w1 ng qO))
    go_roundw
    case rel=>
     refine ⟨k+1,by omega,by go_num,?_,?_⟩
     ·rw [Hs.out,← Vb];exact ng
     ·exact (hb.alloc aF _).grown qO zV (by rintro k' ⟨⟩;exact zm _)
    case measure=>simp [intOf];omega
   ·obtain rfl : k=l.length:=by omega
    obtain ⟨wb,rfl⟩:∃ wb:World,wb=wr:=⟨_,rfl⟩
    have nB:=hb.size;have qV:=bB.lt
    go_wp2_with fail
    go_loopw [37] (fun i wr=>∃ k:Nat,k≤l.length∧i=.int .i64 k∧Ze iQ bq wr w.heap.size l.length (ba (YS l l.length))∧Ze iQ bq wr wb.heap.size k (ba (UI l k))∧Ze iQ bq wr (wb.heap.size+1) k (Xj (xl l k))∧Below w.heap.size w wr∧wb.heap.size+2≤wr.heap.size∧
     zX l k (l.length - k)=zX l 0 l.length) (fun i _=>l.length - (intOf i).toNat)
    case atStart=>
     refine ⟨0,by omega,rfl,(bB.alloc _).alloc _,?_,?_,(hb.alloc nB _).alloc zV _,by simp,by simp⟩
     ·rw [ud,← Wy];exact (Ze.made wb).alloc _
     ·have:=Ze.made (ek:=iQ) (ok:=bq) (wb.alloc (.map #[] 0));rw [show xl l 0=fun _=>none from rfl,← tI];simpa using this
    case round =>
     obtain ⟨k,hk,rfl,ni,mb,nk,hb,rz,cU⟩:=hrel;have kn:=zO cU;clear cU bB;by_cases aM:k<l.length
     ·obtain ⟨b1,o1,rfl,mS,p0,p1,p2,p3,p4,p5,p6,p7⟩:=(h1.below hb).op aM;have aF:=hb.size;have l5:b1<wr.heap.size:=by omega
      have hI:=ck _ (Ym aM);obtain ⟨o,ho⟩:∃ o,nth l k=o:=⟨_,rfl⟩
      rw [ho] at p0 p1 p2 p3 p4 p5 p6 p7 hI;obtain ⟨pv,o9⟩:∃ pv,(xl l k o.p).getD default=pv:=⟨_,rfl⟩
      obtain ⟨b4,l6⟩:∃ b4,(xl l k o.p).isSome=b4:=⟨_,rfl⟩
      obtain ⟨b5,oS⟩:∃ b5,UI l k o.call=b5:=⟨_,rfl⟩
      obtain ⟨b6,oT⟩:∃ b6,UI l k o.ret=b6:=⟨_,rfl⟩
      obtain ⟨b7,oU⟩:∃ b7,YS l l.length o.ret=b7:=⟨_,rfl⟩
      have oC:=zO o9;have oy:=zO l6;have oz:=zO oS;have oA:=zO oT;have oB:=zO oU;clear o9 l6 oS oT oU
      go_upto_region 18 with (first|(at_lookup;refine xc ZB Tryz.underlying118 (Tryz.zeroValue119 _) (mb.alloc _) o.call hI.2.2.2.2.2.1 rfl (.tmp 43) (.tmp 45) rfl rfl rfl ?_;rw [YW,Yp,oz.out])|(at_lookup;refine xc ZB Tryz.underlying118 (Tryz.zeroValue119 _) ((mb.alloc _).alloc _) o.ret hI.2.2.2.2.2.2 rfl (.tmp 50) (.tmp 52) rfl rfl rfl ?_;rw [YW,Yp,oA.out])|(at_lookup;refine xc ZB Tryz.underlying118 (Tryz.zeroValue119 _) (((ni.alloc _).alloc _).alloc _) o.ret hI.2.2.2.2.2.2 rfl (.tmp 57) (.tmp 59) rfl rfl rfl ?_;rw [YW,Yp,oB.out])|(at_lookup;refine xc ZB Tryz.underlying120 (Tryz.zeroValue77 _) ((((nk.alloc _).alloc _).alloc _).alloc _) o.p hI.1 rfl (.tmp 64) (.tmp 66) rfl rfl rfl ?_;rw [uK,tJ,oy.out,oC.out]))
      obtain ⟨W,hW⟩:∃ W,W=(((((wr.alloc (.cells #[.int .i64 o.p,.int .i64 o.k,.int .i64 o.key,.int .i64 o.arg,.int .i64 o.res,.int .i64 o.call,.int .i64 o.ret,.bool o.done] 77)).alloc (.cells #[] 119)).alloc (.cells #[] 119)).alloc (.cells #[] 119)).alloc (.cells #[.int .i64 pv.p,.int .i64 pv.k,.int .i64 pv.key,.int .i64 pv.arg,.int .i64 pv.res,.int .i64 pv.call,.int .i64 pv.ret,.bool pv.done] 77)):=⟨_,rfl⟩
      have B1:c5 W wr.heap.size 77 o.aJ:=by rw [hW];exact ((((c5.new wr 77 o.aJ).alloc _).alloc _).alloc _).alloc _
      have B2:c5 W (wr.heap.size+1+1+1+1) 77 pv.aJ:=by
       rw [hW];have:=c5.new ((((wr.alloc (.cells #[.int .i64 o.p,.int .i64 o.k,.int .i64 o.key,.int .i64 o.arg,.int .i64 o.res,.int .i64 o.call,.int .i64 o.ret,.bool o.done] 77)).alloc (.cells #[] 119)).alloc (.cells #[] 119)).alloc (.cells #[] 119)) 77 pv.aJ;simp only [World.size_alloc] at this;exact this
      have ll:Ze iQ bq W w.heap.size l.length (ba (YS l l.length)):=by rw [hW];exact ((((ni.alloc _).alloc _).alloc _).alloc _).alloc _
      have lu:Ze iQ bq W wb.heap.size k (ba (UI l k)):=by rw [hW];exact ((((mb.alloc _).alloc _).alloc _).alloc _).alloc _
      have lr:Ze iQ bq W (wb.heap.size+1) k (Xj (xl l k)):=by rw [hW];exact ((((nk.alloc _).alloc _).alloc _).alloc _).alloc _
      have kY:Below wr.heap.size wr W:=by rw [hW];exact ((((ZZ _).alloc zd _).alloc zV _).alloc zV _).alloc zV _
      have q5:=kY.cell (p:=⟨b1,o1+k * 8+5,none⟩) l5;rw [← hW];clear hW ni mb nk;obtain ⟨x0,x1,x2,x3,x4,x5,x6,x7⟩:=B1.op;cases nH:gp o with
      | false =>
       go_wp2_with (go_at_call 84;refine (Yd o _).mono ?_;rintro e w2 ⟨rfl,gK⟩)
       go_ret
       exact ⟨congrArg _ (congrArg _ (Vu kn.out aM (by rw [gw,if_pos (by rw [ho];exact nH)]) zb)),hb.trans ((qu kY gK).mono aF)⟩
      | true =>
       have hP:=kY.size
       go_upto_region 20 with (go_at_call 84;refine (Yd o _).mono ?_;rintro e w2 ⟨rfl,gK⟩)
       have eR:=qu kY gK;have C1:=B1.below gK B1.lt;have C2:=B2.below gK B2.lt;have ln:=ll.ext gK;have jU:=lu.ext gK;have jT:=lr.ext gK;clear B1 B2 ll lu lr x0 x1 x2 x3 x4 x5 x6 x7 gK kY q5;obtain ⟨x0,x1,x2,x3,x4,x5,x6,x7⟩:=C1.op;obtain ⟨y0,y1,y2,y3,y4,y5,y6,y7⟩:=C2.op;have oE:=zO nH;clear nH;have rA:=eR.size;by_cases fj:0<k∧o.call≤(nth l (k - 1)).call
       ·obtain ⟨o3,fj⟩:=fj;have c0:k - 1<l.length:=by omega
        obtain ⟨_,_,_,_,_,q5,_,_⟩:=((h1.below hb).below (eR.mono aF)).ml c0;have dY:(0:Int)<(k:Int):=by omega
        go_wp2_with fail
        go_quiet (fail)
        go_wp2_with fail
        go_ret
        exact ⟨congrArg _ (congrArg _ (Vu kn.out aM (by rw [gw,if_neg (by rw [ho,oE.out];simp),if_pos (by rw [ho];exact ⟨o3,fj⟩)]) zb)),VV (hb.trans (eR.mono aF)) _⟩
       ·have kP:=zO fj
        go_cut [74] (fun s wx=>s=.bool false∧∃ n,wx=w2.drewN n)
        case first=>
         by_cases o3:0<k
         ·have c0:k - 1<l.length:=by omega
          obtain ⟨_,_,_,_,_,q5,_,_⟩:=((h1.below hb).below (eR.mono aF)).ml c0;have dY:(0:Int)<(k:Int):=by omega
          have hle:(nth l (k - 1)).call<o.call:=by
           have:=kP.out;omega
          clear fj
          go_wp2_with fail
          go_quiet (fail)
          go_wp2_with fail
          go_meet
          case rel=>exact ⟨by simp;omega,_,rfl⟩
         ·have dY:decide ((0:Int)<(k:Int))=false:=by simp;omega
          clear fj
          go_wp2_with fail
          go_quiet (fail)
          go_wp2_with fail
          go_meet
          case rel=>exact ⟨by simp,_,rfl⟩
        case rest=>
         obtain ⟨rfl,n,rfl⟩:=hcut;clear fj
         go_upto_region 22 with fail
         go_cut [11,13,15,88] (fun _ _ _ s wx=>s=.bool (b5 || (o.done && (b6 || b7)))∧wx=w2.drewN n)
         case first=>
          go_wp2_with fail
          all_goals go_meet
          all_goals exact ⟨by simp [*],rfl⟩
         case rest=>
          obtain ⟨rfl,rfl⟩:=hcut;obtain ⟨b8,mP⟩:∃ b8,(b5 || (o.done && (b6 || b7)))=b8:=⟨_,rfl⟩
          rw [mP];have qA:=zO mP;clear mP;have e1:¬ (gp (nth l k)=false):=by rw [ho,oE.out];simp
          have e2:¬ (0<k∧(nth l k).call≤(nth l (k - 1)).call):=by rw [ho];exact kP.out
          have e3:(UI l k (nth l k).call || (nth l k).done && (UI l k (nth l k).ret || YS l l.length (nth l k).ret))=b8:=by rw [ho,oz.out,oA.out,oB.out];exact qA.out
          have E1:=zO e1;have E2:=zO e2;have E3:=zO e3;clear e1 e2 e3;cases b8 with
          | true =>
           go_wp2_with fail
           go_ret
           exact ⟨congrArg _ (congrArg _ (Vu kn.out aM (by rw [gw,if_neg E1.out,if_neg E2.out,if_pos E3.out]) zb)),VV (hb.trans (eR.mono aF)) _⟩
          | false=>
           go_upto_region 24 with fail
           go_cut [17,100] (fun _ s wx=>s=.bool (b4 && (!pv.done || decide (o.call<pv.ret)))∧wx=w2.drewN n)
           case first=>
            go_wp2_with fail
            all_goals go_meet
            all_goals exact ⟨by simp [*],rfl⟩
           case rest=>
            obtain ⟨rfl,rfl⟩:=hcut;obtain ⟨b9,mQ⟩:∃ b9,(b4 && (!pv.done || decide (o.call<pv.ret)))=b9:=⟨_,rfl⟩
            rw [mQ];have e4:((xl l k (nth l k).p).isSome=true∧(((xl l k (nth l k).p).getD default).done=false∨(nth l k).call<((xl l k (nth l k).p).getD default).ret))↔b9=true:=by
             rw [ho,oy.out,oC.out,← mQ];simp
            have E4:=zO e4;clear mQ e4;cases b9 with
            | true =>
             go_wp2_with fail
             go_ret
             exact ⟨congrArg _ (congrArg _ (Vu kn.out aM (by rw [gw,if_neg E1.out,if_neg E2.out,if_neg (by rw [E3.out];simp),if_pos (E4.out.mpr (by trivial))]) zb)),VV (hb.trans (eR.mono aF)) _⟩
            | false=>
             have hz:=vK kn.out aM (by rw [gw,if_neg E1.out,if_neg E2.out,if_neg (by rw [E3.out];simp),if_neg (fun h=>by have:=E4.out.1 h;cases this)]);have Hz:=zO hz;clear hz;have oD:=zO (show xl l (k+1)=fun p=>if p=o.p then some o else xl l k p by rw [sH,ho]);have nr:=jU.ia C1;have nt:wb.heap.size≠w.heap.size:=by omega
             have qZ:wb.heap.size≠wb.heap.size+1:=by omega
             have q8:=jT.ia C1;cases jb:o.done with
             | true=>
              rw [jb] at x7;have Hr:=zO (ub aM (by rw [ho];exact jb));have vW:=zO jb;clear jb
              go_upto_region 28 with (at_mapUpdate;refine ZU ZB Tryz.underlying118 (jU.drewN n) o.ret hI.2.2.2.2.2.2 (.agg #[]) rfl (.tmp 116) (.tmp 118) (.tmp 119) rfl rfl rfl rfl ?_;intro w3 qW kx)
              have nA:w2.heap.size≤w3.heap.size:=kx.size;have D1:=(C1.drewN n).grown kx (by simpa using fun e=>nr e.symm);have nn:=(jT.drewN n).grown kx zd;have nj:=(ln.drewN n).grown kx (by simpa using fun e=>nt e.symm);have mO:=(VV (hb.trans (eR.mono aF)) n).grown kx zV (by rintro k' ⟨⟩;omega);clear x0 x1 x2 x3 x4 x5 x6 x7 kx;obtain ⟨x0,x1,x2,x3,x4,x5,x6,x7⟩:=D1.op
              go_wp2_with (at_mapUpdate;refine ZU ZB Tryz.underlying120 nn o.p hI.1 (.agg o.aJ.toArray) rfl (.tmp 120) (.tmp 122) (.tmp 123) rfl rfl rfl rfl ?_;intro w4 nh iE)
              go_roundw
              case rel=>
               refine ⟨k+1,by omega,by go_num,nj.grown iE zV,?_,?_,mO.grown iE zc (by rintro k' ⟨⟩;omega),by have:=iE.size;omega,Hz.out⟩
               ·rw [Hr.out,ho,← Vb];exact qW.grown iE zd
               ·rw [oD.out,← UA];exact nh
              case measure=>simp [intOf];omega
             | false=>
              rw [jb] at x7;have Hr:=zO (tO aM (by rw [ho];exact jb));have Hv:=zO (show (.agg o.aJ.toArray:Value)=.agg #[.int .i64 o.p,.int .i64 o.k,.int .i64 o.key,.int .i64 o.arg,.int .i64 o.res,.int .i64 o.call,.int .i64 o.ret,.bool false] by simp [aG.aJ,jb]);clear jb
              go_wp2_with (at_mapUpdate;refine ZU ZB Tryz.underlying120 (jT.drewN n) o.p hI.1 (.agg #[.int .i64 o.p,.int .i64 o.k,.int .i64 o.key,.int .i64 o.arg,.int .i64 o.res,.int .i64 o.call,.int .i64 o.ret,.bool false]) rfl (.tmp 120) (.tmp 122) (.tmp 123) rfl rfl rfl rfl ?_;intro w4 nh iE)
              have nA:w2.heap.size≤w4.heap.size:=iE.size
              go_roundw
              case rel=>
               refine ⟨k+1,by omega,by go_num,(ln.drewN n).grown iE zV,?_,?_,(VV (hb.trans (eR.mono aF)) n).grown iE zV (by rintro k' ⟨⟩;omega),by omega,Hz.out⟩
               ·rw [Hr.out];exact ((jU.drewN n).grown iE zd).mono zc
               ·rw [oD.out,← UA,Hv.out];exact nh
              case measure=>simp [intOf];omega
     ·go_wp2
      go_ret
      obtain rfl:k=l.length:=by omega
      have e:=kn.out;rw [Nat.sub_self] at e;exact ⟨by rw [← e];rfl,hb⟩
end
section
set_option maxRecDepth 100000
def oo:List (Nat×TS):=[
 (3,⟨.int .i64,1,8,[.int .i64 0]⟩),
 (4,⟨.bool,1,1,[.bool false]⟩),
 (1,⟨.any,1,8,[.ak]⟩),
 (2,⟨.int .i64,1,8,[.int .i64 0]⟩),
 (5,⟨.int .u8,1,1,[.int .u8 0]⟩),
 (6,⟨.int .u8,1,1,[.int .u8 0]⟩),
 (7,⟨.au [(0,2),(1,3),(2,4),(3,6)],4,24,[.int .i64 0,.int .i64 0,.bool false,.int .u8 0]⟩),
 (8,⟨.au [(0,2),(1,3),(2,4),(3,6)],4,24,[.int .i64 0,.int .i64 0,.bool false,.int .u8 0]⟩),
 (9,⟨.str,1,16,[.str ByteArray.empty]⟩),
 (10,⟨.str,1,16,[.str ByteArray.empty]⟩),
 (11,⟨.str,1,16,[.str ByteArray.empty]⟩),
 (12,⟨.int .u64,1,8,[.int .u64 0]⟩),
 (13,⟨.au [(0,9),(1,12)],2,24,[.str ByteArray.empty,.int .u64 0]⟩),
 (14,⟨.au [(0,9),(1,12)],2,24,[.str ByteArray.empty,.int .u64 0]⟩),
 (15,⟨.any,1,8,[.undef]⟩),
 (16,⟨.any,1,8,[.undef]⟩),
 (17,⟨.any,1,8,[.undef]⟩),
 (18,⟨.au [(0,17)],1,8,[.undef]⟩),
 (19,⟨.au [(0,17)],1,8,[.undef]⟩),
 (20,⟨.any,1,16,[.undef]⟩),
 (21,⟨.int .i32,1,4,[.int .i32 0]⟩),
 (22,⟨.slice 3,1,24,[.nil]⟩),
 (23,⟨.slice 77,1,24,[.nil]⟩),
 (24,⟨.slice 22,1,24,[.nil]⟩),
 (25,⟨.slice 31,1,24,[.nil]⟩),
 (26,⟨.au [(0,23),(1,24),(2,25)],3,72,[.nil,.nil,.nil]⟩),
 (27,⟨.au [(0,23),(1,24),(2,25)],3,72,[.nil,.nil,.nil]⟩),
 (28,⟨.au [(0,3),(1,3),(2,3)],3,24,[.int .i64 0,.int .i64 0,.int .i64 0]⟩),
 (29,⟨.au [(0,3),(1,3),(2,3)],3,24,[.int .i64 0,.int .i64 0,.int .i64 0]⟩),
 (30,⟨.au [(0,29),(3,3)],4,32,[.int .i64 0,.int .i64 0,.int .i64 0,.int .i64 0]⟩),
 (31,⟨.au [(0,29),(3,3)],4,32,[.int .i64 0,.int .i64 0,.int .i64 0,.int .i64 0]⟩),
 (32,⟨.slice 34,1,24,[.nil]⟩),
 (33,⟨.au [(0,3),(1,3),(2,3),(3,3),(4,32)],5,56,[.int .i64 0,.int .i64 0,.int .i64 0,.int .i64 0,.nil]⟩),
 (34,⟨.au [(0,3),(1,3),(2,3),(3,3),(4,32)],5,56,[.int .i64 0,.int .i64 0,.int .i64 0,.int .i64 0,.nil]⟩),
 (35,⟨.au [(0,3),(1,3),(2,34)],7,72,[.int .i64 0,.int .i64 0,.int .i64 0,.int .i64 0,.int .i64 0,.int .i64 0,.nil]⟩),
 (36,⟨.au [(0,3),(1,3),(2,34)],7,72,[.int .i64 0,.int .i64 0,.int .i64 0,.int .i64 0,.int .i64 0,.int .i64 0,.nil]⟩),
 (37,⟨.any,1,8,[.ak]⟩),
 (38,⟨.slice 61,1,24,[.nil]⟩),
 (39,⟨.au [(0,22),(1,38)],2,48,[.nil,.nil]⟩),
 (40,⟨.au [(0,22),(1,38)],2,48,[.nil,.nil]⟩),
 (41,⟨.any,1,8,[.ak]⟩),
 (42,⟨.au [(0,3),(1,3),(2,3),(3,40)],5,72,[.int .i64 0,.int .i64 0,.int .i64 0,.nil,.nil]⟩),
 (43,⟨.au [(0,3),(1,3),(2,3),(3,40)],5,72,[.int .i64 0,.int .i64 0,.int .i64 0,.nil,.nil]⟩),
 (44,⟨.int .i64,1,8,[.int .i64 0]⟩),
 (45,⟨.any,1,8,[.ak]⟩),
 (46,⟨.any,1,8,[.ak]⟩),
 (47,⟨.any,1,8,[.ak]⟩),
 (48,⟨.any,1,8,[.ak]⟩),
 (49,⟨.any,1,8,[.ak]⟩),
 (50,⟨.any,1,8,[.ak]⟩),
 (51,⟨.any,1,8,[.ak]⟩),
 (52,⟨.any,1,8,[.ak]⟩),
 (53,⟨.arr 3 3,3,24,[.int .i64 0,.int .i64 0,.int .i64 0]⟩),
 (54,⟨.any,1,8,[.ak]⟩),
 (55,⟨.any,1,8,[.ak]⟩),
 (56,⟨.any,1,8,[.ak]⟩),
 (57,⟨.any,1,8,[.ak]⟩),
 (58,⟨.any,1,8,[.ak]⟩),
 (59,⟨.slice 53,1,24,[.nil]⟩),
 (60,⟨.au [(0,3),(1,3),(2,3)],3,24,[.int .i64 0,.int .i64 0,.int .i64 0]⟩),
 (61,⟨.au [(0,3),(1,3),(2,3)],3,24,[.int .i64 0,.int .i64 0,.int .i64 0]⟩),
 (62,⟨.any,1,8,[.ak]⟩),
 (63,⟨.au [(0,36),(7,27),(10,43)],15,216,[.int .i64 0,.int .i64 0,.int .i64 0,.int .i64 0,.int .i64 0,.int .i64 0,.nil,.nil,.nil,.nil,.int .i64 0,.int .i64 0,.int .i64 0,.nil,.nil]⟩),
 (64,⟨.au [(0,36),(7,27),(10,43)],15,216,[.int .i64 0,.int .i64 0,.int .i64 0,.int .i64 0,.int .i64 0,.int .i64 0,.nil,.nil,.nil,.nil,.int .i64 0,.int .i64 0,.int .i64 0,.nil,.nil]⟩),
 (65,⟨.any,1,8,[.ak]⟩),
 (66,⟨.au [(0,65),(1,65)],2,16,[.ak,.ak]⟩),
 (67,⟨.au [(0,65),(1,65)],2,16,[.ak,.ak]⟩),
 (69,⟨.map 72 67,1,8,[.bS]⟩),
 (70,⟨.any,1,8,[.ak]⟩),
 (71,⟨.au [(0,3),(1,3)],2,16,[.int .i64 0,.int .i64 0]⟩),
 (72,⟨.au [(0,3),(1,3)],2,16,[.int .i64 0,.int .i64 0]⟩),
 (73,⟨.any,1,8,[.ak]⟩),
 (74,⟨.au [(0,36),(7,27),(10,43)],15,216,[.int .i64 0,.int .i64 0,.int .i64 0,.int .i64 0,.int .i64 0,.int .i64 0,.nil,.nil,.nil,.nil,.int .i64 0,.int .i64 0,.int .i64 0,.nil,.nil]⟩),
 (75,⟨.au [(0,36),(7,27),(10,43)],15,216,[.int .i64 0,.int .i64 0,.int .i64 0,.int .i64 0,.int .i64 0,.int .i64 0,.nil,.nil,.nil,.nil,.int .i64 0,.int .i64 0,.int .i64 0,.nil,.nil]⟩),
 (76,⟨.au [(0,3),(1,3),(2,3),(3,3),(4,3),(5,3),(6,3),(7,4)],8,64,[.int .i64 0,.int .i64 0,.int .i64 0,.int .i64 0,.int .i64 0,.int .i64 0,.int .i64 0,.bool false]⟩),
 (77,⟨.au [(0,3),(1,3),(2,3),(3,3),(4,3),(5,3),(6,3),(7,4)],8,64,[.int .i64 0,.int .i64 0,.int .i64 0,.int .i64 0,.int .i64 0,.int .i64 0,.int .i64 0,.bool false]⟩),
 (78,⟨.any,1,8,[.ak]⟩),
 (79,⟨.any,1,8,[.undef]⟩),
 (80,⟨.au [(0,22),(1,3)],2,32,[.nil,.int .i64 0]⟩),
 (81,⟨.au [(0,22),(1,3)],2,32,[.nil,.int .i64 0]⟩),
 (82,⟨.any,1,8,[.ak]⟩),
 (83,⟨.any,1,8,[.ak]⟩),
 (84,⟨.any,1,8,[.ak]⟩),
 (85,⟨.any,1,8,[.ak]⟩),
 (86,⟨.any,1,8,[.ak]⟩),
 (87,⟨.any,1,8,[.ak]⟩),
 (88,⟨.any,1,8,[.ak]⟩),
 (89,⟨.any,1,8,[.ak]⟩),
 (90,⟨.map 92 4,1,8,[.bS]⟩),
 (91,⟨.au [(0,3),(1,3)],2,16,[.int .i64 0,.int .i64 0]⟩),
 (92,⟨.au [(0,3),(1,3)],2,16,[.int .i64 0,.int .i64 0]⟩),
 (93,⟨.any,1,8,[.ak]⟩),
 (94,⟨.any,1,8,[.ak]⟩),
 (95,⟨.any,1,8,[.ak]⟩),
 (96,⟨.any,1,8,[.ak]⟩),
 (97,⟨.any,1,8,[.ak]⟩),
 (98,⟨.any,1,8,[.ak]⟩),
 (99,⟨.any,1,8,[.ak]⟩),
 (100,⟨.any,1,8,[.ak]⟩),
 (101,⟨.any,1,8,[.ak]⟩),
 (102,⟨.any,1,8,[.ak]⟩),
 (103,⟨.any,1,8,[.ak]⟩),
 (104,⟨.any,1,8,[.ak]⟩),
 (105,⟨.any,1,8,[.ak]⟩),
 (106,⟨.any,1,8,[.ak]⟩),
 (107,⟨.any,1,8,[.ak]⟩),
 (108,⟨.slice 4,1,24,[.nil]⟩),
 (109,⟨.any,1,8,[.ak]⟩),
 (110,⟨.slice 114,1,24,[.nil]⟩),
 (111,⟨.any,1,8,[.ak]⟩),
 (112,⟨.any,1,8,[.ak]⟩),
 (113,⟨.au [(0,3),(1,4),(2,3)],3,24,[.int .i64 0,.bool false,.int .i64 0]⟩),
 (114,⟨.au [(0,3),(1,4),(2,3)],3,24,[.int .i64 0,.bool false,.int .i64 0]⟩),
 (115,⟨.any,1,8,[.ak]⟩),
 (116,⟨.any,1,8,[.ak]⟩),
 (117,⟨.any,1,8,[.ak]⟩),
 (118,⟨.map 3 119,1,8,[.bS]⟩),
 (119,⟨.au [],0,0,[]⟩),
 (120,⟨.map 3 77,1,8,[.bS]⟩),
 (123,⟨.any,1,8,[.ak]⟩),
 (124,⟨.any,1,8,[.ak]⟩),
 (125,⟨.any,1,8,[.ak]⟩),
 (126,⟨.any,1,8,[.ak]⟩),
 (127,⟨.any,1,8,[.ak]⟩),
 (128,⟨.any,1,8,[.ak]⟩),
 (129,⟨.map 3 130,1,8,[.bS]⟩),
 (130,⟨.map 3 4,1,8,[.bS]⟩),
 (131,⟨.any,1,8,[.ak]⟩),
 (132,⟨.any,1,8,[.ak]⟩),
 (133,⟨.slice 96,1,24,[.nil]⟩),
 (134,⟨.any,1,8,[.ak]⟩),
 (135,⟨.any,1,8,[.ak]⟩),
 (136,⟨.any,1,8,[.ak]⟩),
 (137,⟨.map 3 3,1,8,[.bS]⟩),
 (138,⟨.any,1,8,[.ak]⟩),
 (139,⟨.any,1,8,[.ak]⟩),
 (140,⟨.any,1,8,[.ak]⟩),
 (141,⟨.any,1,8,[.ak]⟩),
 (142,⟨.any,1,8,[.ak]⟩),
 (143,⟨.any,1,8,[.ak]⟩),
 (145,⟨.any,1,8,[.ak]⟩),
 (146,⟨.any,1,8,[.ak]⟩),
 (147,⟨.any,1,8,[.ak]⟩),
 (148,⟨.any,1,8,[.ak]⟩),
 (149,⟨.any,1,8,[.ak]⟩),
 (150,⟨.any,1,8,[.ak]⟩),
 (151,⟨.any,1,8,[.ak]⟩),
 (152,⟨.any,1,8,[.ak]⟩),
 (153,⟨.any,1,8,[.ak]⟩),
 (154,⟨.any,1,8,[.ak]⟩),
 (155,⟨.any,1,8,[.ak]⟩),
 (156,⟨.any,1,8,[.ak]⟩),
 (157,⟨.any,1,8,[.ak]⟩),
 (158,⟨.slice 108,1,24,[.nil]⟩),
 (159,⟨.any,1,8,[.ak]⟩),
 (160,⟨.any,1,8,[.ak]⟩),
 (161,⟨.any,1,8,[.ak]⟩),
 (162,⟨.any,1,8,[.ak]⟩),
 (163,⟨.any,1,8,[.ak]⟩),
 (164,⟨.any,1,8,[.ak]⟩),
 (165,⟨.au [(0,17),(1,17),(2,17),(3,9)],4,40,[.undef,.undef,.undef,.str ByteArray.empty]⟩),
 (166,⟨.au [(0,17),(1,17),(2,17),(3,9)],4,40,[.undef,.undef,.undef,.str ByteArray.empty]⟩),
 (167,⟨.arr 0 16,0,0,[]⟩),
 (170,⟨.any,1,8,[.ak]⟩),
 (171,⟨.int .u32,1,4,[.int .u32 0]⟩),
 (172,⟨.int .u8,1,1,[.int .u8 0]⟩),
 (173,⟨.int .u8,1,1,[.int .u8 0]⟩),
 (174,⟨.any,1,8,[.ak]⟩),
 (175,⟨.any,1,8,[.undef]⟩),
 (176,⟨.int .i32,1,4,[.int .i32 0]⟩),
 (177,⟨.int .i32,1,4,[.int .i32 0]⟩),
 (178,⟨.au [(0,12),(1,12),(2,171),(3,172),(4,5),(5,5),(6,173),(7,174),(8,175),(9,176),(10,177)],11,48,[.int .u64 0,.int .u64 0,.int .u32 0,.int .u8 0,.int .u8 0,.int .u8 0,.int .u8 0,.ak,.undef,.int .i32 0,.int .i32 0]⟩),
 (179,⟨.au [(0,12),(1,12),(2,171),(3,172),(4,5),(5,5),(6,173),(7,174),(8,175),(9,176),(10,177)],11,48,[.int .u64 0,.int .u64 0,.int .u32 0,.int .u8 0,.int .u8 0,.int .u8 0,.int .u8 0,.ak,.undef,.int .i32 0,.int .i32 0]⟩)]
def lX (T:Nat):TS:=look {} oo T
theorem uo:oo.all (fun p=>match p.2.k with|.other=>true|_=>Yr Tryz.prog p.1 p.2)=true:=by kernel_rfl
theorem pM {α:Type} {d:α} {q:Nat→α→Bool} (hd:∀ T,q T d=true):∀ (l:List (Nat×α)),l.all (fun p=>q p.1 p.2)=true→∀ T,q T (look d l T)=true
 | [], _, T => hd T
 | (i, a) :: l, h, T => by
  rw [Zg,zC] at h;rw [zA];split
  ·rename_i e;subst e;exact h.1
  ·exact pM hd l h.2 T
theorem VO (T:Nat):(match (lX T).k with|.other=>true|_=>Yr Tryz.prog T (lX T))=true:=
 pM (q:=fun T ts=>match ts.k with|.other=>true|_=>Yr Tryz.prog T ts) (fun _=>rfl) oo uo T
theorem XI:Tryz.prog.follows .mixedOrders=true:=by kernel_rfl
def mA (P:Program) (h1:∀ T,(match (lX T).k with|.other=>true|_=>Yr P T (lX T))=true) (h2:P.follows .mixedOrders=true) (N:Nat):Ctx:=⟨P,N,lX,h1,h2⟩
theorem zj (N:Nat) {f:Nat} {code:Code} {m:VP} {res:FV} (h1:Tryz.prog.funcs[f]? = some fn) (h3:fn.ntmps=N) (hh:res.hand=none) (h:FW (mA Tryz.prog VO XI N) code (fun e s=>(e=.ret∨e=.normal)∧gz (mA Tryz.prog VO XI N) fn s m res) (entry args)) (h2:fn.body=some code:=by exact rfl) (h4:lW Tryz.prog f=true:=by kernel_rfl) (hn:∀ f∈args,f.hand=none:=by simp [FV.hand]) (hl:args.length≤N:=by exact yn rfl):zQ Tryz.prog f args m res:=.iN (c:=mA Tryz.prog VO XI N) ⟨h1,h2,h3,h4⟩ hn hl hh h
end
section
open Go.RowKit
structure fy {α:Type} (sz:Nat) (aJ:α→List Value) (fv:α→List FV):Prop where
 rd:∀ w I x,az w I (aJ x) (fv x)
 inv:∀ w I us x,az w I us (fv x)→us=aJ x
 wide:∀ x,(fv x).length=sz
 one:∀ x,∀ f∈fv x,f.one=true
 flat:∀ x,FV.flat.cF (fv x)=true
section
variable {α:Type} {sz:Nat} {aJ:α→List Value} {fv:α→List FV}
theorem fy.gG (T:fy sz aJ fv) (w:World) (I:Nat→Prop):∀ l:List α,az w I (YtedkppfghdipdaaGreatDoor.flat aJ l) (l.map fv).flatten
 | [] => az.nil
 | x :: l => by
  simp only [YtedkppfghdipdaaGreatDoor.flat,ZL,yf,zS];exact (T.rd w I x).append (T.gG w I l)
theorem fy.fA (T:fy sz aJ fv) (w:World) (I:Nat→Prop):∀ (l:List α) (us:List Value),az w I us (l.map fv).flatten→us=YtedkppfghdipdaaGreatDoor.flat aJ l
 | [], us, h => by have := h.1; simpa [YtedkppfghdipdaaGreatDoor.flat] using this
 | x :: l, us, h => by
  have h':=h;simp only [yf,zS] at h;have hl:=T.wide x;have h1:=h.take sz;have h2:=h.drop sz;rw [List.take_left' hl] at h1;rw [List.drop_left' hl] at h2;have e1:=T.inv w I _ x h1;have e2:=T.fA w I l _ h2;simp only [YtedkppfghdipdaaGreatDoor.flat,ZL];rw [← e1,show List.flatMap aJ l=YtedkppfghdipdaaGreatDoor.flat aJ l from rfl,← e2,List.take_append_drop]
theorem fy.lQ (T:fy sz aJ fv) (l:List α):∀ e∈l.map fv,e.length=sz:=fun e he=>by
 obtain ⟨x,_,rfl⟩:=zM.1 he;exact T.wide x
theorem fy.nR (T:fy sz aJ fv) (l:List α):∀ f∈(l.map fv).flatten,f.one=true:=fun f hf=>by
 obtain ⟨e,he,il⟩:=yv.1 hf;obtain ⟨x,_,rfl⟩:=zM.1 he;exact T.one x f il
theorem fy.to (T:fy sz aJ fv) {A:Option Addr} {l:List α} {c:Nat} (h:Sl aJ w B A l) (hc:l.length≤c):Rd w (fun b=>b<B) (.slice A l.length c) (.list sz (l.map fv)):=by
 have hR:=T.gG w (fun b=>b<B) l;refine .list A l.length c sz _ (YtedkppfghdipdaaGreatDoor.flat aJ l) zd hc (T.lQ l) (T.nR l) (fun h0=>?_) hR.1 hR.2;obtain ⟨b,off,ha,hb,aO⟩:=h (fun e=>h0 (by rw [e];rfl));exact ⟨b,off,ha,hb,aO⟩
theorem fy.of (T:fy sz aJ fv) {l:List α} (h:Rd w I v (.list sz (l.map fv))) (hI:∀ b,I b→b<B):∃ A c,v=.slice A l.length c∧l.length≤c∧Sl aJ w B A l:=by
 cases h with
 | list A n c sz es us hn hc he ho hA hl hr =>
  rw [zx] at hn;subst hn;have:=T.fA w I l us ⟨hl,hr⟩;subst this;refine ⟨A,c,rfl,hc,fun bM=>?_⟩;obtain ⟨b,off,ha,hb,aO⟩:=hA (by simpa using bM);exact ⟨b,off,ha,hI b hb,aO⟩
end
theorem Rd.bH {k:IntKind} (h:Rd w I v (.int k n)):v=.int k n:=by cases h;rfl
theorem Rd.eO {b:Bool} (h:Rd w I v (.bool b)):v=.bool b:=by cases h;rfl
theorem az.cons_inv (h:az w I us (f::fs)):∃ u vs,us=u::vs∧Rd w I u f∧az w I vs fs:=by
 cases us with
 | nil => have := h.1; simp at this
 | cons u vs => exact ⟨u, vs, rfl, h.2 0 u f rfl rfl, by have := h.1; simpa using this, fun j u' f' hu hf => h.2 (j+1) u' f' (by simpa using hu) (by simpa using hf)⟩
theorem az.dA (h:az w I us []):us=[]:=by have:=h.1;simpa using this
theorem az.inv1 (h:az w I vs [f0]):∃ u0,vs=[u0]∧Rd w I u0 f0:=by
 obtain ⟨u0,r0,rfl,e0,h0⟩:=h.cons_inv;have:=h0.dA;subst this;exact ⟨u0,rfl,e0⟩
theorem az.inv2 {f1:FV} (h:az w I vs [f0,f1]):∃ u0 u1,vs=[u0,u1]∧Rd w I u0 f0∧Rd w I u1 f1:=by
 obtain ⟨u0,r0,rfl,e0,h0⟩:=h.cons_inv;obtain ⟨u1,r1,rfl,e1,h1⟩:=h0.cons_inv;have:=h1.dA;subst this;exact ⟨u0,u1,rfl,e0,e1⟩
def yw (x:Int):List FV:=[.int .i64 x]
theorem qv:fy 1 mB yw where
 rd w I x:=az.cons (.int _ _) .nil
 inv w I us x h:=by
  obtain ⟨u,vs,rfl,h1,h2⟩:=h.cons_inv;rw [h1.bH,h2.dA];rfl
 wide x:=rfl
 one x f hf:=by simp [yw] at hf;subst hf;rfl
 flat x:=rfl
def aG.fv (o:aG):List FV:=[.int .i64 o.p,.int .i64 o.k,.int .i64 o.key,.int .i64 o.arg,.int .i64 o.res,.int .i64 o.call,.int .i64 o.ret,.bool o.done]
theorem rU:fy 8 aG.aJ aG.fv where
 rd w I x:=az.cons (.int _ _) <| az.cons (.int _ _) <| az.cons (.int _ _) <| az.cons (.int _ _) <| az.cons (.int _ _) <| az.cons (.int _ _) <| az.cons (.int _ _) <| az.cons (.bool _) .nil
 inv w I us x h:=by
  obtain ⟨_,_,rfl,h1,h⟩:=h.cons_inv;obtain ⟨_,_,rfl,h2,h⟩:=h.cons_inv;obtain ⟨_,_,rfl,h3,h⟩:=h.cons_inv;obtain ⟨_,_,rfl,h4,h⟩:=h.cons_inv;obtain ⟨_,_,rfl,h5,h⟩:=h.cons_inv;obtain ⟨_,_,rfl,h6,h⟩:=h.cons_inv;obtain ⟨_,_,rfl,h7,h⟩:=h.cons_inv;obtain ⟨_,_,rfl,h8,h⟩:=h.cons_inv;rw [h1.bH,h2.bH,h3.bH,h4.bH,h5.bH,h6.bH,h7.bH,h8.eO,h.dA];rfl
 wide x:=rfl
 one x f hf:=by simp [aG.fv] at hf;rcases hf with rfl|rfl|rfl|rfl|rfl|rfl|rfl|rfl <;> rfl
 flat x:=rfl
theorem zQ.law {P:Program} {f:Nat} (h:zQ P f args .fr (.bool true)) (hv:az w (fun b=>b<w.heap.size) vs args):Calls P f vs.toArray w fun e w'=>e=.returned (.bool true)∧Below w.heap.size w w':=by
 refine (h.calls w _ vs (fun b hb=>hb) hv).mono ?_;rintro e w' ⟨v,rfl,hb,hr⟩;have rp : Rd w' _ v (.bool true):=hr;rw [rp.eO];exact ⟨rfl,hb⟩
theorem vQ {id aa n:Nat} (hr:fn.results.toList=[.tmp d]) (h:look .undef t d=.own id aa 0 n) (hb:look {} ob id=⟨aa,.own,E,sz,es⟩) (hn:n=es.length) (hp:0<sz) (e:es=aS)
  (hf:∀ e∈aS,FV.flat.cF e=true):gz c fn ⟨t,ob⟩ (.ow E sz) (.list sz aS):=by
 subst e;have bD : (⟨t,ob⟩:ab).ob id=⟨aa,.own,E,sz,es⟩:=hb;have:=gz.ow (c:=c) (fn:=fn) (s:=⟨t,ob⟩) hr h (by rw [bD]) (by rw [bD]) (by rw [bD];exact hn) (by rw [bD];exact hp) (by rw [bD];exact hf);rw [bD] at this;exact this
theorem zg {s:ab} {f' : FV} (hr:fn.results.toList=[.tmp d]) (h:s.get d=f) (e:f=f') (hf:f'.flat=true):gz c fn s .fr f':=by
 subst e;exact .flat (fs:=[f]) (by rw [hr];exact .cons (.tmp d h (FV.fO hf)) .nil) rfl hf
end
section
open Go.RowKit
def yo (n aL:Int):Int:=(if n<0 then -(n+1) else n) % aL
theorem XP (h:0<aL):0≤yo n aL:=Int.emod_nonneg _ zc
theorem VU (h:0<aL):yo n aL<aL:=Int.emod_lt_of_pos _ h
theorem rZ (n aL:Int) (w:World) (hn:bq n) (h1:1≤aL) (h2:aL≤4611686018427387904) :
  Calls Tryz.prog 6 #[.int .i64 n,.int .i64 aL] w fun e w'=>e=.returned (.int .i64 (yo n aL))∧w=w':=by
 unfold bq at hn;obtain ⟨g1,g2⟩:=hn;by_cases lv:n<0
 ·have e:yo n aL=(-(n+1)) % aL:=by simp [yo,lv]
  rw [e];clear e
  go_enter Tryz.func6,Tryz.ntmps6
  go_wp2
  go_ret
  have e2:-(n+1).tmod aL=(-(n+1)) % aL:=by rw [← Int.neg_tmod,pB zc]
  exact ⟨by simp [e2],rfl⟩
 ·have e:yo n aL=n % aL:=by simp [yo,lv]
  rw [e];clear e
  go_enter Tryz.func6,Tryz.ntmps6
  go_wp2
  go_ret
  exact ⟨rfl,rfl⟩
theorem XQ (n aL:Int) (hn:bq n) (h1:1≤aL) (h2:aL≤4611686018427387904):zQ Tryz.prog 6 [.int .i64 n,.int .i64 aL] .fr (.int .i64 (yo n aL)) where
 go:=by kernel_rfl
 hand:=rfl
 calls w I vs hI hv:=by
  obtain ⟨_,_,rfl,e1,e2⟩:=hv.inv2;rw [e1.bH,e2.bH];refine (rZ n aL w hn h1 h2).mono ?_;rintro e w' ⟨rfl,rfl⟩;exact ⟨_,rfl,YR _ _,.int _ _⟩
theorem sD (l:List aG) (ck:∀ o∈l,kl o) (hlen:l.length≤1000000000):zQ Tryz.prog 36 [.list 8 (l.map aG.fv)] .fr (.int .i64 (YH l)) where
 go:=by kernel_rfl
 hand:=rfl
 calls w I vs hI hv:=by
  obtain ⟨_,rfl,e1⟩:=hv.inv1;obtain ⟨A,c,rfl,_,hs⟩:=rU.of e1 hI;refine (tE A c l w hs ck hlen).mono ?_;rintro e w' ⟨rfl,hb⟩;exact ⟨_,rfl,hb,.int _ _⟩
end
section
set_option maxRecDepth 100000
open Go.ChangeShapes Go.WideShapes Go.ChangeAt Go.RowKit Go.Deep
theorem Ut (h:(Lit.int .i64 x).wf=true):bq x:=by
 simp [Lit.wf,IntKind.min,IntKind.max,IntKind.signed,IntKind.bits] at h;unfold bq;omega
section
variable {H:Type} {enc:TypeId×Value→H} {W:World} {base:Nat} {spare:Nat→Bool} {held:Bool} {v:Value} {d:DataW H} {p:List MemPlace} {r:Reach} {b0:Nat}
theorem um {a:Addr} {u:Value} (h:w.cell? a=some u):a=⟨a.block,a.off,none⟩:=by
 obtain ⟨b,o,s⟩:=a;cases s with
 | none => rfl
 | some s =>
  unfold World.cell? at h;simp only [Option.isSome_some,if_true] at h;split at h <;> cases h
theorem uq (a:Addr) (h:a=⟨a.block,a.off,none⟩) (n:Nat):a.add n=⟨a.block,a.off+n,none⟩:=by
 obtain ⟨b,o,s⟩:=a;obtain rfl:s=none:=by injection h
 unfold Addr.add;split
 ·subst n;rfl
 ·rfl
theorem ua (ht:Tryz.prog.underlying 3=some (.int .i64)) (hv:Value.okWide Tryz.prog W r b0 3 v) (h:DataW.Trod enc Tryz.prog W base spare held 3 v d p):∃ x,v=.int .i64 x∧bq x:=by
 obtain ⟨x,rfl,_,_,wx⟩:=open_int ht hv h;exact ⟨x,rfl,Ut wx⟩
theorem uQ (hv:Value.okWide Tryz.prog W r b0 22 v) (h:DataW.Trod enc Tryz.prog W base spare held 22 v d p) :
  ∃ A c l,v=.slice A l.length c∧Sl mB W W.heap.size A l∧(∀ x∈l,bq x)∧l.length≤9223372036854775807:=by
 obtain ⟨a0,fX,mD,rfl⟩:=okWide_slice Tryz.underlying22 hv;obtain ⟨fuel,hf⟩:=h;rcases open_ints Tryz.underlying22 Tryz.underlying3 zq hf with ⟨aY,_⟩|⟨x,l,c,zs,aY,_,hl,hm,hz,_,aO,pj⟩
 ·simp [Value.cells] at aY;obtain ⟨rfl,rfl,rfl⟩:=aY;exact ⟨none,0,[],rfl,Sl.nM _ _ _ _,by simp,zN _⟩
 ·simp [Value.cells] at aY;obtain ⟨rfl,rfl,rfl⟩:=aY;have wk:fX≤zs.length:=by rw [hz];split <;> omega
  have hlen:(zs.take fX).length=fX:=by simp;omega
  refine ⟨some x,mD,zs.take fX,by rw [hlen],fun bM=>?_,fun y hy=>Ut (pj y (yF hy)),by unfold maxLen at hm;omega⟩;have h0:0<fX:=by
   rcases XC fX with e|e
   ·subst e;simp at bM
   ·exact e
  have l8:=aO 0 zc;rw [show x.add 0=x by simp [Addr.add]] at l8;have hs:=um l8;refine ⟨x.block,x.off,by rw [← hs],World.block_lt_of_cell? W x l8,fun j u hu=>?_⟩;rw [sP,yW,yr] at hu;split at hu
  ·have hj:j<zs.length:=by omega
   have:=aO j hj;rw [uq x hs] at this;rw [this];simpa [hj] using hu
  ·simp at hu
end
section
variable {H:Type} {enc:TypeId×Value→H} {W:World} {base:Nat} {spare:Nat→Bool} {held:Bool} {v:Value} {d:DataW H} {p:List MemPlace} {r:Reach} {b0:Nat}
end
section
variable {H:Type} {enc:TypeId×Value→H} {W:World} {base:Nat} {spare:Nat→Bool} {held:Bool} {v:Value} {d:DataW H} {p:List MemPlace} {r:Reach} {b0:Nat}
theorem pQ (hv:Value.okWide Tryz.prog W r b0 22 v) (h:DataW.Trod enc Tryz.prog W base spare held 22 v d p) :
  ∃ l:List Int,Rd W (fun b=>b<W.heap.size) v (.list 1 (l.map yw))∧(∀ x∈l,bq x)∧l.length≤9223372036854775807:=by
 have h':=h;obtain ⟨A,c,l,rfl,s,i,m⟩:=uQ hv h;refine ⟨l,?_,i,m⟩;obtain ⟨fuel,hf⟩:=h';rcases open_ints Tryz.underlying22 Tryz.underlying3 zq hf with ⟨aY,_⟩|⟨x,l',c',zs,aY,_,hl,hm,hz,_,aO,pj⟩
 ·simp [Value.cells] at aY;obtain ⟨rfl,h0,rfl⟩:=aY;exact qv.to s (by simp [h0])
 ·simp [Value.cells] at aY;obtain ⟨rfl,h0,rfl⟩:=aY;exact qv.to s zc
theorem qf (hv:Value.okWide Tryz.prog W r b0 3 v) (h:DataW.Trod enc Tryz.prog W base spare held 3 v d p):∃ x:Int,Rd W (fun b=>b<W.heap.size) v (.int .i64 x)∧bq x:=by
 obtain ⟨x,rfl,i⟩:=ua Tryz.underlying3 hv h;exact ⟨x,.int _ _,i⟩
end
end
end Go.Proofs.YtedkppfghdipdaaGreatDoor
