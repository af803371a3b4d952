/-
  Lemmas, in parts.
-/
import Derived.Test.YtedkppfghdipdaaGreatDoorZFmM
import Derived.Test.YtedkppfghdipdaaGreatDoorZA
import Derived.Test.YtedkppfghdipdaaGreatDoorProg
import Derived.KernelRfl
import Derived.Maps.OwnSet
import Derived.DeepKeys4
import Derived.Deep.RegionHeld3
import Derived.Deep.DrawnRows
import Derived.Deep.DeepCutAuto
import Derived.Test.YtedkppfghdipdaaGreatDoorZBxxx
import Derived.ProofKit
import Derived.OpenShut
import Derived.ShutString
import Derived.ChangeOld
import Derived.Below
import Derived.Deep.Slices
import Derived.Deep.Fields
import Derived.ChangeSame
namespace Go.Proofs.YtedkppfghdipdaaGreatDoor
set_option linter.unusedVariables false
set_option maxHeartbeats 16000000
variable {args fs ff : List FV} {es aY : List (List FV)} {ob:List (Nat×yo)} {t t' : List (Nat×FV)} {B E d g i n sz:Nat} {f f0:FV} {v z:Value} {o:Oper} {l:List Int} {w:World} {κ:Type} {ops:Array Oper} {rest:List Oper} {a:Act} {Q:Exit→Act→World→Prop} {X ae x:Int} {fn:Func} {c:Ctx} {I:Nat→Prop} {us vs:List Value}
section
open Go.RowKit
structure bF where
 new:Nat
 src:Option Nat
 vo:Nat
 b:yo
inductive VM (M:List bF):FV→FV→Prop where
 | plain {f f' : FV} (hn:f.hand=none) (e:f=f'):VM M f f'
 | own {i i' v v' o o' n n' : Nat} {b:yo} (hm:(⟨i', some i, v, b⟩:bF) ∈ M) (hv:b.aa=v') (eo:o=o') (e:n=n'):VM M (.own i v o n) (.own i' v' o' n')
 | ptr {i i' v v' j o:Nat} {b:yo} (hm:(⟨i', some i, v, b⟩:bF) ∈ M) (hv:b.aa=v'):VM M (.ptr i v j o) (.ptr i' v' j o)
 | nil {i' vo v' : Nat} {b:yo} (hm:(⟨i', none, vo, b⟩:bF) ∈ M) (hv:b.aa=v'):VM M .nil (.own i' v' 0 0)
 | cS {sz:Nat}:VM M .nil (.list sz [])
 | omap {i i' v v' : Nat} {b:yo} (hm:(⟨i', some i, v, b⟩:bF) ∈ M) (hv:b.aa=v'):VM M (.omap i v) (.omap i' v')
 | gv {k:Wk} {fs ff : List FV} (hl:fs.length=ff.length) (h:∀ (j:Nat) f f', fs[j]? = some f → ff[j]? = some f' → VM M f f'):VM M (.wrap k fs) (.wrap k ff)
inductive mM (M:List bF):List FV→List FV→Prop where
 | nil:mM M [] []
 | cons {f f' : FV} {fs ff : List FV} (h:VM M f f') (hs:mM M fs ff):mM M (f :: fs) (f' :: ff)
theorem mM.get {M:List bF} (h:mM M fs ff):fs.length=ff.length∧∀ (j:Nat) f f',fs[j]? = some f→ff[j]? = some f'→VM M f f':=by
 induction h with
 | nil => exact ⟨rfl, by simp⟩
 | cons h hs ih =>
  refine ⟨by simp [ih.1],fun j f f' hf cY=>?_⟩;cases j with
  | zero => simp at hf cY; subst hf; subst cY; exact h
  | succ j => exact ih.2 j f f' (by simpa using hf) (by simpa using cY)
theorem VM.wrap {M:List bF} {k:Wk} (h:mM M fs ff):VM M (.wrap k fs) (.wrap k ff):=.gv h.get.1 h.get.2
inductive ni (M:List bF):List (List FV)→List (List FV)→Prop where
 | nil:ni M [] []
 | cons {f f' : FV} {es aY : List (List FV)} (h:VM M f f') (hs:ni M es aY):ni M ([f] :: es) ([f'] :: aY)
theorem ni.len {M:List bF} (h:ni M es aY):es.length=aY.length∧es.flatten.length=aY.flatten.length∧(∀ e∈aY,e.length=1)∧∀ (j:Nat) f f',es.flatten[j]? = some f→aY.flatten[j]? = some f'→VM M f f':=by
 induction h with
 | nil => exact ⟨rfl, rfl, by simp, by simp⟩
 | cons h hs ih=>
  obtain ⟨h1,h2,h3,h4⟩:=ih;refine ⟨by simp [h1],by simpa using h2,fun e he=>?_,fun j f f' hf cY=>?_⟩
  ·rcases zZ.1 he with rfl|he
   ·rfl
   ·exact h3 e he
  ·cases j with
   | zero => simp at hf cY; subst hf; subst cY; exact h
   | succ j => simp at hf cY; exact h4 j f f' (by simpa using hf) (by simpa using cY)
def sA (M:List bF) (sz:Nat) (es aY : List (List FV)):Prop:=es.length=aY.length∧es.flatten.length=aY.flatten.length∧(∀ e∈aY,e.length=sz)∧∀ (j:Nat) f f',es.flatten[j]? = some f→aY.flatten[j]? = some f'→VM M f f'
def sy (M:List bF) (es aY : List (List FV)):Prop:=es.length=aY.length∧∀ (j:Nat) eO,aY[j]? = some eO→∃ k f f',es[j]? = some [k,f]∧eO=[k,f']∧VM M f f'
def xL.plain:xL→Bool
 | .dead|.aJ|.bH => false
 | _ => true
theorem xL.ka {l:xL} (h:l.plain=true):l≠.dead:=by rintro rfl;cases h
inductive xW (ob:List (Nat×yo)) (M0:List bF):List bF→Prop where
 | nil:xW ob M0 []
 | ir {i' i vo v E sz:Nat} {lf:xL} {es aY : List (List FV)} {M:List bF} (h:look {} ob i=⟨vo, lf, E, sz, es⟩) (hl:lf.plain=true) (e:es=aY) (hM:xW ob M0 M):xW ob M0 (⟨i', some i, vo, ⟨v, lf, E, sz, aY⟩⟩ :: M)
 | new {i' vo v E sz:Nat} {M:List bF} (hM:xW ob M0 M):xW ob M0 (⟨i', none, vo, ⟨v, .own, E, sz, []⟩⟩ :: M)
 | rz {i' i vo v E:Nat} {es aY : List (List FV)} {M:List bF} (h:look {} ob i=⟨vo, .aJ, E, 1, es⟩) (e:ni M0 es aY) (hM:xW ob M0 M):xW ob M0 (⟨i', some i, vo, ⟨v, .aJ, E, 1, aY⟩⟩ :: M)
 | rA {i' i vo v E sz:Nat} {es aY : List (List FV)} {M:List bF} (h:look {} ob i=⟨vo, .aJ, E, sz, es⟩) (e:sA M0 sz es aY) (hM:xW ob M0 M):xW ob M0 (⟨i', some i, vo, ⟨v, .aJ, E, sz, aY⟩⟩ :: M)
 | rB {i' i vo v E sz:Nat} {es aY : List (List FV)} {M:List bF} (h:look {} ob i=⟨vo, .bH, E, sz, es⟩) (e:sy M0 es aY) (hM:xW ob M0 M):xW ob M0 (⟨i', some i, vo, ⟨v, .bH, E, sz, aY⟩⟩ :: M)
theorem xW.get {M0 M:List bF} (h:xW ob M0 M):∀ e∈M,e.b.ag≠.dead∧(∀ i,e.src=some i→∃ cy,look {} ob i=⟨e.vo,e.b.ag,e.b.E,e.b.sz,cy⟩∧cy.length=e.b.es.length∧((e.b.ag.plain=true∧cy=e.b.es)∨(e.b.ag=.aJ∧sA M0 e.b.sz cy e.b.es)∨(e.b.ag=.bH∧sy M0 cy e.b.es)))∧(e.src=none→e.b.ag=.own∧e.b.es=[]):=by
 induction h with
 | nil => intro e he; simp at he
 | ir h hl e hM ih=>
  intro q hq;rcases zZ.1 hq with rfl|hq
  ·refine ⟨xL.ka hl,fun i hi=>?_,fun hi=>by cases hi⟩;injection hi with hi
   subst hi;subst e;exact ⟨_,h,rfl,.inl ⟨hl,rfl⟩⟩
  ·exact ih q hq
 | new hM ih =>
  intro q hq;rcases zZ.1 hq with rfl|hq
  ·exact ⟨by simp,(fun i hi=>by cases hi),fun _=>⟨rfl,rfl⟩⟩
  ·exact ih q hq
 | rz h e hM ih=>
  intro q hq;rcases zZ.1 hq with rfl|hq
  ·refine ⟨by simp,fun i hi=>?_,fun hi=>by cases hi⟩;injection hi with hi
   subst hi;exact ⟨_,h,e.len.1,.inr (.inl ⟨rfl,e.len⟩)⟩
  ·exact ih q hq
 | rA h e hM ih=>
  intro q hq;rcases zZ.1 hq with rfl|hq
  ·refine ⟨by simp,fun i hi=>?_,fun hi=>by cases hi⟩;injection hi with hi
   subst hi;exact ⟨_,h,e.1,.inr (.inl ⟨rfl,e⟩)⟩
  ·exact ih q hq
 | rB h e hM ih=>
  intro q hq;rcases zZ.1 hq with rfl|hq
  ·refine ⟨by simp,fun i hi=>?_,fun hi=>by cases hi⟩;injection hi with hi
   subst hi;exact ⟨_,h,e.1,.inr (.inr ⟨rfl,e⟩)⟩
  ·exact ih q hq
inductive jd (t:List (Nat×FV)) (M:List bF):Nat→FV→Prop where
 | plain {d:Nat} {f f' : FV} (h:look .undef t d=f) (hn:f.hand=none) (e:f=f'):jd t M d f'
 | own {d i i' v v' o n n' : Nat} {b:yo} (h:look .undef t d=(.own i v o n)) (hm:(⟨i', some i, v, b⟩:bF) ∈ M) (hv:b.aa=v') (e:n=n'):jd t M d (.own i' v' o n')
 | ptr {d i i' v v' j o:Nat} {b:yo} (h:look .undef t d=(.ptr i v j o)) (hm:(⟨i', some i, v, b⟩:bF) ∈ M) (hv:b.aa=v'):jd t M d (.ptr i' v' j o)
 | nil {d i' vo v' : Nat} {b:yo} (h:look .undef t d=.nil) (hm:(⟨i', none, vo, b⟩:bF) ∈ M) (hv:b.aa=v'):jd t M d (.own i' v' 0 0)
 | cS {d sz:Nat} (h:look .undef t d=.nil):jd t M d (.list sz [])
 | omap {d i i' v v' : Nat} {b:yo} (h:look .undef t d=(.omap i v)) (hm:(⟨i', some i, v, b⟩:bF) ∈ M) (hv:b.aa=v'):jd t M d (.omap i' v')
 | wrap {d:Nat} {k:Wk} {fs ff : List FV} (h:look .undef t d=.wrap k fs) (hc:mM M fs ff):jd t M d (.wrap k ff)
inductive lR (t:List (Nat×FV)) (M:List bF):List (Nat×FV)→Prop where
 | nil:lR t M []
 | cons {d:Nat} {f:FV} {t' : List (Nat × FV)} (h:jd t M d f) (hs:lR t M t'):lR t M ((d, f) :: t')
theorem jd.sO {M:List bF} (h:jd t M d f):VM M (look .undef t d) f:=by
 cases h with
 | plain h hn e => rw [h]; exact .plain hn e
 | own h hm hv e => rw [h]; exact .own hm hv rfl e
 | ptr h hm hv => rw [h]; exact .ptr hm hv
 | nil h hm hv => rw [h]; exact .nil hm hv
 | cS h => rw [h]; exact .cS
 | omap h hm hv => rw [h]; exact .omap hm hv
 | wrap h hc => rw [h]; exact .wrap hc
theorem lR.get {M:List bF} (h:lR t M t') (d:Nat):look .undef t' d=.undef∨jd t M d (look .undef t' d):=by
 induction h with
 | nil => exact .inl rfl
 | cons h hs ih =>
  rw [zC];split
  ·rename_i e;subst e;exact .inr h
  ·exact ih
def YL (M:List bF) (k:Nat):Option bF:=look none (M.map fun e=>(e.new,some e)) k
theorem Uu:∀ {M:List bF} {k:Nat} {e:bF},YL M k=some e→e∈M∧e.new=k
 | [], _, _, h => by cases h
 | q :: M, k, e, h => by
  unfold YL at h;rw [yn,zC] at h;split at h
  ·rename_i hk;injection h with h;subst h;exact ⟨by simp,hk⟩
  ·have:=Uu (M:=M) h;exact ⟨by simp [this.1],this.2⟩
theorem Vq:∀ {M:List bF} (_:(M.map bF.new).Nodup) {e:bF},e∈M→YL M e.new=some e
 | [], _, _, h => by simp at h
 | q::M,hn,e,h=>by
  unfold YL;rw [yn,zC];rw [yn,US] at hn;rcases zZ.1 h with rfl|h
  ·rw [if_pos rfl]
  ·rw [if_neg (fun hq=>hn.1 (zL.2 ⟨e,h,hq.symm⟩))];exact Vq hn.2 h
theorem uU:∀ (M:List bF) (k:Nat),look {} (M.map fun e=>(e.new,e.b)) k=((YL M k).map bF.b).getD {}
 | [], _ => rfl
 | q :: M, k => by
  unfold YL;rw [yn,yn,zC,zC];split
  ·rfl
  ·exact uU M k
theorem Xz:∀ {M:List bF} (_:(M.filterMap bF.src).Nodup) {e q:bF} {i:Nat},e∈M→q∈M→e.src=some i→q.src=some i→e=q
 | [], _, _, _, _, h, _, _, _ => by simp at h
 | p::M,hn,e,q,i,he,hq,h1,h2=>by
  have key:∀ x∈M,x.src=some i→p.src=some i→False:=fun x hx ph wV=>by
   rw [Yv,wV] at hn;exact (US.1 hn).1 (ZI.2 ⟨x,hx,ph⟩)
  have m0 : (M.filterMap bF.src).Nodup:=by
   rw [Yv] at hn;cases hp:p.src with
   | none => rw [hp] at hn; exact hn
   | some j => rw [hp] at hn; exact (US.1 hn).2
  rcases zZ.1 he with rfl|he
  ·rcases zZ.1 hq with rfl|lu
   ·rfl
   ·exact (key q lu h2 h1).elim
  ·rcases zZ.1 hq with rfl|lu
   ·exact (key e (by assumption) h1 h2).elim
   ·exact Xz m0 (by assumption) lu h1 h2
inductive gX (ob:List (Nat×yo)):List bF→Prop where
 | nil:gX ob []
 | low {q:bF} {M:List bF} (h:Nat.ble Yh q.new=false) (hs:gX ob M):gX ob (q :: M)
 | same {i v:Nat} {b:yo} {M:List bF} (e:b.aa=v) (hs:gX ob M):gX ob (⟨i, some i, v, b⟩ :: M)
 | bump {q:bF} {M:List bF} (e:(look {} ob q.new).aa<q.b.aa) (hs:gX ob M):gX ob (q :: M)
theorem gX.get {M:List bF} (h:gX ob M):∀ q∈M,Yh≤q.new→(q.src=some q.new∧q.b.aa=q.vo)∨(look {} ob q.new).aa<q.b.aa:=by
 induction h with
 | nil => intro q hq; cases hq
 | low h hs ih =>
  intro q hq ij;rcases zZ.1 hq with rfl|hq
  ·rw [Nat.ble_eq_true_of_le ij] at h;cases h
  ·exact ih q hq ij
 | same e hs ih =>
  intro q hq ij;rcases zZ.1 hq with rfl|hq
  ·exact .inl ⟨rfl,e⟩
  ·exact ih q hq ij
 | bump e hs ih =>
  intro q hq ij;rcases zZ.1 hq with rfl|hq
  ·exact .inr e
  ·exact ih q hq ij
def si (ob:List (Nat×yo)) (M:List bF):Bool:=ob.all fun p=>!Nat.ble Yh p.1 || M.any fun q=>Nat.beq q.new p.1
theorem uo {α:Type} {d:α}:∀ {l:List (Nat×α)} {k:Nat},(∀ p∈l,p.1≠k)→look d l k=d
 | [], _, _ => rfl
 | p :: l, k, h => by
  obtain ⟨i,x⟩:=p;rw [zC,if_neg (h (i,x) zd)];exact uo fun p hp=>h p (Wy _ hp)
theorem CF {M:List bF} (h:si ob M=true) {k:Nat} (hk:Yh≤k):(∃ q∈M,q.new=k)∨look {} ob k={}:=by
 by_cases hx:∃ p∈ob,p.1=k
 ·obtain ⟨p,hp,rfl⟩:=hx;have h1:=zI.1 h p hp;rw [Nat.ble_eq_true_of_le hk] at h1;simp only [Bool.not_true,xw] at h1;obtain ⟨q,hq,e⟩:=yY.1 h1;exact .inl ⟨q,hq,Nat.eq_of_beq_eq_true e⟩
 ·exact .inr (uo fun p hp e=>hx ⟨p,hp,e⟩)
theorem aL.conv (M:List bF) (hk:(M.map bF.new).Nodup) (hs:(M.filterMap bF.src).Nodup) (qw:si ob M=true) (o7:gX ob M) (ho:xW ob M M) (ht:lR t M t'):aL ⟨t,ob⟩ ⟨t',M.map fun e=>(e.new,e.b)⟩:=by
 intro N w0 J a w β hF;refine ⟨fun k=>(YL M k).bind fun e=>e.src.bind β,?_⟩;have hE:=ho.get;have cZ:∀ k,(⟨t',M.map fun e=>(e.new,e.b)⟩:ab).ob k=((YL M k).map bF.b).getD {}:=fun k=>uU M k;have dz:∀ e∈M,(⟨t',M.map fun e=>(e.new,e.b)⟩:ab).ob e.new=e.b:=fun e he=>by rw [cZ,Vq hk he];rfl
 have kt:∀ e∈M,((YL M e.new).bind fun e=>e.src.bind β)=e.src.bind β:=fun e he=>by rw [Vq hk he];rfl
 have ak:∀ k,((⟨t',M.map fun e=>(e.new,e.b)⟩:ab).ob k).ag≠.dead→∃ e∈M,e.new=k:=fun k hl=>by
  rw [cZ] at hl;cases hm:YL M k with
  | none => rw [hm] at hl; exact absurd rfl hl
  | some e => exact ⟨e, Uu hm⟩
 have hold:∀ e∈M,∀ i,e.src=some i→∃ cy,(⟨t,ob⟩:ab).ob i=⟨e.vo,e.b.ag,e.b.E,e.b.sz,cy⟩∧cy.length=e.b.es.length∧((e.b.ag.plain=true∧cy=e.b.es)∨(e.b.ag=.aJ∧sA M e.b.sz cy e.b.es)∨(e.b.ag=.bH∧sy M cy e.b.es)):=fun e he i hi=>(hE e he).2.1 i hi;have hI:∀ b,aR J w β ⟨t,ob⟩ b→aR J w (fun k=>(YL M k).bind fun e=>e.src.bind β) ⟨t',M.map fun e=>(e.new,e.b)⟩ b∧w.heap[b]? = w.heap[b]?:=fun b hb=>by
  refine ⟨⟨hb.1,hb.2.1,fun id hl=>?_⟩,rfl⟩;obtain ⟨e,he,rfl⟩:=ak id (xL.bo hl);rw [dz e he] at hl;dsimp only;rw [kt e he];cases kL:e.src with
  | none => simp
  | some i =>
   obtain ⟨cy,h1,_⟩:=hold e he i kL;exact hb.2.2 i (by rw [h1];exact hl)
 have dQ:∀ e∈M,∀ i,e.src=some i→∀ v o n,VP w (β i) ((⟨t,ob⟩:ab).ob i) v o n→VP w ((YL M e.new).bind fun e=>e.src.bind β) ((⟨t',M.map fun e=>(e.new,e.b)⟩:ab).ob e.new) v o n:=fun e he i hi v o n h=>by
  rw [kt e he,hi,dz e he];obtain ⟨cy,h1,h2,_⟩:=hold e he i hi;rw [h1] at h;obtain ⟨A,c,k1,k2,k3,k4,k5⟩:=h.ex;exact ⟨h.row,A,c,k1,k2,by rw [← h2];exact k3,k4,k5⟩
 have oC:∀ v f f',VM M f f'→kX w (aR J w β ⟨t,ob⟩) β ⟨t,ob⟩ v f→kX w (aR J w (fun k=>(YL M k).bind fun e=>e.src.bind β) ⟨t',M.map fun e=>(e.new,e.b)⟩) (fun k=>(YL M k).bind fun e=>e.src.bind β) ⟨t',M.map fun e=>(e.new,e.b)⟩ v f':=fun v f f' hc hv=>by
  cases hc with
  | plain hn e =>
   subst e;cases f <;> first|exact Rd.mono hI hv|(simp [FV.hand] at hn)
  | own hm aH eo e =>
   intro _ _;subst e;subst eo;obtain ⟨cy,h1,_⟩:=hold _ hm _ rfl;exact dQ _ hm _ rfl _ _ _ (hv (by rw [h1];exact (hE _ hm).1) (by rw [h1]))
  | @ptr i i' v v' j o b hm aH =>
   intro _ _;obtain ⟨cy,h1,_⟩:=hold _ hm _ rfl;obtain ⟨bl,bb,hb,hp⟩:=hv (by rw [h1];exact (hE _ hm).1) (by rw [h1]);have h2:=dz _ hm;have h3:=kt _ hm;dsimp only at h2 h3;rw [h1] at bl hp;refine ⟨by rw [h2];exact bl,bb,?_,by rw [h2];exact hp⟩;dsimp only;rw [h3];exact hb
  | @nil i' vo v' b hm aH =>
   intro _ _;have h2:=dz _ hm;have h3:=kt _ hm;dsimp only at h2 h3;have iq : Rd w _ v .nil:=hv;have jN:v=.slice none 0 0:=by cases iq;rfl
   rw [jN];dsimp only;rw [h2,h3];exact ⟨by have:=((hE _ hm).2.2 rfl).1;dsimp only at this;rw [this];rfl,none,0,rfl,zf _,by omega,fun _=>⟨rfl,rfl⟩,fun b hb=>by simp at hb⟩
  | gv hl bj => have iq : Rd w _ v (.wrap _ _) := hv; cases iq
  | cS =>
   have iq : Rd w _ v .nil:=hv;have jN:v=.slice none 0 0:=by cases iq;rfl
   rw [jN];exact Rd.list none 0 0 _ [] [] rfl (zf _) zd zd zd zd zd
  | @omap i i' v v' b hm aH =>
   intro _ _;obtain ⟨cy,h1,_⟩:=hold _ hm _ rfl;obtain ⟨bl,bb,hb,hp⟩:=hv (by rw [h1];exact (hE _ hm).1) (by rw [h1]);have h2:=dz _ hm;have h3:=kt _ hm;dsimp only at h2 h3;rw [h1] at bl;refine ⟨by rw [h2];exact bl,bb,?_,hp⟩;dsimp only;rw [h3];exact hb
 have my:∀ v f f',VM M f f'→VR w (aR J w β ⟨t,ob⟩) β ⟨t,ob⟩ v f→VR w (aR J w (fun k=>(YL M k).bind fun e=>e.src.bind β) ⟨t',M.map fun e=>(e.new,e.b)⟩) (fun k=>(YL M k).bind fun e=>e.src.bind β) ⟨t',M.map fun e=>(e.new,e.b)⟩ v f':=fun v f f' hc hv=>by
  by_cases hw:∃ k fs,f=.wrap k fs
  ·obtain ⟨k,fs,rfl⟩:=hw;cases hc with
   | plain hn e => cases hn
   | gv hl bj =>
    obtain ⟨us,e,h1,h2⟩:=hv;refine ⟨us,e,h1.trans hl,fun j u g hu hg=>?_⟩;rename_i ff;have hj:j<fs.length:=by rw [hl];exact (ye.1 hg).1
    exact oC u fs[j] g (bj j fs[j] g (by simp [hj]) hg) (h2 j u fs[j] hu (by simp [hj]))
  ·exact VR.tU (oC v f f' hc (hv.rD fun k fs e=>hw ⟨k,fs,e⟩))
 have gp:∀ f f',VM M f f'→∀ id aa,(id,aa)∈f'.hands→aa≤((⟨t',M.map fun e=>(e.new,e.b)⟩:ab).ob id).aa:=fun f f' hc id aa hh=>by
  cases hc with
  | plain hn e => rw [← e] at hh; exact (FV.bf hn hh).elim
  | cS => cases hh
  | gv hl bj=>
   obtain ⟨g,hg,e⟩:=ZI.1 hh;obtain ⟨j,hj,rfl⟩:=yr hg;rename_i fs ff;have fV:j<fs.length:=by rw [hl];exact hj
   have ic:=bj j fs[j] ff[j] (by simp [fV]) zd;generalize fs[j]=f0 at ic;generalize ff[j]=f1 at ic e;cases ic with
   | plain hn e1 => rw [← e1, hn] at e; cases e
   | cS => cases e
   | gv _ _ => simp only [FV.hand, zK, yu] at e; omega
   | _ hm aH =>
    simp only [FV.hand,zK,yu] at e;obtain ⟨rfl,rfl⟩:=e;have h2:=dz _ hm;dsimp only at h2;rw [h2,aH];exact zf _
  | _ hm aH =>
   simp only [FV.hands,zP,yu] at hh;obtain ⟨e1,e2⟩:=hh;replace e1:=e1.symm;replace e2:=e2.symm;subst e1;subst e2;have h2:=dz _ hm;dsimp only at h2;rw [h2,aH];exact zf _
 refine { size:=hF.size,defers:=hF.defers,bn:=hF.bn,dL:=hF.dL,slot:=fun d=>?_,di:=fun d id aa hh=>?_,obj:=fun id hl=>?_,inj:=fun id ba b hl bw e e'=>?_,kept:=fun b hb=>⟨(hF.kept b hb).1,fun id hl e=>?_,(hF.kept b hb).2.2⟩,gh:=fun v f hg=>?_ }
 ·show VR _ _ _ _ _ (look .undef t' d);rcases ht.get d with h|h
  ·rw [h];exact VR.bu (.undef _) rfl
  ·exact my _ _ _ h.sO (hF.slot d)
 ·have ld : (id,aa)∈(look FV.undef t' d).hands:=hh;rcases ht.get d with h|h
  ·rw [h] at ld;cases ld
  ·exact gp _ _ h.sO id aa ld
 ·obtain ⟨e,he,rfl⟩:=ak id hl;rw [dz e he,kt e he];cases kL:e.src with
  | none =>
   obtain ⟨h1,h2⟩:=(hE e he).2.2 kL;refine .ofRow ?_ (.own h1) (by rw [h1];rfl);refine ⟨by rw [h2];simp,by rw [h2];simp,.slice none 0 0,[],?_,rfl,?_⟩
   ·rw [h2];exact yv _ _ _ _
   ·rw [h2];exact ay.nil
  | some i=>
   obtain ⟨cy,h1,hlen,bB⟩:=hold e he i kL;have h2:=hF.obj i (by rw [h1];exact (hE e he).1);rw [h1] at h2;rcases bB with ⟨jT,rfl⟩|⟨hh,aJ⟩|⟨hh,wK⟩
   ·cases hr:e.b.ag.row with
    | true =>
     have h4:=h2.bA hr;exact .ofRow ⟨h4.wide,h4.one,(h4.mono hI (fun _ _=>rfl)).row⟩ (h2.iu hr) hr
    | false=>
     have mq:e.b.ag.bL=false:=by
      cases bC:e.b.ag <;> rw [bC] at hr jT <;> first|rfl|(simp [xL.row,xL.plain] at hr jT;done)
     have m5:e.b.ag≠.bH:=by intro e2;rw [e2] at jT;cases jT
     have h4:=(h2.iN mq m5).mono hI (fun _ _=>rfl);exact .ofMap ⟨h4.ex⟩ mq m5
   ·have h4:=h2.iO (by rw [hh];rfl) (by rw [hh];rfl);obtain ⟨l1,l2,l3,l4⟩:=aJ;obtain ⟨v,us,r1,r2,r3,r4⟩:=h4.row;dsimp only at r1 r3 r4;refine .rv ⟨fun q hq=>l3 q hq,fun f hf id aa nP=>?_,v,us,by rw [← l1];exact r1,r2,r3.trans l2,fun j u f' hu cY=>?_⟩ hh
    ·obtain ⟨j,hj,rfl⟩:=yr hf;have fV:j<cy.flatten.length:=by rw [l2];exact hj
     exact gp _ _ (l4 j cy.flatten[j] _ zd zd) id aa nP
    ·have hj:j<cy.flatten.length:=by rw [l2];exact (ye.1 cY).1
     exact my _ _ _ (l4 j cy.flatten[j] f' zd cY) (r4 j u _ hu zd)
   ·have h4:=h2.mC hh;obtain ⟨bb,clock,au,r1,r2,r3,r4,r5,r6,r7⟩:=h4.ex;dsimp only at r5 r6 r7;obtain ⟨l1,l2⟩:=wK;have bU:∀ (j:Nat) eO,e.b.es[j]? = some eO→∃ en k f f',au[j]? = some en∧cy[j]? = some [k,f]∧eO=[k,f']∧VM M f f'∧k.simple=true∧en.key=k.val:=fun j eO hr=>by
     obtain ⟨k,f,f',q1,q2,q3⟩:=l2 j eO hr;have hj:j<au.size:=by rw [r5];exact (ye.1 q1).1
     obtain ⟨kf,vf,q4,q5,q6⟩:=r6 j au[j] _ (by simp [hj]) q1;injection q4 with q4 _
     subst q4;exact ⟨au[j],k,f,f',by simp [hj],q1,q2,q3,q5,q6⟩
    refine .oH ⟨fun f hf id aa nP=>?_,bb,clock,au,r1,r2,r3,r4,by rw [r5];exact l1,fun j en eO ie hr=>?_,fun j en eO f2 ie hr nN=>?_⟩ hh
    ·obtain ⟨eO,hr,hf⟩:=yE.1 hf;obtain ⟨j,hj,rfl⟩:=yr hr;obtain ⟨en,k,f1,pY,q0,q1,q2,q3,q4,q5⟩:=bU j _ (xP hj);rw [q2] at hf;rcases zZ.1 hf with rfl|hf
     ·exact (FV.bf (by cases f <;> first|rfl|(simp [FV.simple,FV.aG] at q4)) nP).elim
     ·rw [zP.1 hf] at nP;exact gp _ _ q3 id aa nP
    ·obtain ⟨vU,k,f1,pY,q0,q1,q2,q3,q4,q5⟩:=bU j _ hr;rw [q0] at ie;injection ie with ie
     subst ie;exact ⟨k,pY,q2,q4,q5⟩
    ·obtain ⟨vU,k,f1,pY,q0,q1,q2,q3,q4,q5⟩:=bU j _ hr;rw [q2] at nN;simp at nN;subst nN;exact my _ _ _ q3 (r7 j en _ f1 ie q1 rfl)
 ·obtain ⟨q,hq,rfl⟩:=ak id hl;obtain ⟨q',lu,rfl⟩:=ak ba bw;rw [kt q hq] at e;rw [kt q' lu] at e';cases ly:q.src with
  | none => rw [ly] at e; simp at e
  | some i=>
   cases ot:q'.src with
   | none => rw [ot] at e'; simp at e'
   | some i' =>
    rw [ly] at e;rw [ot] at e';obtain ⟨_,h1,_⟩:=hold q hq i ly;obtain ⟨_,h2,_⟩:=hold q' lu i' ot;have:=hF.inj i i' b (by rw [h1];exact (hE q hq).1) (by rw [h2];exact (hE q' lu).1) e e';subst this;rw [Xz hs hq lu ly ot]
 ·obtain ⟨q,hq,rfl⟩:=ak id hl;rw [kt q hq] at e;cases ly:q.src with
  | none => rw [ly] at e; simp at e
  | some i =>
   rw [ly] at e;obtain ⟨_,h1,_⟩:=hold q hq i ly;exact (hF.kept b hb).2.1 i (by rw [h1];exact (hE q hq).1) e
 ·obtain ⟨g1,g2⟩:=hF.gh v f hg;refine ⟨g1.mono hI fun id aa hh hl fF=>?_,fun id aa hh=>⟨(g2 id aa hh).1,?_⟩⟩
  ·obtain ⟨q1,q2⟩:=g2 id aa hh;obtain ⟨e,he,rfl⟩:=ak id hl;rw [dz e he] at fF;rcases o7.get e he q1 with ⟨h1,h2⟩|h1
   ·obtain ⟨cy,k1,k2,k3⟩:=hold e he _ h1;rw [k1,dz e he];refine ⟨(hE e he).1,by rw [← fF,h2],?_,rfl,rfl,fun v o n hv=>?_⟩
    ·rw [kt e he,h1];rfl
    ·rw [← dz e he];exact dQ e he _ h1 v o n (by rw [k1];exact hv)
   ·exact absurd q2 (by have:(⟨t,ob⟩:ab).ob e.new=look {} ob e.new:=rfl;rw [this];omega)
  ·obtain ⟨q1,q2⟩:=g2 id aa hh;rcases CF qw q1 with ⟨e,he,rfl⟩|cx
   ·rw [dz e he];rcases o7.get e he q1 with ⟨h1,h2⟩|h1
    ·obtain ⟨cy,k1,k2,k3⟩:=hold e he _ h1;rw [k1] at q2;rw [h2];exact q2
    ·have:(⟨t,ob⟩:ab).ob e.new=look {} ob e.new:=rfl;rw [this] at q2;omega
   ·have:(⟨t,ob⟩:ab).ob id=look {} ob id:=rfl;rw [this,cx] at q2;exact yT q2 (zN _)
theorem aL.cv (M:List bF) (ho:xW ob M M) (ht:lR t M t') (hk:(M.map bF.new).Nodup:=by simp) (hs:(M.filterMap bF.src).Nodup:=by simp) (qw:si ob M=true:=by rfl)
  (o7:gX ob M:=by repeat (first|exact gX.nil|refine gX.low rfl ?_|refine gX.same rfl ?_|refine gX.bump (Nat.lt_succ_self _) ?_)):aL ⟨t,ob⟩ ⟨t',M.map fun e=>(e.new,e.b)⟩:=aL.conv M hk hs qw o7 ho ht
theorem aL.shut {v:Nat} (h:look {} ob i=⟨v,.own,E,sz,es⟩):aL ⟨t,ob⟩ ⟨t,(i,⟨v,.shut,E,sz,es⟩)::ob⟩:=by
 intro N w0 J a w β hF;have eI:(⟨t,ob⟩:ab).ob i=⟨v,.own,E,sz,es⟩:=h;refine ⟨β,hF.j5 i .shut (fun h=>by cases h) (fun hd=>?_) (fun _=>by rw [eI];rfl) (fun k=>?_) (fun k=>rfl) (fun _ ho=>?_)⟩;rotate_right
 ·rw [eI] at ho ⊢;have:=ho.bA rfl;exact .ofRow ⟨this.wide,this.one,this.row⟩ (.shut rfl) rfl
 ·have hb:(⟨t,ob⟩:ab).ob i=⟨v,.own,E,sz,es⟩:=h;rw [hb] at hd;cases hd
 ·show look {} ((i,_)::ob) k=_;rw [zC];show _=if i=k then { (look {} ob i) with ag:=.shut } else _
  rw [h];rfl
theorem aL.list {v o:Nat} (h:look .undef t d=(.own i v o n)) (hb:look {} ob i=⟨v,.shut,E,sz,es⟩) (e:.list sz ((es.drop o).take n)=f):aL ⟨t,ob⟩ ⟨(d,f)::t,ob⟩:=by
 intro N w0 J a w β hF;subst e;have eI:(⟨t,ob⟩:ab).ob i=⟨v,.shut,E,sz,es⟩:=hb;have hl:=xg eI zc;have hg:=hF.bx (x:=.tmp d) (s:=⟨t,ob⟩) h hl.1 hl.2;have iJ:Rd w (aR J w β ⟨t,ob⟩) (a.tmps.getD d undef) (.list sz ((es.drop o).take n)):=by
  have hc:∃ c:Nat,c=N:=⟨_,rfl⟩
  obtain ⟨A,cc,e1,e2,e3,e4,e5⟩:=hg.ex;have mS : a.tmps.getD d undef=.slice A n cc:=e1;rw [mS];rw [eI] at e3 e5;dsimp only at e3 e5;have hO:=hF.obj i hl.1;rw [eI] at hO;have lS:=hO.bA rfl;have hw:=lS.wide;have bI:=lS.one;dsimp only at hw bI;have kr:∀ e∈es.drop o,e.length=sz:=fun e he=>hw e (xa he);have hlen:((es.drop o).take n).length=n:=by simp;omega
  have cz:((es.drop o).take n).flatten=(es.flatten.drop (o * sz)).take (n * sz):=by rw [Zy _ kr,xV _ hw]
  have jQ : ∀ f∈((es.drop o).take n).flatten,f.one=true:=fun f hf=>by rw [cz] at hf;exact bI f (xa (yN hf))
  cases eQ:β i with
  | none =>
   obtain ⟨rfl,rfl⟩:=e4 eQ;obtain rfl:n=0:=by omega
   exact .list none 0 0 _ _ [] zd (zf _) zd zd zd zd zd
  | some b=>
   obtain ⟨o',rfl,k2,k3⟩:=e5 b eQ;obtain ⟨v',us,r1,r2,r3⟩:=lS.row;dsimp only at r1 r3;have aD:=hO.lt eQ;have hR:ay w (aR J w β ⟨t,ob⟩) ((us.drop (o * sz)).take (n * sz)) ((es.drop o).take n).flatten:=by rw [cz];exact (r3.drop _).take _
   refine .list _ n cc sz _ _ hlen e2 (fun e he=>kr e (yN he)) jQ (fun h0=>⟨b,o',rfl,⟨aD.2,hF.fresh b aD.1 (.inr ⟨i,hl.1,eQ⟩),fun ba bw e=>?_⟩,fun j u hu=>?_⟩) hR.1 hR.2
   ·have:=hF.inj i ba b hl.1 (xL.bo bw) eQ e;subst this;rw [eI] at bw;cases bw
   ·have:=k2 (.inl za);subst this;rw [yD] at hu;split at hu
    ·rw [xx] at hu;have aU:=r1.cells (g:=b) (by rw [r2];exact eQ) _ u hu;rwa [yL,zM] at aU
    ·cases hu
 refine ⟨β,?_⟩;have aD:∃ q:ab,q=⟨(d,.list sz ((es.drop o).take n))::t,ob⟩:=⟨_,rfl⟩
 refine hF.step (C:=fun _=>False) hF.size hF.defers hF.bn (fun b hb=>⟨hb,rfl⟩) (fun k=>?_) (fun id _=>⟨rfl,rfl,fun _ _ _=>rfl⟩) (fun _ h=>h.elim) (fun _ h=>h.elim) (fun _ h=>h.elim) hF.inj (fun b _ hn=>⟨rfl,hn⟩);show (_∧look .undef ((d,_)::t) k=look .undef t k)∨_;by_cases gB:d=k
 ·subst gB;right;have:(⟨(d,.list sz ((es.drop o).take n))::t,ob⟩:ab).get d=.list sz ((es.drop o).take n):=by show look _ _ _=_;rw [zC,if_pos rfl]
  rw [this];exact ⟨VR.bu (iJ.mono (fun b hb=>⟨hb,rfl⟩)) rfl,fun id aa e=>by cases e⟩
 ·left;exact ⟨rfl,by rw [zC,if_neg gB]⟩
theorem aL.aK (d:Nat) {v j o:Nat} (h:look .undef t d=(.ptr i v j o)) (hb:look {} ob i=⟨v,.shut,E,sz,es⟩):aL ⟨t,ob⟩ ⟨(d,.aK sz es j o)::t,ob⟩:=by
 intro N w0 J a w β hF;have eI:(⟨t,ob⟩:ab).ob i=⟨v,.shut,E,sz,es⟩:=hb;have hl:=xg eI zc;obtain ⟨_,b,eQ,hv⟩:=hF.cb (x:=.tmp d) (s:=⟨t,ob⟩) h hl.1 hl.2;have iJ:Rd w (aR J w β ⟨t,ob⟩) (a.tmps.getD d undef) (.aK sz es j o):=by
  have iq : a.tmps.getD d undef=.pointer (some ⟨b,j * ((⟨t,ob⟩:ab).ob i).sz+o,none⟩):=hv;rw [iq,eI];have hO:=hF.obj i hl.1;rw [eI] at hO;have lS:=hO.bA rfl;have aD:=hO.lt eQ;obtain ⟨v',us,r1,r2,r3⟩:=lS.row;dsimp only at r1 r3;have e:j * sz+o=0+(j * sz+o):=by omega
  dsimp only;rw [e];refine .aK b 0 sz es j o us ⟨aD.2,hF.fresh b aD.1 (.inr ⟨i,hl.1,eQ⟩),fun ba bw e=>?_⟩ lS.wide lS.one (fun k u hu=>?_) r3.1 r3.2
  ·have:=hF.inj i ba b hl.1 (xL.bo bw) eQ e;subst this;rw [eI] at bw;cases bw
  ·have aU:=r1.cells (g:=b) (by rw [r2];exact eQ) _ u hu;rwa [yL] at aU
 refine ⟨β,?_⟩;refine hF.step (C:=fun _=>False) hF.size hF.defers hF.bn (fun b hb=>⟨hb,rfl⟩) (fun k=>?_) (fun id _=>⟨rfl,rfl,fun _ _ _=>rfl⟩) (fun _ h=>h.elim) (fun _ h=>h.elim) (fun _ h=>h.elim) hF.inj (fun b _ hn=>⟨rfl,hn⟩);show (_∧look .undef ((d,_)::t) k=look .undef t k)∨_;by_cases gB:d=k
 ·subst gB;right;have:(⟨(d,.aK sz es j o)::t,ob⟩:ab).get d=.aK sz es j o:=by show look _ _ _=_;rw [zC,if_pos rfl]
  rw [this];exact ⟨VR.bu (iJ.mono (fun b hb=>⟨hb,rfl⟩)) rfl,fun id aa e=>by cases e⟩
 ·left;exact ⟨rfl,by rw [zC,if_neg gB]⟩
theorem aL.bE (d:Nat) {v j o:Nat} (h:look .undef t d=(.ptr i v j o)) (hb:look {} ob i=⟨v,.own,E,sz,es⟩) :
  aL ⟨t,ob⟩ ⟨(d,.aK sz es j o)::t,(i,⟨v,.shut,E,sz,es⟩)::ob⟩:=
 (aL.shut hb).trans (aL.aK (d:=d) h (by rw [zC,if_pos rfl]))
theorem aL.share (d:Nat) {v:Nat} (h:look .undef t d=.own i v 0 n) (hb:look {} ob i=⟨v,.own,E,sz,es⟩) (hn:n=es.length) :
  aL ⟨t,ob⟩ ⟨(d,.list sz es)::t,(i,⟨v,.shut,E,sz,es⟩)::ob⟩:=
 (aL.shut hb).trans (aL.list (d:=d) h (by rw [zC,if_pos rfl]) (by rw [hn,Wu,ZK]))
theorem aL.kc (d:Nat) {v:Nat} (h:look .undef t d=.omap i v) (hb:look {} ob i=⟨v,.bc,E,sz,es⟩) :
  aL ⟨t,ob⟩ ⟨(d,.smap es)::t,(i,⟨v,.maps,E,sz,es⟩)::ob⟩:=by
 have h1:aL ⟨t,ob⟩ ⟨t,(i,⟨v,.maps,E,sz,es⟩)::ob⟩:=by
  intro N w0 J a w β hF;have eI:(⟨t,ob⟩:ab).ob i=⟨v,.bc,E,sz,es⟩:=hb;refine ⟨β,hF.j5 i .maps (fun h=>by cases h) (fun hd=>by rw [eI] at hd;cases hd) (fun _=>by rw [eI];rfl) (fun k=>?_) (fun k=>rfl) (fun _ ho=>by rw [eI] at ho ⊢;exact .ofMap ⟨(ho.iN rfl (fun e=>by cases e)).ex⟩ rfl (fun e=>by cases e))⟩;show look {} ((i,_)::ob) k=_;rw [zC];show _=if i=k then { (look {} ob i) with ag:=.maps } else _
  rw [hb];rfl
 refine h1.trans ?_;intro N w0 J a w β hF;have eI:(⟨t,(i,⟨v,.maps,E,sz,es⟩)::ob⟩:ab).ob i=⟨v,.maps,E,sz,es⟩:=by show look {} ((i,_)::ob) i=_;rw [zC,if_pos rfl]
 have hl:=xg eI zc;have hg:=hF.fe (x:=.tmp d) (s:=⟨t,(i,⟨v,.maps,E,sz,es⟩)::ob⟩) h hl.1 hl.2;have hO:=(hF.obj i hl.1).iN (by rw [eI];rfl) (by rw [eI];exact fun e=>by cases e);rw [eI] at hO;obtain ⟨_,b,aP,hx⟩:=hg;obtain ⟨b',clock,au,q1,q2,q3,q4,q5,q6,q7⟩:=hO.ex;rw [aP] at q1;injection q1 with q1
 subst q1;have aD:=(hF.obj i hl.1).lt aP;have iJ:Rd w (aR J w β ⟨t,(i,⟨v,.maps,E,sz,es⟩)::ob⟩) (a.tmps.getD d undef) (.smap es):=by
  have Ah : a.tmps.getD d undef=.map (some b):=hx;rw [Ah];refine .smap b clock au es ⟨aD.2,hF.fresh b aD.1 (.inr ⟨i,hl.1,aP⟩),fun ba bw e=>?_⟩ q3 q4 q5 q6 q7;have:=hF.inj i ba b hl.1 (xL.bo bw) aP e;subst this;rw [eI] at bw;cases bw
 refine ⟨β,?_⟩;refine hF.step (C:=fun _=>False) hF.size hF.defers hF.bn (fun b hb=>⟨hb,rfl⟩) (fun k=>?_) (fun id _=>⟨rfl,rfl,fun _ _ _=>rfl⟩) (fun _ h=>h.elim) (fun _ h=>h.elim) (fun _ h=>h.elim) hF.inj (fun b _ hn=>⟨rfl,hn⟩);show (_∧look .undef ((d,_)::t) k=look .undef t k)∨_;by_cases gB:d=k
 ·subst gB;right;have:(⟨(d,.smap es)::t,(i,⟨v,.maps,E,sz,es⟩)::ob⟩:ab).get d=.smap es:=by show look _ _ _=_;rw [zC,if_pos rfl]
  rw [this];exact ⟨VR.bu (iJ.mono (fun b hb=>⟨hb,rfl⟩)) rfl,fun id aa e=>by cases e⟩
 ·left;exact ⟨rfl,by rw [zC,if_neg gB]⟩
section
variable {g:Nat→Nat} {b:yo}
end
section
variable {g:Nat→Nat} {D:Nat→Prop} {Fi Fj:Nat→Option Nat} {s1 s2:ab} {w:World} {I1 I2:Nat→Prop}
end
section
variable {c:Ctx} {w0 w:World} {J:JJ} {a:Act} {β:Nat→Option Nat} {t:List (Nat×FV)} {ob:List (Nat×yo)}
end
section
variable {c:Ctx} {ops:Array Oper} {rest:List Oper} {t:List (Nat×FV)} {ob:List (Nat×yo)} {dst:Option Nat} {ty:TypeId} {pos:String} {af:Array Edge} {gd:Option (Nat×Bool)} {QS:ab→Prop}
end
structure aj where
 p:Int
 k:Int
 key:Int
 arg:Int
 res:Int
 call:Int
 ret:Int
 done:Bool
 deriving DecidableEq,Inhabited
def aj.ah (o:aj):List Value:=[.int .i64 o.p,.int .i64 o.k,.int .i64 o.key,.int .i64 o.arg,.int .i64 o.res,.int .i64 o.call,.int .i64 o.ret,.bool o.done]
theorem aj.wide:lM 8 aj.ah:=fun _=>rfl
theorem aj.one (o:aj):∀ u∈o.ah,u.oneCell'=true:=by intro u hu;simp [aj.ah] at hu;rcases hu with rfl|rfl|rfl|rfl|rfl|rfl|rfl|rfl <;> rfl
def YK (x:Int):List Value:=[.int .i64 x]
theorem Dz:lM 1 YK:=fun _=>rfl
section
variable {w:World} {B:Nat} {A:Option Addr}
theorem Sl.op {l:List aj} (h:Sl aj.ah w B A l) (hi:i<l.length):∃ b off,A=some ⟨b,off,none⟩∧b<B∧
  w.cell? ⟨b,off+i * 8,none⟩=some (.int .i64 (nth l i).p)∧w.cell? ⟨b,off+i * 8+1,none⟩=some (.int .i64 (nth l i).k)∧w.cell? ⟨b,off+i * 8+2,none⟩=some (.int .i64 (nth l i).key)∧
  w.cell? ⟨b,off+i * 8+3,none⟩=some (.int .i64 (nth l i).arg)∧w.cell? ⟨b,off+i * 8+4,none⟩=some (.int .i64 (nth l i).res)∧w.cell? ⟨b,off+i * 8+5,none⟩=some (.int .i64 (nth l i).call)∧
  w.cell? ⟨b,off+i * 8+6,none⟩=some (.int .i64 (nth l i).ret)∧w.cell? ⟨b,off+i * 8+7,none⟩=some (.bool (nth l i).done):=by
 obtain ⟨b,off,ha,hb,hc⟩:=h.get aj.wide hi;rw [← yq hi] at hc;exact ⟨b,off,ha,hb,hc 0 _ za rfl,hc 1 _ za rfl,hc 2 _ za rfl,hc 3 _ za rfl,hc 4 _ za rfl,hc 5 _ za rfl,hc 6 _ za rfl,hc 7 _ za rfl⟩
theorem Sl.int (h:Sl YK w B A l) (hi:i<l.length):∃ b off,A=some ⟨b,off,none⟩∧b<B∧w.cell? ⟨b,off+i,none⟩=some (.int .i64 (nth l i)):=by
 obtain ⟨b,off,ha,hb,hc⟩:=h.get Dz hi;rw [← yq hi] at hc;exact ⟨b,off,ha,hb,by have:=hc 0 _ za rfl;simpa using this⟩
theorem Sl.j9 {b off:Nat} {l:List aj} (h:Sl aj.ah w B (some ⟨b,off,none⟩) l) (hi:i<l.length) :
  w.cell? ⟨b,off+i * 8,none⟩=some (.int .i64 (nth l i).p)∧w.cell? ⟨b,off+i * 8+1,none⟩=some (.int .i64 (nth l i).k)∧w.cell? ⟨b,off+i * 8+2,none⟩=some (.int .i64 (nth l i).key)∧
  w.cell? ⟨b,off+i * 8+3,none⟩=some (.int .i64 (nth l i).arg)∧w.cell? ⟨b,off+i * 8+4,none⟩=some (.int .i64 (nth l i).res)∧w.cell? ⟨b,off+i * 8+5,none⟩=some (.int .i64 (nth l i).call)∧
  w.cell? ⟨b,off+i * 8+6,none⟩=some (.int .i64 (nth l i).ret)∧w.cell? ⟨b,off+i * 8+7,none⟩=some (.bool (nth l i).done):=by
 obtain ⟨b',dX,ha,_,hc⟩:=h.op hi;injection ha with ha;injection ha with h1 h2;subst h1;subst h2
 exact hc
end
theorem ui (l:List Int):flat YK l=l.map (Value.int .i64):=by
 induction l with
 | nil => rfl
 | cons a l ih => simp only [flat, xO, YK, yn, List.cons_append, Wz] at *; rw [ih]
theorem aQ.setInt {t:TypeId} (h:aQ w g t (flat YK l)) (i:Nat) (x:Int):aQ (w.setCell ⟨g,i,none⟩ (.int .i64 x)) g t (flat YK (l.set i x)):=by
 have:=h.dF i (.int .i64 x);rw [ui] at *;rw [List.map_set];exact this
theorem aQ.op {t:TypeId} {o:aj} (h:aQ w g t o.ah):w.cell? ⟨g,0,none⟩=some (.int .i64 o.p)∧w.cell? ⟨g,1,none⟩=some (.int .i64 o.k)∧w.cell? ⟨g,2,none⟩=some (.int .i64 o.key)∧
  w.cell? ⟨g,3,none⟩=some (.int .i64 o.arg)∧w.cell? ⟨g,4,none⟩=some (.int .i64 o.res)∧w.cell? ⟨g,5,none⟩=some (.int .i64 o.call)∧w.cell? ⟨g,6,none⟩=some (.int .i64 o.ret)∧w.cell? ⟨g,7,none⟩=some (.bool o.done):=
 ⟨h.cell 0,h.cell 1,h.cell 2,h.cell 3,h.cell 4,h.cell 5,h.cell 6,h.cell 7⟩
theorem pQ:Uf Tryz.prog 23 77 8 64:=⟨Tryz.underlying23,by
 obtain ⟨i,h0,h1,h2,h3⟩:=info_parts (P:=Tryz.prog) (e:=77) (z:=.agg #[.int .i64 0,.int .i64 0,.int .i64 0,.int .i64 0,.int .i64 0,.int .i64 0,.int .i64 0,.bool false]) (size:=8) (bytes:=64) zp;exact ⟨i,_,h0,h1,h2,h3,rfl⟩,by omega⟩
theorem oS:Uf Tryz.prog 22 3 1 8:=⟨Tryz.underlying22,by
 obtain ⟨i,h0,h1,h2,h3⟩:=info_parts (P:=Tryz.prog) (e:=3) (z:=.int .i64 0) (size:=1) (bytes:=8) zp;exact ⟨i,_,h0,h1,h2,h3,rfl⟩,by omega⟩
def vH (x y:aj):Bool:=decide (x=y)
@[go_sem] theorem aj.eta (x:aj):(⟨x.p,x.k,x.key,x.arg,x.res,x.call,x.ret,x.done⟩:aj)=x:=rfl
@[go_sem ↓] theorem oZ (w:World) (a1 a2 a3 a4 a5 a6 a7 b1 b2 b3 b4 b5 b6 b7:Int) (a8 b8:Bool):(Op.equalIn 10000 77 (.agg #[.int .i64 a1,.int .i64 a2,.int .i64 a3,.int .i64 a4,.int .i64 a5,.int .i64 a6,.int .i64 a7,.bool a8])
  (.agg #[.int .i64 b1,.int .i64 b2,.int .i64 b3,.int .i64 b4,.int .i64 b5,.int .i64 b6,.int .i64 b7,.bool b8])).run Tryz.prog w=.ok (vH ⟨a1,a2,a3,a4,a5,a6,a7,a8⟩ ⟨b1,b2,b3,b4,b5,b6,b7,b8⟩) w:=by
 unfold vH;have hS:Tryz.prog.underlying 77=some (.struct (Tryz.prog.fieldsOf 77)):=by kernel_rfl
 have hp:Tryz.prog.stoodInHeld 77=false:=by kernel_rfl
 rw [show (10000:Nat)=9999+1 from rfl,run_equalIn_agg w 9999 77 _ _ hS hp];simp only [Program.fieldsOf,Tryz.underlying77];simp [go_sem];by_cases h1:a1=b1
 ·by_cases h2:a2=b2
  ·by_cases h3:a3=b3
   ·by_cases h4:a4=b4
    ·by_cases h5:a5=b5
     ·by_cases h6:a6=b6
      ·by_cases h7:a7=b7
       ·by_cases h8:a8=b8 <;> simp [h1,h2,h3,h4,h5,h6,h7,h8]
       ·simp [h1,h2,h3,h4,h5,h6,h7]
      ·simp [h1,h2,h3,h4,h5,h6]
     ·simp [h1,h2,h3,h4,h5]
    ·simp [h1,h2,h3,h4]
   ·simp [h1,h2,h3]
  ·simp [h1,h2]
 ·simp [h1]
end
section
open Go.RowKit Go.Maps Go.MapKept Go.ChangeMaps
structure oT (P:Program) (k:TypeId) (κ:Type) (ek:κ→Value) (ok:κ→Prop):Prop where
 K:Keyed P k
 of:∀ x,ok x→∃ l,keyOf P k (ek x)=some l
 inj:∀ x y,ek x=ek y→x=y
def ZB {κ:Type} (ek:κ→Value) (ok:κ→Prop) (w:World) (b n:Nat) (f:κ→Option Value):Prop:=
 ∃ es clock,w.heap[b]? = some (.map es clock)∧es.size≤n∧Stamped es clock∧(∀ e∈es.toList,∃ x,ok x∧e.key=ek x)∧∀ x u,f x=some u↔∃ e∈es.toList,e.key=ek x∧e.val=u
open Classical in
noncomputable def lJ {κ:Type} (f:κ→Option Value) (x:κ) (u:Value):κ→Option Value:=fun y=>if y=x then some u else f y
theorem WR (f:κ→Option Value) (x:κ) (u:Value):lJ f x u x=some u:=by simp [lJ]
theorem XO (f:κ→Option Value) {x y:κ} (u:Value) (h:y≠x):lJ f x u y=f y:=by simp [lJ,h]
section
variable {κ:Type} {ek:κ→Value} {ok:κ→Prop} {P:Program} {k:TypeId} {w w' : World} {b n:Nat} {f:κ→Option Value}
theorem ZB.made (w:World):ZB ek ok (w.alloc (.map #[] 0)) w.heap.size 0 (fun _=>none):=
 ⟨#[],0,heap_alloc_new w _,zf _,stamped_empty _,by simp,by simp⟩
theorem ZB.lt (h:ZB ek ok w b n f):b<w.heap.size:=by
 obtain ⟨es,clock,hb,_⟩:=h;exact (yy.1 hb).1
theorem ZB.mono (h:ZB ek ok w b n f) {n' : Nat} (hn:n≤n'):ZB ek ok w b n' f:=by
 obtain ⟨es,clock,hb,hs,r⟩:=h;exact ⟨es,clock,hb,by omega,r⟩
theorem ZB.eE (h:ZB ek ok w b n f) (hb:w'.heap[b]? = w.heap[b]?):ZB ek ok w' b n f:=by
 obtain ⟨es,clock,hh,r⟩:=h;exact ⟨es,clock,hb.trans hh,r⟩
theorem ZB.drewN (h:ZB ek ok w b n f) (m:Nat):ZB ek ok (w.drewN m) b n f:=h
theorem ZB.alloc (h:ZB ek ok w b n f) (o:Obj):ZB ek ok (w.alloc o) b n f:=h.eE (Below.heap_alloc w o b h.lt)
theorem ZB.grown {row:Option Nat} (h:ZB ek ok w b n f) (hg:w.grownBy w' row) (hr:some b≠row):ZB ek ok w' b n f:=h.eE (hg.block b h.lt hr)
theorem ZB.ext (h:ZB ek ok w b n f) (hb:Below w.heap.size w w'):ZB ek ok w' b n f:=h.eE (hb.block b h.lt)
theorem ZB.j8 (h:ZB ek ok w b n f) {t:TypeId} {cs:List Value} (ho:aQ w g t cs):b≠g:=by
 obtain ⟨es,clock,hb,_⟩:=h;rintro rfl;unfold aQ at ho;rw [hb] at ho;cases ho
theorem Ea {e t:TypeId} (T:oT P k κ ek ok) (ht:P.underlying t=some (.map k e)) (hz:(zeroValue e).run P w=.ok z w) (h:ZB ek ok w b n f) (c:Bool) (x:κ) (hx:ok x) :
  (Instr.lookup t (.map (some b)) (ek x) c).run P w=.ok (if c then .tuple #[(f x).getD z,.bool (f x).isSome] else (f x).getD z) w:=by
 obtain ⟨es,clock,hb,hs,br,dy,hf⟩:=h;obtain ⟨l,hl⟩:=T.of x hx;have qC:∀ e∈es.toList,∃ l,keyOf P k e.key=some l:=fun e he=>by
  obtain ⟨y,hy,he⟩:=dy e he;obtain ⟨l,hl⟩:=T.of y hy;exact ⟨l,by rw [he];exact hl⟩
 rcases T.K.find w hl es.toList qC with ⟨h1,h2⟩|⟨j,e0,h1,h2,h3⟩
 ·have hn:f x=none:=by
   cases wA:f x with
   | none => rfl
   | some u =>
    obtain ⟨e,he,hk,_⟩:=(hf x u).1 wA;exact absurd hk (h2 e he)
  cases c <;> simp [Instr.lookup,run_underlying ht,xz hb,T.K.check w _ hl,h1,hz,Result.andThen,hn]
 ·have hn:f x=some e0.val:=(hf x _).2 ⟨e0,ya h2,h3,rfl⟩;cases c <;> simp [Instr.lookup,run_underlying ht,xz hb,T.K.check w _ hl,h1,Result.andThen,hn]
theorem D6 {e t:TypeId} (T:oT P k κ ek ok) (ht:P.underlying t=some (.map k e)) (h:ZB ek ok w b n f) (x:κ) (hx:ok x) (u:Value) :
  ∃ w',(Instr.mapUpdate t (.map (some b)) (ek x) u).run P w=.ok () w'∧ZB ek ok w' b (n+1) (lJ f x u)∧w.grownBy w' (some b):=by
 obtain ⟨es,clock,hb,hs,br,dy,hf⟩:=h;obtain ⟨l,hl⟩:=T.of x hx;have qC:∀ e∈es.toList,∃ l,keyOf P k e.key=some l:=fun e he=>by
  obtain ⟨y,hy,he⟩:=dy e he;obtain ⟨l,hl⟩:=T.of y hy;exact ⟨l,by rw [he];exact hl⟩
 have gr:∀ o,w.grownBy (setBlock w b o) (some b):=fun o=>⟨rfl,rfl,rfl,by simp [setBlock],fun i _ hi=>heap_setBlock_other hb _ (fun e=>hi (by rw [e]))⟩
 rcases T.K.find w hl es.toList qC with ⟨h1,h2⟩|⟨j,e0,h1,h2,h3⟩
 ·refine ⟨setBlock w b (.map (es.push ⟨ek x,u,clock⟩) (clock+1)),?_,⟨_,_,heap_setBlock_same hb _,by simp;omega,stamped_push br h2,?_,?_⟩,gr _⟩
  ·simp [Instr.mapUpdate,run_underlying ht,xz hb,T.K.check w false hl,h1,WD _ hb,Result.andThen,setBlock]
  ·intro e he;simp only [rW,zO,zP] at he;rcases he with he|rfl
   ·exact dy e he
   ·exact ⟨x,hx,rfl⟩
  ·intro y v;by_cases hy:y=x
   ·subst hy;rw [WR];constructor
    ·intro hv;injection hv with hv;exact ⟨⟨ek y,u,clock⟩,by simp,rfl,hv⟩
    ·rintro ⟨e,he,hk,hv⟩;simp only [rW,zO,zP] at he;rcases he with he|rfl
     ·exact absurd hk (h2 e he)
     ·rw [← hv]
   ·rw [XO f u hy,hf];constructor
    ·rintro ⟨e,he,hk,hv⟩;exact ⟨e,by simp [he],hk,hv⟩
    ·rintro ⟨e,he,hk,hv⟩;simp only [rW,zO,zP] at he;rcases he with he|rfl
     ·exact ⟨e,he,hk,hv⟩
     ·exact absurd (T.inj _ _ hk).symm hy
 ·have hj:es[j]? = some e0:=by simpa using h2
  have dN:j<es.toList.length:=(ye.1 h2).1;have jH:∀ e',es[j]? = some e'→({ e' with key:=ek x,val:=u }:MapEntry).key=e'.key:=fun e' iF=>by rw [hj] at iF;cases iF;exact h3.symm
  have ll:(es.modify j (fun e'=>{ e' with key:=ek x,val:=u })).toList=es.toList.set j { e0 with key:=ek x,val:=u }:=by rw [Array.toList_modify,modify_eq_set _ _ _ _ h2]
  have hd:=((stamped_iff es clock).1 br).2.2;have other:∀ i e,es.toList[i]? = some e→i≠j→e.key≠ek x:=by
   intro i e hi aZ;rw [← h3];obtain ⟨nT,rfl⟩:=ye.1 hi;obtain ⟨_,rfl⟩:=ye.1 h2;rcases Nat.lt_or_gt_of_ne aZ with aD|qx
   ·exact WA.1 hd i j nT dN aD
   ·exact (WA.1 hd j i dN nT qx).symm
  have rG:∀ y∈es.toList.set j { e0 with key:=ek x,val:=u },y={ e0 with key:=ek x,val:=u }∨(y∈es.toList∧y.key≠ek x):=by
   intro y hy;obtain ⟨i,hi,ex⟩:=yr hy;rw [List.getElem_set] at ex;split at ex
   ·exact Or.inl ex.symm
   ·rename_i aZ;have tj : i<es.toList.length:=by simpa using hi
    exact Or.inr ⟨ex▸yw tj,other i y (by rw [xP tj,ex]) (fun e1=>aZ e1.symm)⟩
  refine ⟨setBlock w b (.map (es.modify j (fun e'=>{ e' with key:=ek x,val:=u })) clock),?_,⟨_,_,heap_setBlock_same hb _,by simp;omega,stamped_modify br _ _ (fun _ _=>rfl) (fun e' _ iF=>jH e' iF),?_,?_⟩,gr _⟩
  ·simp [Instr.mapUpdate,run_underlying ht,xz hb,T.K.check w false hl,h1,hj,h3,T.K.stays w hl,WD _ hb,Result.andThen,setBlock]
  ·intro e he;rw [ll] at he;rcases rG e he with rfl|⟨he,_⟩
   ·exact ⟨x,hx,rfl⟩
   ·exact dy e he
  ·intro y v;rw [ll];by_cases hy:y=x
   ·subst hy;rw [WR];constructor
    ·intro hv;injection hv with hv
     exact ⟨{ e0 with key:=ek y,val:=u },List.mem_iff_getElem.2 ⟨j,by simpa using dN,by simp⟩,rfl,hv⟩
    ·rintro ⟨e,he,hk,hv⟩;rcases rG e he with rfl|⟨_,aZ⟩
     ·rw [← hv]
     ·exact absurd hk aZ
   ·rw [XO f u hy,hf];constructor
    ·rintro ⟨e,he,hk,hv⟩;obtain ⟨i,hi,rfl⟩:=yr he;have fh:i≠j:=by
      rintro rfl;obtain ⟨_,iy⟩:=ye.1 h2;rw [iy,h3] at hk;exact hy (T.inj _ _ hk).symm
     exact ⟨es.toList[i],List.mem_iff_getElem.2 ⟨i,by simpa using hi,by rw [List.getElem_set,if_neg (fun e=>fh e.symm)]⟩,hk,hv⟩
    ·rintro ⟨e,he,hk,hv⟩;rcases rG e he with rfl|⟨he,_⟩
     ·exact absurd (T.inj _ _ hk).symm hy
     ·exact ⟨e,he,hk,hv⟩
theorem xD {e t:TypeId}
  (T:oT P k κ ek ok) (ht:P.underlying t=some (.map k e)) (hz:(zeroValue e).run P w=.ok z w) (h:ZB ek ok w b n f) (x:κ) (hx:ok x)
  (hg:o.guard=none) (m i:Operand) (bM:o.op=Op.lookup t m i true) (hm:a.eval m=.map (some b)) (hi:a.eval i=ek x)
  (hK:wpList P ops Q rest (a.put o.dst (.tuple #[(f x).getD z,.bool (f x).isSome])) w):wpList P ops Q (o::rest) a w:=by
 refine wpList_plain hg fun K' hK'=>?_;have bz:=Ea T ht hz h true x hx;unfold Oper.wp;simp [execOp,bM,hm,hi,bz,Result.andThen];exact hK' _ _ hK
theorem YG {e t:TypeId}
  (T:oT P k κ ek ok) (ht:P.underlying t=some (.map k e)) (h:ZB ek ok w b n f) (x:κ) (hx:ok x) (u:Value)
  (hg:o.guard=none) (m i v:Operand) (bM:o.op=Op.mapUpdate t m i v) (hm:a.eval m=.map (some b)) (hi:a.eval i=ek x) (hv:a.eval v=u)
  (hK:∀ w',ZB ek ok w' b (n+1) (lJ f x u)→w.grownBy w' (some b)→wpList P ops Q rest (a.put o.dst undef) w'):wpList P ops Q (o::rest) a w:=by
 refine wpList_plain hg fun K' hK'=>?_;obtain ⟨w',bz,h1,h2⟩:=D6 T ht h x hx u;unfold Oper.wp;simp [execOp,bM,hm,hi,hv,bz,Result.andThen];exact hK' _ _ (hK w' h1 h2)
end
def kT (x:Int):Value:=.int .i64 x
theorem Et (h:aT x):(Lit.int .i64 x).wf=true:=WalkArith.wf_i64 (by unfold aT at h;omega)
theorem Yk:oT Tryz.prog 3 Int kT aT:=⟨int_keyed Tryz.underlying3,fun x hx=>⟨_,keyOf_int_mk Tryz.underlying3 (Et hx)⟩,fun x y h=>by injection h⟩
end
section
open Go.RowKit
attribute [local go_sem ↓] Go.wp_at_zero Go.wp_at_succ
def gy (o:aj):Prop:=aT o.p∧aT o.k∧aT o.key∧aT o.arg∧aT o.res∧aT o.call∧aT o.ret
noncomputable def bg (B:Int→Bool):Int→Option Value:=fun x=>if B x then some (.agg #[]) else none
theorem XY (B:Int→Bool) (x:Int):(bg B x).getD (.agg #[])=.agg #[]:=by unfold bg;split <;> rfl
theorem Xb (B:Int→Bool) (x:Int):(bg B x).isSome=B x:=by unfold bg;split <;> simp_all
theorem UC (B:Int→Bool) (x:Int):lJ (bg B) x (.agg #[])=bg (fun y=>B y || y == x):=by
 funext y;by_cases hy:y=x
 ·subst hy;rw [WR];simp [bg]
 ·rw [XO _ _ hy];simp [bg,hy]
theorem VF:(fun _=>none)=bg (fun _=>false):=by funext y;simp [bg]
def Wn (g:Int→Option aj):Int→Option Value:=fun x=>(g x).map fun o=>.agg o.ah.toArray
theorem DA (g:Int→Option aj) (x:Int):(Wn g x).getD (.agg #[.int .i64 0,.int .i64 0,.int .i64 0,.int .i64 0,.int .i64 0,.int .i64 0,.int .i64 0,.bool false])=.agg #[.int .i64 ((g x).getD default).p,.int .i64 ((g x).getD default).k,.int .i64 ((g x).getD default).key,.int .i64 ((g x).getD default).arg,.int .i64 ((g x).getD default).res,.int .i64 ((g x).getD default).call,.int .i64 ((g x).getD default).ret,.bool ((g x).getD default).done]:=by
 unfold Wn;cases g x <;> rfl
theorem CH (g:Int→Option aj) (x:Int):(Wn g x).isSome=(g x).isSome:=by simp [Wn]
open Classical in
theorem ur (g:Int→Option aj) (x:Int) (o:aj):lJ (Wn g) x (.agg o.ah.toArray)=Wn (fun y=>if y=x then some o else g y):=by
 funext y;by_cases hy:y=x
 ·subst hy;rw [WR];simp [Wn]
 ·rw [XO _ _ hy];simp [Wn,hy]
def dH (o:aj):Bool:=decide (0≤o.p) && decide (0≤o.k) && decide (o.k≤4) && decide (0≤o.call) && decide (o.call<o.ret) && (o.done || decide (o.res=0))
def Ue (l:List aj) (k:Nat) (x:Int):Bool:=(l.take k).any fun o=>o.done && o.ret == x
def YI (l:List aj) (k:Nat) (x:Int):Bool:=(l.take k).any fun o=>o.call == x
def yx (l:List aj):Nat→Int→Option aj
 | 0, _ => none
 | k+1, p => if p=(nth l k).p then some (nth l k) else yx l k p
def UY (l:List aj) (k:Nat):Int:=
 if dH (nth l k)=false then 1
 else if 0<k∧(nth l k).call≤(nth l (k - 1)).call then 5
 else if (Ue l k (nth l k).call || (nth l k).done && (Ue l k (nth l k).ret || YI l l.length (nth l k).ret))=true then 4
 else if (yx l k (nth l k).p).isSome=true∧(((yx l k (nth l k).p).getD default).done=false∨(nth l k).call<((yx l k (nth l k).p).getD default).ret) then 5
 else 0
def zR (l:List aj) (k:Nat):Nat→Int
 | 0 => 0
 | n+1 => if UY l k=0 then zR l (k+1) n else UY l k
def xm (l:List aj):Int:=if 300<l.length then 2 else zR l 0 l.length
theorem XD {l:List aj} {k:Nat} (h:UY l k=0):zR l k (n+1)=zR l (k+1) n:=by simp [zR,h]
theorem Ub {l:List aj} {k:Nat} (h:UY l k≠0):zR l k (n+1)=UY l k:=by simp [zR,h]
theorem BS {l:List aj} {k:Nat} (hk:k<l.length) (x:Int):YI l (k+1) x=(YI l k x || x == (nth l k).call):=by
 unfold YI;rw [ZL hk,Wt,yq hk];simp [BEq.comm (a:=x)]
theorem uB {l:List aj} {k:Nat} (hk:k<l.length) (x:Int):Ue l (k+1) x=(Ue l k x || ((nth l k).done && x == (nth l k).ret)):=by
 unfold Ue;rw [ZL hk,Wt,yq hk];simp [BEq.comm (a:=x)]
theorem ZX (o:Obj):Below w.heap.size w (w.alloc o):=(zQ _ _).alloc (zf _) _
theorem YO (o:aj) (w:World):Calls Tryz.prog 84 #[.agg #[.int .i64 o.p,.int .i64 o.k,.int .i64 o.key,.int .i64 o.arg,.int .i64 o.res,.int .i64 o.call,.int .i64 o.ret,.bool o.done]] w fun e w'=>e=.returned (.bool (dH o))∧Below w.heap.size w w':=by
 by_cases h1:0≤o.p
 ·by_cases h2:0≤o.k
  ·by_cases h3:o.k≤4
   ·by_cases h4:0≤o.call
    ·by_cases h5:o.call<o.ret
     ·cases h6:o.done with
      | true =>
       go_enter Tryz.func84,Tryz.ntmps84
       go_wp2
       go_ret
       exact ⟨by simp [dH,h1,h2,h3,h4,h5,h6],ZX _⟩
      | false=>
       by_cases h7:o.res=0
       ·have we : (o.res == 0)=true:=by simpa using h7
        go_enter Tryz.func84,Tryz.ntmps84
        go_wp2
        go_ret
        exact ⟨by simp [dH,h1,h2,h3,h4,h5,h6,h7],ZX _⟩
       ·have we : (o.res == 0)=false:=by simpa using h7
        go_enter Tryz.func84,Tryz.ntmps84
        go_wp2
        go_ret
        exact ⟨by simp [dH,h1,h2,h3,h4,h5,h6,h7],ZX _⟩
     ·go_enter Tryz.func84,Tryz.ntmps84
      go_wp2
      go_ret
      exact ⟨by simp [dH,h1,h2,h3,h4];intros;omega,ZX _⟩
    ·go_enter Tryz.func84,Tryz.ntmps84
     go_wp2
     go_ret
     exact ⟨by simp [dH,h1,h2,h3];intros;omega,ZX _⟩
   ·go_enter Tryz.func84,Tryz.ntmps84
    go_wp2
    go_ret
    exact ⟨by simp [dH,h1,h2];intros;omega,ZX _⟩
  ·go_enter Tryz.func84,Tryz.ntmps84
   go_wp2
   go_ret
   exact ⟨by simp [dH,h1];intros;omega,ZX _⟩
 ·go_enter Tryz.func84,Tryz.ntmps84
  go_wp2
  go_ret
  exact ⟨by simp [dH];intros;omega,ZX _⟩
theorem Bh (l:List aj) (k:Nat):yx l (k+1)=fun p=>if p=(nth l k).p then some (nth l k) else yx l k p:=rfl
theorem DI (l:List aj):Ue l 0=fun _=>false:=by funext x;simp [Ue]
theorem BU (l:List aj):YI l 0=fun _=>false:=by funext x;simp [YI]
theorem BN:(fun _=>none)=Wn (fun _=>none):=by funext y;simp [Wn]
theorem DH {l:List aj} {k:Nat} (hk:k<l.length) (h:(nth l k).done=true):Ue l (k+1)=fun x=>Ue l k x || x == (nth l k).ret:=by
 funext x;rw [uB hk,h];simp
theorem CT {l:List aj} {k:Nat} (hk:k<l.length) (h:(nth l k).done=false):Ue l (k+1)=Ue l k:=by
 funext x;rw [uB hk,h];simp
theorem BT {l:List aj} {k:Nat} (hk:k<l.length):YI l (k+1)=fun x=>YI l k x || x == (nth l k).call:=by
 funext x;rw [BS hk]
theorem pA {l:List aj} {k:Nat} {e:Int} (h:zR l k (l.length - k)=X) (hk:k<l.length) (he:UY l k=e) (h0:e≠0):e=X:=by
 rw [show l.length - k=(l.length - (k+1))+1 by omega,Ub (by rw [he];exact h0),he] at h;exact h
theorem Es {l:List aj} {k:Nat} (h:zR l k (l.length - k)=X) (hk:k<l.length) (he:UY l k=0):zR l (k+1) (l.length - (k+1))=X:=by
 rw [show l.length - k=(l.length - (k+1))+1 by omega,XD he] at h;exact h
set_option maxRecDepth 100000 in
theorem BJ (A:Option Addr) (c:Nat) (l:List aj) (w:World) (h1:Sl aj.ah w w.heap.size A l) (cA:∀ o∈l,gy o) (hlen:l.length≤1000000000) :
  Calls Tryz.prog 36 #[.slice A l.length c] w fun e w'=>e=.returned (.int .i64 (xm l))∧Below w.heap.size w w':=by
 have EV:=@run_makeMap Tryz.prog;by_cases ju:300<l.length
 ·go_enter Tryz.func36,Tryz.ntmps36
  go_wp2_with fail
  go_ret
  exact ⟨by simp [xm,ju],zQ _ _⟩
 ·have hc : xm l=zR l 0 l.length:=by simp [xm,ju]
  rw [hc]
  go_enter Tryz.func36,Tryz.ntmps36
  go_wp2_with fail
  go_loopw [24] (fun i wr=>∃ k:Nat,k≤l.length∧i=.int .i64 k∧ZB kT aT wr w.heap.size k (bg (YI l k))∧Below w.heap.size w wr) (fun i _=>l.length - (intOf i).toNat)
  case atStart=>exact ⟨0,by omega,rfl,by rw [BU,← VF];exact ZB.made w,ZX _⟩
  case round =>
   obtain ⟨k,hk,rfl,bH,hb⟩:=hrel;by_cases aD:k<l.length
   ·obtain ⟨b1,o1,rfl,nI,p0,p1,p2,p3,p4,p5,p6,p7⟩:=(h1.below hb).op aD;have az:=hb.size;have nH:b1<wr.heap.size:=by omega
    have hI:=cA _ (yj aD);have Hs:=zg (BT aD)
    go_wp2_with (at_mapUpdate;go_loud (refine YG Yk Tryz.underlying118 (bH.alloc _) (nth l k).call hI.2.2.2.2.2.1 (.agg #[]) rfl (.tmp 28) (.tmp 30) (.tmp 31) rfl rfl rfl rfl ?_;intro w1 pa s9))
    go_roundw
    case rel=>
     refine ⟨k+1,by omega,by go_num,?_,?_⟩
     ·rw [Hs.out,← UC];exact pa
     ·exact (hb.alloc az _).grown s9 zy (by rintro k' ⟨⟩;exact zf _)
    case measure=>simp [intOf];omega
   ·obtain rfl : k=l.length:=by omega
    obtain ⟨wb,rfl⟩:∃ wb:World,wb=wr:=⟨_,rfl⟩
    have rb:=hb.size;have wG:=bH.lt
    go_wp2_with fail
    go_loopw [37] (fun i wr=>∃ k:Nat,k≤l.length∧i=.int .i64 k∧ZB kT aT wr w.heap.size l.length (bg (YI l l.length))∧ZB kT aT wr wb.heap.size k (bg (Ue l k))∧ZB kT aT wr (wb.heap.size+1) k (Wn (yx l k))∧Below w.heap.size w wr∧wb.heap.size+2≤wr.heap.size∧
     zR l k (l.length - k)=zR l 0 l.length) (fun i _=>l.length - (intOf i).toNat)
    case atStart=>
     refine ⟨0,by omega,rfl,(bH.alloc _).alloc _,?_,?_,(hb.alloc rb _).alloc zy _,by simp,by simp⟩
     ·rw [DI,← VF];exact (ZB.made wb).alloc _
     ·have:=ZB.made (ek:=kT) (ok:=aT) (wb.alloc (.map #[] 0));rw [show yx l 0=fun _=>none from rfl,← BN];simpa using this
    case round =>
     obtain ⟨k,hk,rfl,qJ,pb,qM,hb,eN,cx⟩:=hrel;have eX:=zg cx;clear cx bH;by_cases aD:k<l.length
     ·obtain ⟨b1,o1,rfl,nI,p0,p1,p2,p3,p4,p5,p6,p7⟩:=(h1.below hb).op aD;have az:=hb.size;have nH:b1<wr.heap.size:=by omega
      have hI:=cA _ (yj aD);obtain ⟨o,ho⟩:∃ o,nth l k=o:=⟨_,rfl⟩
      rw [ho] at p0 p1 p2 p3 p4 p5 p6 p7 hI;obtain ⟨pv,tI⟩:∃ pv,(yx l k o.p).getD default=pv:=⟨_,rfl⟩
      obtain ⟨b4,iB⟩:∃ b4,(yx l k o.p).isSome=b4:=⟨_,rfl⟩
      obtain ⟨b5,iC⟩:∃ b5,Ue l k o.call=b5:=⟨_,rfl⟩
      obtain ⟨b6,sY⟩:∃ b6,Ue l k o.ret=b6:=⟨_,rfl⟩
      obtain ⟨b7,sZ⟩:∃ b7,YI l l.length o.ret=b7:=⟨_,rfl⟩
      have sL:=zg tI;have sD:=zg iB;have sF:=zg iC;have sG:=zg sY;have sH:=zg sZ;clear tI iB iC sY sZ
      go_upto_region 18 with (first|(at_lookup;refine xD Yk Tryz.underlying118 (Tryz.zeroValue119 _) (pb.alloc _) o.call hI.2.2.2.2.2.1 rfl (.tmp 43) (.tmp 45) rfl rfl rfl ?_;rw [XY,Xb,sF.out])|(at_lookup;refine xD Yk Tryz.underlying118 (Tryz.zeroValue119 _) ((pb.alloc _).alloc _) o.ret hI.2.2.2.2.2.2 rfl (.tmp 50) (.tmp 52) rfl rfl rfl ?_;rw [XY,Xb,sG.out])|(at_lookup;refine xD Yk Tryz.underlying118 (Tryz.zeroValue119 _) (((qJ.alloc _).alloc _).alloc _) o.ret hI.2.2.2.2.2.2 rfl (.tmp 57) (.tmp 59) rfl rfl rfl ?_;rw [XY,Xb,sH.out])|(at_lookup;refine xD Yk Tryz.underlying120 (Tryz.zeroValue77 _) ((((qM.alloc _).alloc _).alloc _).alloc _) o.p hI.1 rfl (.tmp 64) (.tmp 66) rfl rfl rfl ?_;rw [DA,CH,sD.out,sL.out]))
      obtain ⟨W,hW⟩:∃ W,W=(((((wr.alloc (.cells #[.int .i64 o.p,.int .i64 o.k,.int .i64 o.key,.int .i64 o.arg,.int .i64 o.res,.int .i64 o.call,.int .i64 o.ret,.bool o.done] 77)).alloc (.cells #[] 119)).alloc (.cells #[] 119)).alloc (.cells #[] 119)).alloc (.cells #[.int .i64 pv.p,.int .i64 pv.k,.int .i64 pv.key,.int .i64 pv.arg,.int .i64 pv.res,.int .i64 pv.call,.int .i64 pv.ret,.bool pv.done] 77)):=⟨_,rfl⟩
      have B1:aQ W wr.heap.size 77 o.ah:=by rw [hW];exact ((((aQ.new wr 77 o.ah).alloc _).alloc _).alloc _).alloc _
      have B2:aQ W (wr.heap.size+1+1+1+1) 77 pv.ah:=by
       rw [hW];have:=aQ.new ((((wr.alloc (.cells #[.int .i64 o.p,.int .i64 o.k,.int .i64 o.key,.int .i64 o.arg,.int .i64 o.res,.int .i64 o.call,.int .i64 o.ret,.bool o.done] 77)).alloc (.cells #[] 119)).alloc (.cells #[] 119)).alloc (.cells #[] 119)) 77 pv.ah;simp only [yX] at this;exact this
      have n3:ZB kT aT W w.heap.size l.length (bg (YI l l.length)):=by rw [hW];exact ((((qJ.alloc _).alloc _).alloc _).alloc _).alloc _
      have n8:ZB kT aT W wb.heap.size k (bg (Ue l k)):=by rw [hW];exact ((((pb.alloc _).alloc _).alloc _).alloc _).alloc _
      have n7:ZB kT aT W (wb.heap.size+1) k (Wn (yx l k)):=by rw [hW];exact ((((qM.alloc _).alloc _).alloc _).alloc _).alloc _
      have iD:Below wr.heap.size wr W:=by rw [hW];exact ((((ZX _).alloc zd _).alloc zy _).alloc zy _).alloc zy _
      have q5:=iD.cell (p:=⟨b1,o1+k * 8+5,none⟩) nH;rw [← hW];clear hW qJ pb qM;obtain ⟨x0,x1,x2,x3,x4,x5,x6,x7⟩:=B1.op;cases jZ:dH o with
      | false =>
       go_wp2_with (go_at_call 84;refine (YO o _).mono ?_;rintro e w2 ⟨rfl,c7⟩)
       go_ret
       exact ⟨congrArg _ (congrArg _ (pA eX.out aD (by rw [UY,if_pos (by rw [ho];exact jZ)]) zc)),hb.trans ((pM iD c7).mono az)⟩
      | true =>
       have hP:=iD.size
       go_upto_region 20 with (go_at_call 84;refine (YO o _).mono ?_;rintro e w2 ⟨rfl,c7⟩)
       have fS:=pM iD c7;have C1:=B1.below c7 B1.lt;have C2:=B2.below c7 B2.lt;have n4:=n3.ext c7;have mh:=n8.ext c7;have mg:=n7.ext c7;clear B1 B2 n3 n8 n7 x0 x1 x2 x3 x4 x5 x6 x7 c7 iD q5;obtain ⟨x0,x1,x2,x3,x4,x5,x6,x7⟩:=C1.op;obtain ⟨y0,y1,y2,y3,y4,y5,y6,y7⟩:=C2.op;have kW:=zg jZ;clear jZ;have oz:=fS.size;by_cases dP:0<k∧o.call≤(nth l (k - 1)).call
       ·obtain ⟨qB,dP⟩:=dP;have df:k - 1<l.length:=by omega
        obtain ⟨_,_,_,_,_,q5,_,_⟩:=((h1.below hb).below (fS.mono az)).j9 df;have ew:(0:Int)<(k:Int):=by omega
        go_wp2_with fail
        go_quiet (fail)
        go_wp2_with fail
        go_ret
        exact ⟨congrArg _ (congrArg _ (pA eX.out aD (by rw [UY,if_neg (by rw [ho,kW.out];simp),if_pos (by rw [ho];exact ⟨qB,dP⟩)]) zc)),Zv (hb.trans (fS.mono az)) _⟩
       ·have fK:=zg dP
        go_cut [74] (fun s wx=>s=.bool false∧∃ n,wx=w2.drewN n)
        case first=>
         by_cases qB:0<k
         ·have df:k - 1<l.length:=by omega
          obtain ⟨_,_,_,_,_,q5,_,_⟩:=((h1.below hb).below (fS.mono az)).j9 df;have ew:(0:Int)<(k:Int):=by omega
          have hle:(nth l (k - 1)).call<o.call:=by
           have:=fK.out;omega
          clear dP
          go_wp2_with fail
          go_quiet (fail)
          go_wp2_with fail
          go_meet
          case rel=>exact ⟨by simp;omega,_,rfl⟩
         ·have ew:decide ((0:Int)<(k:Int))=false:=by simp;omega
          clear dP
          go_wp2_with fail
          go_quiet (fail)
          go_wp2_with fail
          go_meet
          case rel=>exact ⟨by simp,_,rfl⟩
        case rest=>
         obtain ⟨rfl,n,rfl⟩:=hcut;clear dP
         go_upto_region 22 with fail
         go_cut [11,13,15,88] (fun _ _ _ s wx=>s=.bool (b5 || (o.done && (b6 || b7)))∧wx=w2.drewN n)
         case first=>
          go_wp2_with fail
          all_goals go_meet
          all_goals exact ⟨by simp [*],rfl⟩
         case rest=>
          obtain ⟨rfl,rfl⟩:=hcut;obtain ⟨b8,qg⟩:∃ b8,(b5 || (o.done && (b6 || b7)))=b8:=⟨_,rfl⟩
          rw [qg];have vN:=zg qg;clear qg;have e1:¬ (dH (nth l k)=false):=by rw [ho,kW.out];simp
          have e2:¬ (0<k∧(nth l k).call≤(nth l (k - 1)).call):=by rw [ho];exact fK.out
          have e3:(Ue l k (nth l k).call || (nth l k).done && (Ue l k (nth l k).ret || YI l l.length (nth l k).ret))=b8:=by rw [ho,sF.out,sG.out,sH.out];exact vN.out
          have E1:=zg e1;have E2:=zg e2;have E3:=zg e3;clear e1 e2 e3;cases b8 with
          | true =>
           go_wp2_with fail
           go_ret
           exact ⟨congrArg _ (congrArg _ (pA eX.out aD (by rw [UY,if_neg E1.out,if_neg E2.out,if_pos E3.out]) zc)),Zv (hb.trans (fS.mono az)) _⟩
          | false=>
           go_upto_region 24 with fail
           go_cut [17,100] (fun _ s wx=>s=.bool (b4 && (!pv.done || decide (o.call<pv.ret)))∧wx=w2.drewN n)
           case first=>
            go_wp2_with fail
            all_goals go_meet
            all_goals exact ⟨by simp [*],rfl⟩
           case rest=>
            obtain ⟨rfl,rfl⟩:=hcut;obtain ⟨b9,qh⟩:∃ b9,(b4 && (!pv.done || decide (o.call<pv.ret)))=b9:=⟨_,rfl⟩
            rw [qh];have e4:((yx l k (nth l k).p).isSome=true∧(((yx l k (nth l k).p).getD default).done=false∨(nth l k).call<((yx l k (nth l k).p).getD default).ret))↔b9=true:=by
             rw [ho,sD.out,sL.out,← qh];simp
            have E4:=zg e4;clear qh e4;cases b9 with
            | true =>
             go_wp2_with fail
             go_ret
             exact ⟨congrArg _ (congrArg _ (pA eX.out aD (by rw [UY,if_neg E1.out,if_neg E2.out,if_neg (by rw [E3.out];simp),if_pos (E4.out.mpr (by trivial))]) zc)),Zv (hb.trans (fS.mono az)) _⟩
            | false=>
             have hz:=Es eX.out aD (by rw [UY,if_neg E1.out,if_neg E2.out,if_neg (by rw [E3.out];simp),if_neg (fun h=>by have:=E4.out.1 h;cases this)]);have Hz:=zg hz;clear hz;have dI:=zg (show yx l (k+1)=fun p=>if p=o.p then some o else yx l k p by rw [Bh,ho]);have qQ:=mh.j8 C1;have qR:wb.heap.size≠w.heap.size:=by omega
             have wO:wb.heap.size≠wb.heap.size+1:=by omega
             have wP:=mg.j8 C1;cases la:o.done with
             | true=>
              rw [la] at x7;have Hr:=zg (DH aD (by rw [ho];exact la));have Ey:=zg la;clear la
              go_upto_region 28 with (at_mapUpdate;refine YG Yk Tryz.underlying118 (mh.drewN n) o.ret hI.2.2.2.2.2.2 (.agg #[]) rfl (.tmp 116) (.tmp 118) (.tmp 119) rfl rfl rfl rfl ?_;intro w3 wJ kG)
              have iL:w2.heap.size≤w3.heap.size:=kG.size;have D1:=(C1.drewN n).grown kG (by simpa using fun e=>qQ e.symm);have qN:=(mg.drewN n).grown kG zd;have qK:=(n4.drewN n).grown kG (by simpa using fun e=>qR e.symm);have dv:=(Zv (hb.trans (fS.mono az)) n).grown kG zy (by rintro k' ⟨⟩;omega);clear x0 x1 x2 x3 x4 x5 x6 x7 kG;obtain ⟨x0,x1,x2,x3,x4,x5,x6,x7⟩:=D1.op
              go_wp2_with (at_mapUpdate;refine YG Yk Tryz.underlying120 qN o.p hI.1 (.agg o.ah.toArray) rfl (.tmp 120) (.tmp 122) (.tmp 123) rfl rfl rfl rfl ?_;intro w4 qI gN)
              go_roundw
              case rel=>
               refine ⟨k+1,by omega,by go_num,qK.grown gN zy,?_,?_,dv.grown gN za (by rintro k' ⟨⟩;omega),by have:=gN.size;omega,Hz.out⟩
               ·rw [Hr.out,ho,← UC];exact wJ.grown gN zd
               ·rw [dI.out,← ur];exact qI
              case measure=>simp [intOf];omega
             | false=>
              rw [la] at x7;have Hr:=zg (CT aD (by rw [ho];exact la));have Hv:=zg (show (.agg o.ah.toArray:Value)=.agg #[.int .i64 o.p,.int .i64 o.k,.int .i64 o.key,.int .i64 o.arg,.int .i64 o.res,.int .i64 o.call,.int .i64 o.ret,.bool false] by simp [aj.ah,la]);clear la
              go_wp2_with (at_mapUpdate;refine YG Yk Tryz.underlying120 (mg.drewN n) o.p hI.1 (.agg #[.int .i64 o.p,.int .i64 o.k,.int .i64 o.key,.int .i64 o.arg,.int .i64 o.res,.int .i64 o.call,.int .i64 o.ret,.bool false]) rfl (.tmp 120) (.tmp 122) (.tmp 123) rfl rfl rfl rfl ?_;intro w4 qI gN)
              have iL:w2.heap.size≤w4.heap.size:=gN.size
              go_roundw
              case rel=>
               refine ⟨k+1,by omega,by go_num,(n4.drewN n).grown gN zy,?_,?_,(Zv (hb.trans (fS.mono az)) n).grown gN zy (by rintro k' ⟨⟩;omega),by omega,Hz.out⟩
               ·rw [Hr.out];exact ((mh.drewN n).grown gN zd).mono za
               ·rw [dI.out,← ur,Hv.out];exact qI
              case measure=>simp [intOf];omega
     ·go_wp2
      go_ret
      obtain rfl:k=l.length:=by omega
      have e:=eX.out;rw [Nat.sub_self] at e;exact ⟨by rw [← e];rfl,hb⟩
end
section
set_option maxRecDepth 100000
def sv:List (Nat×TS):=[
 (3,⟨.int .i64,1,8,[.int .i64 0]⟩),
 (4,⟨.bool,1,1,[.bool false]⟩),
 (1,⟨.any,1,8,[.ao]⟩),
 (2,⟨.int .i64,1,8,[.int .i64 0]⟩),
 (5,⟨.int .u8,1,1,[.int .u8 0]⟩),
 (6,⟨.int .u8,1,1,[.int .u8 0]⟩),
 (7,⟨.aw [(0,2),(1,3),(2,4),(3,6)],4,24,[.int .i64 0,.int .i64 0,.bool false,.int .u8 0]⟩),
 (8,⟨.aw [(0,2),(1,3),(2,4),(3,6)],4,24,[.int .i64 0,.int .i64 0,.bool false,.int .u8 0]⟩),
 (9,⟨.str,1,16,[.str ByteArray.empty]⟩),
 (10,⟨.str,1,16,[.str ByteArray.empty]⟩),
 (11,⟨.str,1,16,[.str ByteArray.empty]⟩),
 (12,⟨.int .u64,1,8,[.int .u64 0]⟩),
 (13,⟨.aw [(0,9),(1,12)],2,24,[.str ByteArray.empty,.int .u64 0]⟩),
 (14,⟨.aw [(0,9),(1,12)],2,24,[.str ByteArray.empty,.int .u64 0]⟩),
 (15,⟨.any,1,8,[.undef]⟩),
 (16,⟨.any,1,8,[.undef]⟩),
 (17,⟨.any,1,8,[.undef]⟩),
 (18,⟨.aw [(0,17)],1,8,[.undef]⟩),
 (19,⟨.aw [(0,17)],1,8,[.undef]⟩),
 (20,⟨.any,1,16,[.undef]⟩),
 (21,⟨.int .i32,1,4,[.int .i32 0]⟩),
 (22,⟨.slice 3,1,24,[.nil]⟩),
 (23,⟨.slice 77,1,24,[.nil]⟩),
 (24,⟨.slice 22,1,24,[.nil]⟩),
 (25,⟨.slice 31,1,24,[.nil]⟩),
 (26,⟨.aw [(0,23),(1,24),(2,25)],3,72,[.nil,.nil,.nil]⟩),
 (27,⟨.aw [(0,23),(1,24),(2,25)],3,72,[.nil,.nil,.nil]⟩),
 (28,⟨.aw [(0,3),(1,3),(2,3)],3,24,[.int .i64 0,.int .i64 0,.int .i64 0]⟩),
 (29,⟨.aw [(0,3),(1,3),(2,3)],3,24,[.int .i64 0,.int .i64 0,.int .i64 0]⟩),
 (30,⟨.aw [(0,29),(3,3)],4,32,[.int .i64 0,.int .i64 0,.int .i64 0,.int .i64 0]⟩),
 (31,⟨.aw [(0,29),(3,3)],4,32,[.int .i64 0,.int .i64 0,.int .i64 0,.int .i64 0]⟩),
 (32,⟨.slice 34,1,24,[.nil]⟩),
 (33,⟨.aw [(0,3),(1,3),(2,3),(3,3),(4,32)],5,56,[.int .i64 0,.int .i64 0,.int .i64 0,.int .i64 0,.nil]⟩),
 (34,⟨.aw [(0,3),(1,3),(2,3),(3,3),(4,32)],5,56,[.int .i64 0,.int .i64 0,.int .i64 0,.int .i64 0,.nil]⟩),
 (35,⟨.aw [(0,3),(1,3),(2,34)],7,72,[.int .i64 0,.int .i64 0,.int .i64 0,.int .i64 0,.int .i64 0,.int .i64 0,.nil]⟩),
 (36,⟨.aw [(0,3),(1,3),(2,34)],7,72,[.int .i64 0,.int .i64 0,.int .i64 0,.int .i64 0,.int .i64 0,.int .i64 0,.nil]⟩),
 (37,⟨.any,1,8,[.ao]⟩),
 (38,⟨.slice 61,1,24,[.nil]⟩),
 (39,⟨.aw [(0,22),(1,38)],2,48,[.nil,.nil]⟩),
 (40,⟨.aw [(0,22),(1,38)],2,48,[.nil,.nil]⟩),
 (41,⟨.any,1,8,[.ao]⟩),
 (42,⟨.aw [(0,3),(1,3),(2,3),(3,40)],5,72,[.int .i64 0,.int .i64 0,.int .i64 0,.nil,.nil]⟩),
 (43,⟨.aw [(0,3),(1,3),(2,3),(3,40)],5,72,[.int .i64 0,.int .i64 0,.int .i64 0,.nil,.nil]⟩),
 (44,⟨.int .i64,1,8,[.int .i64 0]⟩),
 (45,⟨.any,1,8,[.ao]⟩),
 (46,⟨.any,1,8,[.ao]⟩),
 (47,⟨.any,1,8,[.ao]⟩),
 (48,⟨.any,1,8,[.ao]⟩),
 (49,⟨.any,1,8,[.ao]⟩),
 (50,⟨.any,1,8,[.ao]⟩),
 (51,⟨.any,1,8,[.ao]⟩),
 (52,⟨.any,1,8,[.ao]⟩),
 (53,⟨.arr 3 3,3,24,[.int .i64 0,.int .i64 0,.int .i64 0]⟩),
 (54,⟨.any,1,8,[.ao]⟩),
 (55,⟨.any,1,8,[.ao]⟩),
 (56,⟨.any,1,8,[.ao]⟩),
 (57,⟨.any,1,8,[.ao]⟩),
 (58,⟨.any,1,8,[.ao]⟩),
 (59,⟨.slice 53,1,24,[.nil]⟩),
 (60,⟨.aw [(0,3),(1,3),(2,3)],3,24,[.int .i64 0,.int .i64 0,.int .i64 0]⟩),
 (61,⟨.aw [(0,3),(1,3),(2,3)],3,24,[.int .i64 0,.int .i64 0,.int .i64 0]⟩),
 (62,⟨.any,1,8,[.ao]⟩),
 (63,⟨.aw [(0,36),(7,27),(10,43)],15,216,[.int .i64 0,.int .i64 0,.int .i64 0,.int .i64 0,.int .i64 0,.int .i64 0,.nil,.nil,.nil,.nil,.int .i64 0,.int .i64 0,.int .i64 0,.nil,.nil]⟩),
 (64,⟨.aw [(0,36),(7,27),(10,43)],15,216,[.int .i64 0,.int .i64 0,.int .i64 0,.int .i64 0,.int .i64 0,.int .i64 0,.nil,.nil,.nil,.nil,.int .i64 0,.int .i64 0,.int .i64 0,.nil,.nil]⟩),
 (65,⟨.any,1,8,[.ao]⟩),
 (66,⟨.aw [(0,65),(1,65)],2,16,[.ao,.ao]⟩),
 (67,⟨.aw [(0,65),(1,65)],2,16,[.ao,.ao]⟩),
 (69,⟨.map 72 67,1,8,[.bW]⟩),
 (70,⟨.any,1,8,[.ao]⟩),
 (71,⟨.aw [(0,3),(1,3)],2,16,[.int .i64 0,.int .i64 0]⟩),
 (72,⟨.aw [(0,3),(1,3)],2,16,[.int .i64 0,.int .i64 0]⟩),
 (73,⟨.any,1,8,[.ao]⟩),
 (74,⟨.aw [(0,36),(7,27),(10,43)],15,216,[.int .i64 0,.int .i64 0,.int .i64 0,.int .i64 0,.int .i64 0,.int .i64 0,.nil,.nil,.nil,.nil,.int .i64 0,.int .i64 0,.int .i64 0,.nil,.nil]⟩),
 (75,⟨.aw [(0,36),(7,27),(10,43)],15,216,[.int .i64 0,.int .i64 0,.int .i64 0,.int .i64 0,.int .i64 0,.int .i64 0,.nil,.nil,.nil,.nil,.int .i64 0,.int .i64 0,.int .i64 0,.nil,.nil]⟩),
 (76,⟨.aw [(0,3),(1,3),(2,3),(3,3),(4,3),(5,3),(6,3),(7,4)],8,64,[.int .i64 0,.int .i64 0,.int .i64 0,.int .i64 0,.int .i64 0,.int .i64 0,.int .i64 0,.bool false]⟩),
 (77,⟨.aw [(0,3),(1,3),(2,3),(3,3),(4,3),(5,3),(6,3),(7,4)],8,64,[.int .i64 0,.int .i64 0,.int .i64 0,.int .i64 0,.int .i64 0,.int .i64 0,.int .i64 0,.bool false]⟩),
 (78,⟨.any,1,8,[.ao]⟩),
 (79,⟨.any,1,8,[.undef]⟩),
 (80,⟨.aw [(0,22),(1,3)],2,32,[.nil,.int .i64 0]⟩),
 (81,⟨.aw [(0,22),(1,3)],2,32,[.nil,.int .i64 0]⟩),
 (82,⟨.any,1,8,[.ao]⟩),
 (83,⟨.any,1,8,[.ao]⟩),
 (84,⟨.any,1,8,[.ao]⟩),
 (85,⟨.any,1,8,[.ao]⟩),
 (86,⟨.any,1,8,[.ao]⟩),
 (87,⟨.any,1,8,[.ao]⟩),
 (88,⟨.any,1,8,[.ao]⟩),
 (89,⟨.any,1,8,[.ao]⟩),
 (90,⟨.map 92 4,1,8,[.bW]⟩),
 (91,⟨.aw [(0,3),(1,3)],2,16,[.int .i64 0,.int .i64 0]⟩),
 (92,⟨.aw [(0,3),(1,3)],2,16,[.int .i64 0,.int .i64 0]⟩),
 (93,⟨.any,1,8,[.ao]⟩),
 (94,⟨.any,1,8,[.ao]⟩),
 (95,⟨.any,1,8,[.ao]⟩),
 (96,⟨.any,1,8,[.ao]⟩),
 (97,⟨.any,1,8,[.ao]⟩),
 (98,⟨.any,1,8,[.ao]⟩),
 (99,⟨.any,1,8,[.ao]⟩),
 (100,⟨.any,1,8,[.ao]⟩),
 (101,⟨.any,1,8,[.ao]⟩),
 (102,⟨.any,1,8,[.ao]⟩),
 (103,⟨.any,1,8,[.ao]⟩),
 (104,⟨.any,1,8,[.ao]⟩),
 (105,⟨.any,1,8,[.ao]⟩),
 (106,⟨.any,1,8,[.ao]⟩),
 (107,⟨.any,1,8,[.ao]⟩),
 (108,⟨.slice 4,1,24,[.nil]⟩),
 (109,⟨.any,1,8,[.ao]⟩),
 (110,⟨.slice 114,1,24,[.nil]⟩),
 (111,⟨.any,1,8,[.ao]⟩),
 (112,⟨.any,1,8,[.ao]⟩),
 (113,⟨.aw [(0,3),(1,4),(2,3)],3,24,[.int .i64 0,.bool false,.int .i64 0]⟩),
 (114,⟨.aw [(0,3),(1,4),(2,3)],3,24,[.int .i64 0,.bool false,.int .i64 0]⟩),
 (115,⟨.any,1,8,[.ao]⟩),
 (116,⟨.any,1,8,[.ao]⟩),
 (117,⟨.any,1,8,[.ao]⟩),
 (118,⟨.map 3 119,1,8,[.bW]⟩),
 (119,⟨.aw [],0,0,[]⟩),
 (120,⟨.map 3 77,1,8,[.bW]⟩),
 (123,⟨.any,1,8,[.ao]⟩),
 (124,⟨.any,1,8,[.ao]⟩),
 (125,⟨.any,1,8,[.ao]⟩),
 (126,⟨.any,1,8,[.ao]⟩),
 (127,⟨.any,1,8,[.ao]⟩),
 (128,⟨.any,1,8,[.ao]⟩),
 (129,⟨.map 3 130,1,8,[.bW]⟩),
 (130,⟨.map 3 4,1,8,[.bW]⟩),
 (131,⟨.any,1,8,[.ao]⟩),
 (132,⟨.any,1,8,[.ao]⟩),
 (133,⟨.slice 96,1,24,[.nil]⟩),
 (134,⟨.any,1,8,[.ao]⟩),
 (135,⟨.any,1,8,[.ao]⟩),
 (136,⟨.any,1,8,[.ao]⟩),
 (137,⟨.map 3 3,1,8,[.bW]⟩),
 (138,⟨.any,1,8,[.ao]⟩),
 (139,⟨.any,1,8,[.ao]⟩),
 (140,⟨.any,1,8,[.ao]⟩),
 (141,⟨.any,1,8,[.ao]⟩),
 (142,⟨.any,1,8,[.ao]⟩),
 (143,⟨.any,1,8,[.ao]⟩),
 (145,⟨.any,1,8,[.ao]⟩),
 (146,⟨.any,1,8,[.ao]⟩),
 (147,⟨.any,1,8,[.ao]⟩),
 (148,⟨.any,1,8,[.ao]⟩),
 (149,⟨.any,1,8,[.ao]⟩),
 (150,⟨.any,1,8,[.ao]⟩),
 (151,⟨.any,1,8,[.ao]⟩),
 (152,⟨.any,1,8,[.ao]⟩),
 (153,⟨.any,1,8,[.ao]⟩),
 (154,⟨.any,1,8,[.ao]⟩),
 (155,⟨.any,1,8,[.ao]⟩),
 (156,⟨.any,1,8,[.ao]⟩),
 (157,⟨.any,1,8,[.ao]⟩),
 (158,⟨.slice 108,1,24,[.nil]⟩),
 (159,⟨.any,1,8,[.ao]⟩),
 (160,⟨.any,1,8,[.ao]⟩),
 (161,⟨.any,1,8,[.ao]⟩),
 (162,⟨.any,1,8,[.ao]⟩),
 (163,⟨.any,1,8,[.ao]⟩),
 (164,⟨.any,1,8,[.ao]⟩),
 (165,⟨.aw [(0,17),(1,17),(2,17),(3,9)],4,40,[.undef,.undef,.undef,.str ByteArray.empty]⟩),
 (166,⟨.aw [(0,17),(1,17),(2,17),(3,9)],4,40,[.undef,.undef,.undef,.str ByteArray.empty]⟩),
 (167,⟨.arr 0 16,0,0,[]⟩),
 (170,⟨.any,1,8,[.ao]⟩),
 (171,⟨.int .u32,1,4,[.int .u32 0]⟩),
 (172,⟨.int .u8,1,1,[.int .u8 0]⟩),
 (173,⟨.int .u8,1,1,[.int .u8 0]⟩),
 (174,⟨.any,1,8,[.ao]⟩),
 (175,⟨.any,1,8,[.undef]⟩),
 (176,⟨.int .i32,1,4,[.int .i32 0]⟩),
 (177,⟨.int .i32,1,4,[.int .i32 0]⟩),
 (178,⟨.aw [(0,12),(1,12),(2,171),(3,172),(4,5),(5,5),(6,173),(7,174),(8,175),(9,176),(10,177)],11,48,[.int .u64 0,.int .u64 0,.int .u32 0,.int .u8 0,.int .u8 0,.int .u8 0,.int .u8 0,.ao,.undef,.int .i32 0,.int .i32 0]⟩),
 (179,⟨.aw [(0,12),(1,12),(2,171),(3,172),(4,5),(5,5),(6,173),(7,174),(8,175),(9,176),(10,177)],11,48,[.int .u64 0,.int .u64 0,.int .u32 0,.int .u8 0,.int .u8 0,.int .u8 0,.int .u8 0,.ao,.undef,.int .i32 0,.int .i32 0]⟩)]
def oY (T:Nat):TS:=look {} sv T
theorem DS:sv.all (fun p=>match p.2.k with|.other=>true|_=>Xc Tryz.prog p.1 p.2)=true:=by kernel_rfl
theorem uW {α:Type} {d:α} {q:Nat→α→Bool} (hd:∀ T,q T d=true):∀ (l:List (Nat×α)),l.all (fun p=>q p.1 p.2)=true→∀ T,q T (look d l T)=true
 | [], _, T => hd T
 | (i, a) :: l, h, T => by
  rw [Xj,zA] at h;rw [zC];split
  ·rename_i e;subst e;exact h.1
  ·exact uW hd l h.2 T
theorem pz (T:Nat):(match (oY T).k with|.other=>true|_=>Xc Tryz.prog T (oY T))=true:=
 uW (q:=fun T ts=>match ts.k with|.other=>true|_=>Xc Tryz.prog T ts) (fun _=>rfl) sv DS T
theorem WM:Tryz.prog.follows .mixedOrders=true:=by kernel_rfl
def pO (P:Program) (h1:∀ T,(match (oY T).k with|.other=>true|_=>Xc P T (oY T))=true) (h2:P.follows .mixedOrders=true) (N:Nat):Ctx:=⟨P,N,oY,h1,h2⟩
theorem zt (N:Nat) {f:Nat} {code:Code} {m:fI} {res:FV} (h1:Tryz.prog.funcs[f]? = some fn) (h3:fn.ntmps=N) (hh:res.hand=none) (h:FW (pO Tryz.prog pz WM N) code (fun e s=>(e=.ret∨e=.normal)∧ki (pO Tryz.prog pz WM N) fn s m res) (entry args)) (h2:fn.body=some code:=by exact rfl) (h4:oX Tryz.prog f=true:=by kernel_rfl) (hn:∀ f∈args,f.hand=none:=by simp [FV.hand]) (hl:args.length≤N:=by exact yt rfl):zX Tryz.prog f args m res:=.kQ (c:=pO Tryz.prog pz WM N) ⟨h1,h2,h3,h4⟩ hn hl hh h
end
section
open Go.RowKit
structure gz {α:Type} (sz:Nat) (ah:α→List Value) (fv:α→List FV):Prop where
 rd:∀ w I x,ay w I (ah x) (fv x)
 inv:∀ w I us x,ay w I us (fv x)→us=ah x
 wide:∀ x,(fv x).length=sz
 one:∀ x,∀ f∈fv x,f.one=true
 flat:∀ x,FV.flat.cX (fv x)=true
section
variable {α:Type} {sz:Nat} {ah:α→List Value} {fv:α→List FV}
theorem gz.gJ (T:gz sz ah fv) (w:World) (I:Nat→Prop):∀ l:List α,ay w I (YtedkppfghdipdaaGreatDoor.flat ah l) (l.map fv).flatten
 | [] => ay.nil
 | x :: l => by
  simp only [YtedkppfghdipdaaGreatDoor.flat,xO,yn,yM];exact (T.rd w I x).append (T.gJ w I l)
theorem gz.hL (T:gz sz ah fv) (w:World) (I:Nat→Prop):∀ (l:List α) (us:List Value),ay w I us (l.map fv).flatten→us=YtedkppfghdipdaaGreatDoor.flat ah l
 | [], us, h => by have := h.1; simpa [YtedkppfghdipdaaGreatDoor.flat] using this
 | x :: l, us, h => by
  have h':=h;simp only [yn,yM] at h;have hl:=T.wide x;have h1:=h.take sz;have h2:=h.drop sz;rw [List.take_left' hl] at h1;rw [List.drop_left' hl] at h2;have e1:=T.inv w I _ x h1;have e2:=T.hL w I l _ h2;simp only [YtedkppfghdipdaaGreatDoor.flat,xO];rw [← e1,show List.flatMap ah l=YtedkppfghdipdaaGreatDoor.flat ah l from rfl,← e2,List.take_append_drop]
theorem gz.lK (T:gz sz ah fv) (l:List α):∀ e∈l.map fv,e.length=sz:=fun e he=>by
 obtain ⟨x,_,rfl⟩:=zL.1 he;exact T.wide x
theorem gz.oI (T:gz sz ah fv) (l:List α):∀ f∈(l.map fv).flatten,f.one=true:=fun f hf=>by
 obtain ⟨e,he,kn⟩:=yE.1 hf;obtain ⟨x,_,rfl⟩:=zL.1 he;exact T.one x f kn
theorem gz.to (T:gz sz ah fv) {A:Option Addr} {l:List α} {c:Nat} (h:Sl ah w B A l) (hc:l.length≤c):Rd w (fun b=>b<B) (.slice A l.length c) (.list sz (l.map fv)):=by
 have hR:=T.gJ w (fun b=>b<B) l;refine .list A l.length c sz _ (YtedkppfghdipdaaGreatDoor.flat ah l) zd hc (T.lK l) (T.oI l) (fun h0=>?_) hR.1 hR.2;obtain ⟨b,off,ha,hb,aU⟩:=h (fun e=>h0 (by rw [e];rfl));exact ⟨b,off,ha,hb,aU⟩
theorem gz.of (T:gz sz ah fv) {l:List α} (h:Rd w I v (.list sz (l.map fv))) (hI:∀ b,I b→b<B):∃ A c,v=.slice A l.length c∧l.length≤c∧Sl ah w B A l:=by
 cases h with
 | list A n c sz es us hn hc he ho hA hl hr =>
  rw [zU] at hn;subst hn;have:=T.hL w I l us ⟨hl,hr⟩;subst this;refine ⟨A,c,rfl,hc,fun aZ=>?_⟩;obtain ⟨b,off,ha,hb,aU⟩:=hA (by simpa using aZ);exact ⟨b,off,ha,hI b hb,aU⟩
theorem gz.res (T:gz sz ah fv) {w' : World} {l:List α} (h:w'.ownsRow w.heap.size E sz v l.length (YtedkppfghdipdaaGreatDoor.flat ah l)):oP w w' I (.ow E sz) v (.list sz (l.map fv)):=
 ⟨_,_,rfl,T.lK l,T.oI l,by rw [zU];exact h,T.gJ _ _ l⟩
end
theorem Rd.aV {k:IntKind} {n:Int} (h:Rd w I v (.int k n)):v=.int k n:=by cases h;rfl
theorem Rd.fO {b:Bool} (h:Rd w I v (.bool b)):v=.bool b:=by cases h;rfl
theorem ay.cons_inv (h:ay w I us (f::fs)):∃ u vs,us=u::vs∧Rd w I u f∧ay w I vs fs:=by
 cases us with
 | nil => have := h.1; simp at this
 | cons u vs => exact ⟨u, vs, rfl, h.2 0 u f rfl rfl, by have := h.1; simpa using this, fun j u' f' hu hf => h.2 (j+1) u' f' (by simpa using hu) (by simpa using hf)⟩
theorem ay.dE (h:ay w I us []):us=[]:=by have:=h.1;simpa using this
theorem ay.inv1 (h:ay w I vs [f0]):∃ u0,vs=[u0]∧Rd w I u0 f0:=by
 obtain ⟨u0,r0,rfl,e0,h0⟩:=h.cons_inv;have:=h0.dE;subst this;exact ⟨u0,rfl,e0⟩
theorem ay.inv2 {f1:FV} (h:ay w I vs [f0,f1]):∃ u0 u1,vs=[u0,u1]∧Rd w I u0 f0∧Rd w I u1 f1:=by
 obtain ⟨u0,r0,rfl,e0,h0⟩:=h.cons_inv;obtain ⟨u1,r1,rfl,e1,h1⟩:=h0.cons_inv;have:=h1.dE;subst this;exact ⟨u0,u1,rfl,e0,e1⟩
theorem ay.rm {f1 f2 f3:FV} (h:ay w I vs [f0,f1,f2,f3]):∃ u0 u1 u2 u3,vs=[u0,u1,u2,u3]∧Rd w I u0 f0∧Rd w I u1 f1∧Rd w I u2 f2∧Rd w I u3 f3:=by
 obtain ⟨u0,r0,rfl,e0,h0⟩:=h.cons_inv;obtain ⟨u1,r1,rfl,e1,h1⟩:=h0.cons_inv;obtain ⟨u2,r2,rfl,e2,h2⟩:=h1.cons_inv;obtain ⟨u3,r3,rfl,e3,h3⟩:=h2.cons_inv;have:=h3.dE;subst this;exact ⟨u0,u1,u2,u3,rfl,e0,e1,e2,e3⟩
def Zc (x:Int):List FV:=[.int .i64 x]
theorem oW:gz 1 YK Zc where
 rd w I x:=ay.cons (.int _ _) .nil
 inv w I us x h:=by
  obtain ⟨u,vs,rfl,h1,h2⟩:=h.cons_inv;rw [h1.aV,h2.dE];rfl
 wide x:=rfl
 one x f hf:=by simp [Zc] at hf;subst hf;rfl
 flat x:=rfl
def aj.fv (o:aj):List FV:=[.int .i64 o.p,.int .i64 o.k,.int .i64 o.key,.int .i64 o.arg,.int .i64 o.res,.int .i64 o.call,.int .i64 o.ret,.bool o.done]
theorem mG:gz 8 aj.ah aj.fv where
 rd w I x:=ay.cons (.int _ _) <| ay.cons (.int _ _) <| ay.cons (.int _ _) <| ay.cons (.int _ _) <| ay.cons (.int _ _) <| ay.cons (.int _ _) <| ay.cons (.int _ _) <| ay.cons (.bool _) .nil
 inv w I us x h:=by
  obtain ⟨_,_,rfl,h1,h⟩:=h.cons_inv;obtain ⟨_,_,rfl,h2,h⟩:=h.cons_inv;obtain ⟨_,_,rfl,h3,h⟩:=h.cons_inv;obtain ⟨_,_,rfl,h4,h⟩:=h.cons_inv;obtain ⟨_,_,rfl,h5,h⟩:=h.cons_inv;obtain ⟨_,_,rfl,h6,h⟩:=h.cons_inv;obtain ⟨_,_,rfl,h7,h⟩:=h.cons_inv;obtain ⟨_,_,rfl,h8,h⟩:=h.cons_inv;rw [h1.aV,h2.aV,h3.aV,h4.aV,h5.aV,h6.aV,h7.aV,h8.fO,h.dE];rfl
 wide x:=rfl
 one x f hf:=by simp [aj.fv] at hf;rcases hf with rfl|rfl|rfl|rfl|rfl|rfl|rfl|rfl <;> rfl
 flat x:=rfl
theorem zX.law {P:Program} {f:Nat} (h:zX P f args .fr (.bool true)) (hv:ay w (fun b=>b<w.heap.size) vs args):Calls P f vs.toArray w fun e w'=>e=.returned (.bool true)∧Below w.heap.size w w':=by
 refine (h.calls w _ vs (fun b hb=>hb) hv).mono ?_;rintro e w' ⟨v,rfl,hb,hr⟩;have wX : Rd w' _ v (.bool true):=hr;rw [wX.fO];exact ⟨rfl,hb⟩
theorem vy {id aa:Nat} (hr:fn.results.toList=[.tmp d]) (h:look .undef t d=.own id aa 0 n) (hb:look {} ob id=⟨aa,.own,E,sz,es⟩) (hn:n=es.length) (hp:0<sz) (e:es=aY)
  (hf:∀ e∈aY,FV.flat.cX e=true):ki c fn ⟨t,ob⟩ (.ow E sz) (.list sz aY):=by
 subst e;have bP : (⟨t,ob⟩:ab).ob id=⟨aa,.own,E,sz,es⟩:=hb;have:=ki.ow (c:=c) (fn:=fn) (s:=⟨t,ob⟩) hr h (by rw [bP]) (by rw [bP]) (by rw [bP];exact hn) (by rw [bP];exact hp) (by rw [bP];exact hf);rw [bP] at this;exact this
theorem zm {s:ab} {f' : FV} (hr:fn.results.toList=[.tmp d]) (h:s.get d=f) (e:f=f') (hf:f'.flat=true):ki c fn s .fr f':=by
 subst e;exact .flat (fs:=[f]) (by rw [hr];exact .cons (.tmp d h (FV.ix hf)) .nil) rfl hf
end
theorem YX {l:List aj}:∀ {k:Nat} {p:Int} {o:aj},yx l k p=some o→∃ m,m<k∧nth l m=o∧o.p=p
 | 0, _, _, h => by simp [yx] at h
 | k+1,p,o,h=>by
  simp only [yx] at h;split at h
  ·rename_i hp;injection h with h
   exact ⟨k,by omega,h,by rw [← h,hp]⟩
  ·obtain ⟨m,h1,h2⟩:=YX h;exact ⟨m,by omega,h2⟩
theorem Wq {l:List aj} {k:Nat} {f:aj→Bool} (h:(l.take k).any f=true):∃ m,m<k∧m<l.length∧f (nth l m)=true:=by
 obtain ⟨o,ho,hf⟩:=yY.1 h;obtain ⟨m,hm,rfl⟩:=yr ho;have qH : m<k∧m<l.length:=by simp at hm;omega
 refine ⟨m,qH.1,qH.2,?_⟩;rw [yq qH.2];simpa using hf
theorem Yi {l:List aj}:∀ (n k:Nat),(∀ j,k≤j→j<k+n→UY l j=0)→zR l k n=0
 | 0, _, _ => rfl
 | n+1, k, h => by
  rw [XD (h k (zf _) za)];exact Yi n (k+1) fun j h1 h2=>h j za za
theorem ux {k:Nat} {f:Nat→Bool}:(List.range k).any f=true↔∃ j,j<k∧f j=true:=by
 rw [yY];constructor
 ·rintro ⟨j,hj,h⟩;exact ⟨j,by simpa using hj,h⟩
 ·rintro ⟨j,hj,h⟩;exact ⟨j,by simpa using hj,h⟩
theorem uM {l:List aj} {k:Nat} {f:aj→Bool} (hk:k≤l.length):(l.take k).any f=true↔∃ j,j<k∧f (nth l j)=true:=by
 constructor
 ·intro h;obtain ⟨m,h1,_,h3⟩:=Wq h;exact ⟨m,h1,h3⟩
 ·rintro ⟨j,hj,h⟩;refine yY.2 ⟨nth l j,?_,h⟩;rw [yq za];exact List.mem_take_iff_getElem.2 ⟨j,by omega,rfl⟩
theorem Ef {l:List aj} {f:aj→Bool}:l.any f=true↔∃ j,j<l.length∧f (nth l j)=true:=by
 have:=uM (l:=l) (k:=l.length) (f:=f) (zf _);rwa [ZK] at this
section
open Go.RowKit
def yp (n ae:Int):Int:=(if n<0 then -(n+1) else n) % ae
theorem xX {n:Int} (h:0<ae):0≤yp n ae:=UK _ za
theorem Zr {n:Int} (h:0<ae):yp n ae<ae:=UJ _ h
theorem yB (n ae:Int) (w:World) (hn:aT n) (h1:1≤ae) (h2:ae≤4611686018427387904) :
  Calls Tryz.prog 6 #[.int .i64 n,.int .i64 ae] w fun e w'=>e=.returned (.int .i64 (yp n ae))∧w=w':=by
 unfold aT at hn;obtain ⟨g1,g2⟩:=hn;by_cases n9:n<0
 ·have e:yp n ae=(-(n+1)) % ae:=by simp [yp,n9]
  rw [e];clear e
  go_enter Tryz.func6,Tryz.ntmps6
  go_wp2
  go_ret
  have e2:-(n+1).tmod ae=(-(n+1)) % ae:=by rw [← Int.neg_tmod,Int.tmod_eq_emod_of_nonneg za]
  exact ⟨by simp [e2],rfl⟩
 ·have e:yp n ae=n % ae:=by simp [yp,n9]
  rw [e];clear e
  go_enter Tryz.func6,Tryz.ntmps6
  go_wp2
  go_ret
  exact ⟨rfl,rfl⟩
theorem Bn (n ae:Int) (hn:aT n) (h1:1≤ae) (h2:ae≤4611686018427387904):zX Tryz.prog 6 [.int .i64 n,.int .i64 ae] .fr (.int .i64 (yp n ae)) where
 go:=by kernel_rfl
 hand:=rfl
 calls w I vs hI hv:=by
  obtain ⟨_,_,rfl,e1,e2⟩:=hv.inv2;rw [e1.aV,e2.aV];refine (yB n ae w hn h1 h2).mono ?_;rintro e w' ⟨rfl,rfl⟩;exact ⟨_,rfl,zQ _ _,.int _ _⟩
theorem By (l:List aj) (cA:∀ o∈l,gy o) (hlen:l.length≤1000000000):zX Tryz.prog 36 [.list 8 (l.map aj.fv)] .fr (.int .i64 (xm l)) where
 go:=by kernel_rfl
 hand:=rfl
 calls w I vs hI hv:=by
  obtain ⟨_,rfl,e1⟩:=hv.inv1;obtain ⟨A,c,rfl,_,hs⟩:=mG.of e1 hI;refine (BJ A c l w hs cA hlen).mono ?_;rintro e w' ⟨rfl,hb⟩;exact ⟨_,rfl,hb,.int _ _⟩
end
section
set_option maxRecDepth 100000
open Go.ChangeShapes Go.WideShapes Go.ChangeAt Go.RowKit Go.Deep
theorem Yj (h:(Lit.int .i64 x).wf=true):aT x:=by
 simp [Lit.wf,IntKind.min,IntKind.max,IntKind.signed,IntKind.bits] at h;unfold aT;omega
section
variable {H:Type} {enc:TypeId×Value→H} {W:World} {base:Nat} {spare:Nat→Bool} {held:Bool} {v:Value} {d:DataW H} {p:List MemPlace} {r:Reach} {b0:Nat}
theorem DQ {a:Addr} {u:Value} (h:w.cell? a=some u):a=⟨a.block,a.off,none⟩:=by
 obtain ⟨b,o,s⟩:=a;cases s with
 | none => rfl
 | some s =>
  unfold World.cell? at h;simp only [WX,if_true] at h;split at h <;> cases h
theorem Dg (a:Addr) (h:a=⟨a.block,a.off,none⟩) (n:Nat):a.add n=⟨a.block,a.off+n,none⟩:=by
 obtain ⟨b,o,s⟩:=a;obtain rfl:s=none:=by injection h
 unfold Addr.add;split
 ·subst n;rfl
 ·rfl
theorem Dc (ht:Tryz.prog.underlying 3=some (.int .i64)) (hv:Value.okWide Tryz.prog W r b0 3 v) (h:DataW.Trod enc Tryz.prog W base spare held 3 v d p):∃ x,v=.int .i64 x∧aT x:=by
 obtain ⟨x,rfl,_,_,wx⟩:=open_int ht hv h;exact ⟨x,rfl,Yj wx⟩
theorem DG (hv:Value.okWide Tryz.prog W r b0 22 v) (h:DataW.Trod enc Tryz.prog W base spare held 22 v d p) :
  ∃ A c l,v=.slice A l.length c∧Sl YK W W.heap.size A l∧(∀ x∈l,aT x)∧l.length≤9223372036854775807:=by
 obtain ⟨a0,iM,pT,rfl⟩:=okWide_slice Tryz.underlying22 hv;obtain ⟨fuel,hf⟩:=h;rcases open_ints Tryz.underlying22 Tryz.underlying3 zp hf with ⟨bj,_⟩|⟨x,l,c,zs,bj,_,hl,hm,hz,_,aU,tP⟩
 ·simp [Value.cells] at bj;obtain ⟨rfl,rfl,rfl⟩:=bj;exact ⟨none,0,[],rfl,Sl.rr _ _ _ _,by simp,zN _⟩
 ·simp [Value.cells] at bj;obtain ⟨rfl,rfl,rfl⟩:=bj;have EU:iM≤zs.length:=by rw [hz];split <;> omega
  have hlen:(zs.take iM).length=iM:=by simp;omega
  refine ⟨some x,pT,zs.take iM,by rw [hlen],fun aZ=>?_,fun y hy=>Yj (tP y (yN hy)),by unfold maxLen at hm;omega⟩;have h0:0<iM:=by
   rcases ZM iM with e|e
   ·subst e;simp at aZ
   ·exact e
  have qk:=aU 0 za;rw [show x.add 0=x by simp [Addr.add]] at qk;have hs:=DQ qk;refine ⟨x.block,x.off,by rw [← hs],World.block_lt_of_cell? W x qk,fun j u hu=>?_⟩;rw [ui,xy,yD] at hu;split at hu
  ·have hj:j<zs.length:=by omega
   have:=aU j hj;rw [Dg x hs] at this;rw [this];simpa [hj] using hu
  ·simp at hu
end
section
variable {H:Type} {enc:TypeId×Value→H} {W:World} {base:Nat} {spare:Nat→Bool} {held:Bool} {v:Value} {d:DataW H} {p:List MemPlace} {r:Reach} {b0:Nat}
theorem Bz {t e:TypeId} (ht:Tryz.prog.underlying t=some (.array n e)) (h:Value.okWide Tryz.prog W r b0 t v):∃ cs,v=.agg cs∧cs.size=Tryz.prog.cellsOf t:=by
 simp only [Value.okWide,ht] at h;obtain ⟨cs,h1,h2,_⟩:=h;exact ⟨cs,h1,h2⟩
set_option maxRecDepth 10000 in
theorem DF (hv:Value.okWide Tryz.prog W r b0 53 v) (h:DataW.Trod enc Tryz.prog W base spare held 53 v d p) :
  ∃ x y z,v=.agg #[.int .i64 x,.int .i64 y,.int .i64 z]∧aT x∧aT y∧aT z:=by
 obtain ⟨cs,rfl,az⟩:=Bz Tryz.underlying53 hv;have hC:Tryz.prog.cellsOf 53=3:=by kernel_rfl
 have k1:Tryz.prog.cellsOf 3=1:=by kernel_rfl
 rw [hC] at az;obtain ⟨cs⟩:=cs
 match cs,az with
 | [c0,c1,c2],_=>
  obtain ⟨fuel,hf⟩:=h;obtain ⟨xs,m,_,_,_,Aj,hg⟩:=DataW.trod_array Tryz.underlying53 hf
  match xs,Aj with
  | [y0, y1, y2], _ =>
   have g0:DataW.trod enc Tryz.prog W base spare held m 3 [c0]=some y0:=by simpa [Value.cells,k1] using hg 0 za
   have g1:DataW.trod enc Tryz.prog W base spare held m 3 [c1]=some y1:=by simpa [Value.cells,k1] using hg 1 za
   have g2:DataW.trod enc Tryz.prog W base spare held m 3 [c2]=some y2:=by simpa [Value.cells,k1] using hg 2 za
   obtain ⟨n0,e0,_,w0⟩:=UI Tryz.underlying3 g0;obtain ⟨n1,e1,_,w1⟩:=UI Tryz.underlying3 g1;obtain ⟨n2,e2,_,w2⟩:=UI Tryz.underlying3 g2;injection e0 with e0;injection e1 with e1;injection e2 with e2
   subst e0 e1 e2;exact ⟨n0,n1,n2,rfl,Yj w0,Yj w1,Yj w2⟩
end
section
variable {H:Type} {enc:TypeId×Value→H} {W:World} {base:Nat} {spare:Nat→Bool} {held:Bool} {v:Value} {d:DataW H} {p:List MemPlace} {r:Reach} {b0:Nat}
theorem DY (hv:Value.okWide Tryz.prog W r b0 22 v) (h:DataW.Trod enc Tryz.prog W base spare held 22 v d p) :
  ∃ l:List Int,Rd W (fun b=>b<W.heap.size) v (.list 1 (l.map Zc))∧(∀ x∈l,aT x)∧l.length≤9223372036854775807:=by
 have h':=h;obtain ⟨A,c,l,rfl,s,i,m⟩:=DG hv h;refine ⟨l,?_,i,m⟩;obtain ⟨fuel,hf⟩:=h';rcases open_ints Tryz.underlying22 Tryz.underlying3 zp hf with ⟨bj,_⟩|⟨x,l',c',zs,bj,_,hl,hm,hz,_,aU,tP⟩
 ·simp [Value.cells] at bj;obtain ⟨rfl,h0,rfl⟩:=bj;exact oW.to s (by simp [h0])
 ·simp [Value.cells] at bj;obtain ⟨rfl,h0,rfl⟩:=bj;exact oW.to s za
theorem sa (hv:Value.okWide Tryz.prog W r b0 3 v) (h:DataW.Trod enc Tryz.prog W base spare held 3 v d p):∃ x:Int,Rd W (fun b=>b<W.heap.size) v (.int .i64 x)∧aT x:=by
 obtain ⟨x,rfl,i⟩:=Dc Tryz.underlying3 hv h;exact ⟨x,.int _ _,i⟩
theorem DX (hv:Value.okWide Tryz.prog W r b0 53 v) (h:DataW.Trod enc Tryz.prog W base spare held 53 v d p) :
  ∃ x y z:Int,Rd W (fun b=>b<W.heap.size) v (.agg [.int .i64 x,.int .i64 y,.int .i64 z])∧aT x∧aT y∧aT z:=by
 obtain ⟨x,y,z,rfl,i,j,k⟩:=DF hv h;have:=(ay.cons (Rd.int .i64 x) <| ay.cons (Rd.int .i64 y) <| ay.cons (Rd.int .i64 z) ay.nil:ay W (fun b=>b<W.heap.size) [.int .i64 x,.int .i64 y,.int .i64 z] _)
 exact ⟨x,y,z,.agg _ _ this.1 this.2,i,j,k⟩
end
end
end Go.Proofs.YtedkppfghdipdaaGreatDoor
