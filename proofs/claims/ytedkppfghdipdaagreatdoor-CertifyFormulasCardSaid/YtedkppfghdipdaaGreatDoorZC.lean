/-
  Lemmas, in parts.
-/
import Derived.Test.YtedkppfghdipdaaGreatDoorZFmM
import Derived.Test.YtedkppfghdipdaaGreatDoorZA
import Derived.Test.YtedkppfghdipdaaGreatDoorProg
import Derived.KernelRfl
import Derived.Maps.OwnSet
import Derived.DeepKeys4
import Derived.Deep.RegionHeld3
import Derived.Deep.DrawnRows
import Derived.Deep.DeepCutAuto
import Derived.Test.YtedkppfghdipdaaGreatDoorZBxxx
import Derived.ProofKit
import Derived.OpenShut
import Derived.ShutString
import Derived.ChangeOld
import Derived.Below
import Derived.Deep.Slices
import Derived.Deep.Fields
import Derived.ChangeSame
namespace Go.Proofs.YtedkppfghdipdaaGreatDoor
set_option linter.unusedVariables false
set_option maxHeartbeats 16000000
variable {B E N base d f i n o:Nat} {u v z:Value} {w w0:World} {ex ks:List Nat} {g:Nat→Nat} {I:Nat→Prop} {β:Nat→Option Nat} {s:ae} {J:JJ} {a:Act} {us vs:List Value} {c:Ctx} {fn:Func} {code:Code} {xs:List Operand} {κ:Type} {ops:Array Oper} {rest:List Oper} {Q:Exit→Act→World→Prop} {X aV x:Int}
section
open Go.RowKit
structure bJ where
 new:Nat
 src:Option Nat
 vo:Nat
 b:zL
inductive UY (M:List bJ):FV→FV→Prop where
 | plain {f f' : FV} (hn:f.hand=none) (e:f=f'):UY M f f'
 | own {i i' v v' o o' n n' : Nat} {b:zL} (hm:(⟨i', some i, v, b⟩:bJ) ∈ M) (hv:b.aa=v') (eo:o=o') (e:n=n'):UY M (.own i v o n) (.own i' v' o' n')
 | ptr {i i' v v' j o:Nat} {b:zL} (hm:(⟨i', some i, v, b⟩:bJ) ∈ M) (hv:b.aa=v'):UY M (.ptr i v j o) (.ptr i' v' j o)
 | nil {i' vo v' : Nat} {b:zL} (hm:(⟨i', none, vo, b⟩:bJ) ∈ M) (hv:b.aa=v'):UY M .nil (.own i' v' 0 0)
 | cV {sz:Nat}:UY M .nil (.list sz [])
 | omap {i i' v v' : Nat} {b:zL} (hm:(⟨i', some i, v, b⟩:bJ) ∈ M) (hv:b.aa=v'):UY M (.omap i v) (.omap i' v')
 | gz {k:Wk} {fs dH : List FV} (hl:fs.length=dH.length) (h:∀ (j:Nat) f f', fs[j]? = some f → dH[j]? = some f' → UY M f f'):UY M (.wrap k fs) (.wrap k dH)
inductive Ve (M:List bJ):List FV→List FV→Prop where
 | nil:Ve M [] []
 | cons {f f' : FV} {fs dH : List FV} (h:UY M f f') (hs:Ve M fs dH):Ve M (f :: fs) (f' :: dH)
theorem Ve.get {M:List bJ} {fs dH : List FV} (h:Ve M fs dH):fs.length=dH.length∧∀ (j:Nat) f f',fs[j]? = some f→dH[j]? = some f'→UY M f f':=by
 induction h with
 | nil => exact ⟨rfl, by simp⟩
 | cons h hs ih =>
  refine ⟨by simp [ih.1],fun j f f' hf bH=>?_⟩;cases j with
  | zero => simp at hf bH; subst hf; subst bH; exact h
  | succ j => exact ih.2 j f f' (by simpa using hf) (by simpa using bH)
theorem UY.wrap {M:List bJ} {k:Wk} {fs dH : List FV} (h:Ve M fs dH):UY M (.wrap k fs) (.wrap k dH):=.gz h.get.1 h.get.2
inductive nI (M:List bJ):List (List FV)→List (List FV)→Prop where
 | nil:nI M [] []
 | cons {f f' : FV} {es aZ : List (List FV)} (h:UY M f f') (hs:nI M es aZ):nI M ([f] :: es) ([f'] :: aZ)
theorem nI.len {M:List bJ} {es aZ : List (List FV)} (h:nI M es aZ):es.length=aZ.length∧es.flatten.length=aZ.flatten.length∧(∀ e∈aZ,e.length=1)∧∀ (j:Nat) f f',es.flatten[j]? = some f→aZ.flatten[j]? = some f'→UY M f f':=by
 induction h with
 | nil => exact ⟨rfl, rfl, by simp, by simp⟩
 | cons h hs ih=>
  obtain ⟨h1,h2,h3,h4⟩:=ih;refine ⟨by simp [h1],by simpa using h2,fun e he=>?_,fun j f f' hf bH=>?_⟩
  ·rcases zT.1 he with rfl|he
   ·rfl
   ·exact h3 e he
  ·cases j with
   | zero => simp at hf bH; subst hf; subst bH; exact h
   | succ j => simp at hf bH; exact h4 j f f' (by simpa using hf) (by simpa using bH)
def kv (M:List bJ) (sz:Nat) (es aZ : List (List FV)):Prop:=es.length=aZ.length∧es.flatten.length=aZ.flatten.length∧(∀ e∈aZ,e.length=sz)∧∀ (j:Nat) f f',es.flatten[j]? = some f→aZ.flatten[j]? = some f'→UY M f f'
theorem kv.nil {M:List bJ} {sz:Nat}:kv M sz [] []:=⟨rfl,rfl,by simp,by simp⟩
theorem kv.cons {M:List bJ} {sz:Nat} {r r' : List FV} {es aZ : List (List FV)} (h:Ve M r r') (hl:r'.length=sz) (hs:kv M sz es aZ):kv M sz (r::es) (r'::aZ):=by
 obtain ⟨h1,h2,h3,h4⟩:=hs;obtain ⟨g1,g2⟩:=h.get;refine ⟨by simp [h1],by simp [h2,g1],fun e he=>?_,fun j f f' hf bH=>?_⟩
 ·rcases zT.1 he with rfl|he
  ·exact hl
  ·exact h3 e he
 ·rw [yz] at hf bH;rcases yJ j r.length with hj|hj
  ·rw [ZH hj] at hf;rw [ZH (by rw [← g1];exact hj)] at bH;exact g2 j f f' hf bH
  ·rw [Yf hj] at hf;rw [Yf (by rw [← g1];exact hj),← g1] at bH;exact h4 _ f f' hf bH
def sT (M:List bJ) (es aZ : List (List FV)):Prop:=es.length=aZ.length∧∀ (j:Nat) eV,aZ[j]? = some eV→∃ k f f',es[j]? = some [k,f]∧eV=[k,f']∧UY M f f'
def xC.plain:xC→Bool
 | .dead|.aw|.bu => false
 | _ => true
theorem xC.j8 {l:xC} (h:l.plain=true):l≠.dead:=by rintro rfl;cases h
inductive ZN (ob:List (Nat×zL)) (M0:List bJ):List bJ→Prop where
 | nil:ZN ob M0 []
 | oX {i' i vo v E sz:Nat} {lf:xC} {es aZ : List (List FV)} {M:List bJ} (h:look {} ob i=⟨vo, lf, E, sz, es⟩) (hl:lf.plain=true) (e:es=aZ) (hM:ZN ob M0 M):ZN ob M0 (⟨i', some i, vo, ⟨v, lf, E, sz, aZ⟩⟩ :: M)
 | new {i' vo v E sz:Nat} {M:List bJ} (hM:ZN ob M0 M):ZN ob M0 (⟨i', none, vo, ⟨v, .own, E, sz, []⟩⟩ :: M)
 | rL {i' i vo v E:Nat} {es aZ : List (List FV)} {M:List bJ} (h:look {} ob i=⟨vo, .aw, E, 1, es⟩) (e:nI M0 es aZ) (hM:ZN ob M0 M):ZN ob M0 (⟨i', some i, vo, ⟨v, .aw, E, 1, aZ⟩⟩ :: M)
 | oY {i' i vo v E sz:Nat} {es aZ : List (List FV)} {M:List bJ} (h:look {} ob i=⟨vo, .aw, E, sz, es⟩) (e:kv M0 sz es aZ) (hM:ZN ob M0 M):ZN ob M0 (⟨i', some i, vo, ⟨v, .aw, E, sz, aZ⟩⟩ :: M)
 | rM {i' i vo v E sz:Nat} {es aZ : List (List FV)} {M:List bJ} (h:look {} ob i=⟨vo, .bu, E, sz, es⟩) (e:sT M0 es aZ) (hM:ZN ob M0 M):ZN ob M0 (⟨i', some i, vo, ⟨v, .bu, E, sz, aZ⟩⟩ :: M)
theorem ZN.get {ob:List (Nat×zL)} {M0 M:List bJ} (h:ZN ob M0 M):∀ e∈M,e.b.ag≠.dead∧(∀ i,e.src=some i→∃ cH,look {} ob i=⟨e.vo,e.b.ag,e.b.E,e.b.sz,cH⟩∧cH.length=e.b.es.length∧((e.b.ag.plain=true∧cH=e.b.es)∨(e.b.ag=.aw∧kv M0 e.b.sz cH e.b.es)∨(e.b.ag=.bu∧sT M0 cH e.b.es)))∧(e.src=none→e.b.ag=.own∧e.b.es=[]):=by
 induction h with
 | nil => intro e he; simp at he
 | oX h hl e hM ih=>
  intro q hq;rcases zT.1 hq with rfl|hq
  ·refine ⟨xC.j8 hl,fun i hi=>?_,fun hi=>by cases hi⟩;injection hi with hi
   subst hi;subst e;exact ⟨_,h,rfl,.inl ⟨hl,rfl⟩⟩
  ·exact ih q hq
 | new hM ih =>
  intro q hq;rcases zT.1 hq with rfl|hq
  ·exact ⟨by simp,(fun i hi=>by cases hi),fun _=>⟨rfl,rfl⟩⟩
  ·exact ih q hq
 | rL h e hM ih=>
  intro q hq;rcases zT.1 hq with rfl|hq
  ·refine ⟨by simp,fun i hi=>?_,fun hi=>by cases hi⟩;injection hi with hi
   subst hi;exact ⟨_,h,e.len.1,.inr (.inl ⟨rfl,e.len⟩)⟩
  ·exact ih q hq
 | oY h e hM ih=>
  intro q hq;rcases zT.1 hq with rfl|hq
  ·refine ⟨by simp,fun i hi=>?_,fun hi=>by cases hi⟩;injection hi with hi
   subst hi;exact ⟨_,h,e.1,.inr (.inl ⟨rfl,e⟩)⟩
  ·exact ih q hq
 | rM h e hM ih=>
  intro q hq;rcases zT.1 hq with rfl|hq
  ·refine ⟨by simp,fun i hi=>?_,fun hi=>by cases hi⟩;injection hi with hi
   subst hi;exact ⟨_,h,e.1,.inr (.inr ⟨rfl,e⟩)⟩
  ·exact ih q hq
inductive js (t:List (Nat×FV)) (M:List bJ):Nat→FV→Prop where
 | plain {d:Nat} {f f' : FV} (h:look .undef t d=f) (hn:f.hand=none) (e:f=f'):js t M d f'
 | own {d i i' v v' o n n' : Nat} {b:zL} (h:look .undef t d=(.own i v o n)) (hm:(⟨i', some i, v, b⟩:bJ) ∈ M) (hv:b.aa=v') (e:n=n'):js t M d (.own i' v' o n')
 | ptr {d i i' v v' j o:Nat} {b:zL} (h:look .undef t d=(.ptr i v j o)) (hm:(⟨i', some i, v, b⟩:bJ) ∈ M) (hv:b.aa=v'):js t M d (.ptr i' v' j o)
 | nil {d i' vo v' : Nat} {b:zL} (h:look .undef t d=.nil) (hm:(⟨i', none, vo, b⟩:bJ) ∈ M) (hv:b.aa=v'):js t M d (.own i' v' 0 0)
 | cV {d sz:Nat} (h:look .undef t d=.nil):js t M d (.list sz [])
 | omap {d i i' v v' : Nat} {b:zL} (h:look .undef t d=(.omap i v)) (hm:(⟨i', some i, v, b⟩:bJ) ∈ M) (hv:b.aa=v'):js t M d (.omap i' v')
 | wrap {d:Nat} {k:Wk} {fs dH : List FV} (h:look .undef t d=.wrap k fs) (hc:Ve M fs dH):js t M d (.wrap k dH)
inductive lQ (t:List (Nat×FV)) (M:List bJ):List (Nat×FV)→Prop where
 | nil:lQ t M []
 | cons {d:Nat} {f:FV} {t' : List (Nat × FV)} (h:js t M d f) (hs:lQ t M t'):lQ t M ((d, f) :: t')
theorem js.s9 {t:List (Nat×FV)} {M:List bJ} {f:FV} (h:js t M d f):UY M (look .undef t d) f:=by
 cases h with
 | plain h hn e => rw [h]; exact .plain hn e
 | own h hm hv e => rw [h]; exact .own hm hv rfl e
 | ptr h hm hv => rw [h]; exact .ptr hm hv
 | nil h hm hv => rw [h]; exact .nil hm hv
 | cV h => rw [h]; exact .cV
 | omap h hm hv => rw [h]; exact .omap hm hv
 | wrap h hc => rw [h]; exact .wrap hc
theorem lQ.get {t:List (Nat×FV)} {M:List bJ} {t' : List (Nat×FV)} (h:lQ t M t') (d:Nat):look .undef t' d=.undef∨js t M d (look .undef t' d):=by
 induction h with
 | nil => exact .inl rfl
 | cons h hs ih =>
  rw [zN];split
  ·rename_i e;subst e;exact .inr h
  ·exact ih
def XS (M:List bJ) (k:Nat):Option bJ:=look none (M.map fun e=>(e.new,some e)) k
theorem uq:∀ {M:List bJ} {k:Nat} {e:bJ},XS M k=some e→e∈M∧e.new=k
 | [], _, _, h => by cases h
 | q :: M, k, e, h => by
  unfold XS at h;rw [zH,zN] at h;split at h
  ·rename_i hk;injection h with h;subst h;exact ⟨by simp,hk⟩
  ·have:=uq (M:=M) h;exact ⟨by simp [this.1],this.2⟩
theorem UE:∀ {M:List bJ} (_:(M.map bJ.new).Nodup) {e:bJ},e∈M→XS M e.new=some e
 | [], _, _, h => by simp at h
 | q::M,hn,e,h=>by
  unfold XS;rw [zH,zN];rw [zH,XE] at hn;rcases zT.1 h with rfl|h
  ·rw [if_pos rfl]
  ·rw [if_neg (fun hq=>hn.1 (zM.2 ⟨e,h,hq.symm⟩))];exact UE hn.2 h
theorem vN:∀ (M:List bJ) (k:Nat),look {} (M.map fun e=>(e.new,e.b)) k=((XS M k).map bJ.b).getD {}
 | [], _ => rfl
 | q :: M, k => by
  unfold XS;rw [zH,zH,zN,zN];split
  ·rfl
  ·exact vN M k
theorem WM:∀ {M:List bJ} (_:(M.filterMap bJ.src).Nodup) {e q:bJ} {i:Nat},e∈M→q∈M→e.src=some i→q.src=some i→e=q
 | [], _, _, _, _, h, _, _, _ => by simp at h
 | p::M,hn,e,q,i,he,hq,h1,h2=>by
  have key:∀ x∈M,x.src=some i→p.src=some i→False:=fun x hx rE AQ=>by
   rw [Xy,AQ] at hn;exact (XE.1 hn).1 (yZ.2 ⟨x,hx,rE⟩)
  have nk : (M.filterMap bJ.src).Nodup:=by
   rw [Xy] at hn;cases hp:p.src with
   | none => rw [hp] at hn; exact hn
   | some j => rw [hp] at hn; exact (XE.1 hn).2
  rcases zT.1 he with rfl|he
  ·rcases zT.1 hq with rfl|jh
   ·rfl
   ·exact (key q jh h2 h1).elim
  ·rcases zT.1 hq with rfl|jh
   ·exact (key e (by assumption) h1 h2).elim
   ·exact WM nk (by assumption) jh h1 h2
inductive g7 (ob:List (Nat×zL)):List bJ→Prop where
 | nil:g7 ob []
 | low {q:bJ} {M:List bJ} (h:Nat.ble xl q.new=false) (hs:g7 ob M):g7 ob (q :: M)
 | same {i v:Nat} {b:zL} {M:List bJ} (e:b.aa=v) (hs:g7 ob M):g7 ob (⟨i, some i, v, b⟩ :: M)
 | bump {q:bJ} {M:List bJ} (e:(look {} ob q.new).aa<q.b.aa) (hs:g7 ob M):g7 ob (q :: M)
theorem g7.get {ob:List (Nat×zL)} {M:List bJ} (h:g7 ob M):∀ q∈M,xl≤q.new→(q.src=some q.new∧q.b.aa=q.vo)∨(look {} ob q.new).aa<q.b.aa:=by
 induction h with
 | nil => intro q hq; cases hq
 | low h hs ih =>
  intro q hq gP;rcases zT.1 hq with rfl|hq
  ·rw [Nat.ble_eq_true_of_le gP] at h;cases h
  ·exact ih q hq gP
 | same e hs ih =>
  intro q hq gP;rcases zT.1 hq with rfl|hq
  ·exact .inl ⟨rfl,e⟩
  ·exact ih q hq gP
 | bump e hs ih =>
  intro q hq gP;rcases zT.1 hq with rfl|hq
  ·exact .inr e
  ·exact ih q hq gP
def sP (ob:List (Nat×zL)) (M:List bJ):Bool:=ob.all fun p=>!Nat.ble xl p.1 || M.any fun q=>Nat.beq q.new p.1
theorem UF {α:Type} {d:α}:∀ {l:List (Nat×α)} {k:Nat},(∀ p∈l,p.1≠k)→look d l k=d
 | [], _, _ => rfl
 | p :: l, k, h => by
  obtain ⟨i,x⟩:=p;rw [zN,if_neg (h (i,x) zg)];exact UF fun p hp=>h p (Yg _ hp)
theorem DL {ob:List (Nat×zL)} {M:List bJ} (h:sP ob M=true) {k:Nat} (hk:xl≤k):(∃ q∈M,q.new=k)∨look {} ob k={}:=by
 by_cases hx:∃ p∈ob,p.1=k
 ·obtain ⟨p,hp,rfl⟩:=hx;have h1:=zV.1 h p hp;rw [Nat.ble_eq_true_of_le hk] at h1;simp only [Bool.not_true,yX] at h1;obtain ⟨q,hq,e⟩:=Yb.1 h1;exact .inl ⟨q,hq,Wz e⟩
 ·exact .inr (UF fun p hp e=>hx ⟨p,hp,e⟩)
theorem au.conv {t t' : List (Nat×FV)} {ob:List (Nat×zL)} (M:List bJ) (hk:(M.map bJ.new).Nodup) (hs:(M.filterMap bJ.src).Nodup) (qQ:sP ob M=true) (pB:g7 ob M) (ho:ZN ob M M) (ht:lQ t M t'):au ⟨t,ob⟩ ⟨t',M.map fun e=>(e.new,e.b)⟩:=by
 intro N w0 J a w β hF;refine ⟨fun k=>(XS M k).bind fun e=>e.src.bind β,?_⟩;have hE:=ho.get;have bw:∀ k,(⟨t',M.map fun e=>(e.new,e.b)⟩:ae).ob k=((XS M k).map bJ.b).getD {}:=fun k=>vN M k;have cY:∀ e∈M,(⟨t',M.map fun e=>(e.new,e.b)⟩:ae).ob e.new=e.b:=fun e he=>by rw [bw,UE hk he];rfl
 have ko:∀ e∈M,((XS M e.new).bind fun e=>e.src.bind β)=e.src.bind β:=fun e he=>by rw [UE hk he];rfl
 have ah:∀ k,((⟨t',M.map fun e=>(e.new,e.b)⟩:ae).ob k).ag≠.dead→∃ e∈M,e.new=k:=fun k hl=>by
  rw [bw] at hl;cases hm:XS M k with
  | none => rw [hm] at hl; exact absurd rfl hl
  | some e => exact ⟨e, uq hm⟩
 have hold:∀ e∈M,∀ i,e.src=some i→∃ cH,(⟨t,ob⟩:ae).ob i=⟨e.vo,e.b.ag,e.b.E,e.b.sz,cH⟩∧cH.length=e.b.es.length∧((e.b.ag.plain=true∧cH=e.b.es)∨(e.b.ag=.aw∧kv M e.b.sz cH e.b.es)∨(e.b.ag=.bu∧sT M cH e.b.es)):=fun e he i hi=>(hE e he).2.1 i hi;have hI:∀ b,aG J w β ⟨t,ob⟩ b→aG J w (fun k=>(XS M k).bind fun e=>e.src.bind β) ⟨t',M.map fun e=>(e.new,e.b)⟩ b∧w.heap[b]? = w.heap[b]?:=fun b hb=>by
  refine ⟨⟨hb.1,hb.2.1,fun id hl=>?_⟩,rfl⟩;obtain ⟨e,he,rfl⟩:=ah id (xC.aU hl);rw [cY e he] at hl;dsimp only;rw [ko e he];cases kI:e.src with
  | none => simp
  | some i =>
   obtain ⟨cH,h1,_⟩:=hold e he i kI;exact hb.2.2 i (by rw [h1];exact hl)
 have oH:∀ e∈M,∀ i,e.src=some i→∀ v o n,Vc w (β i) ((⟨t,ob⟩:ae).ob i) v o n→Vc w ((XS M e.new).bind fun e=>e.src.bind β) ((⟨t',M.map fun e=>(e.new,e.b)⟩:ae).ob e.new) v o n:=fun e he i hi v o n h=>by
  rw [ko e he,hi,cY e he];obtain ⟨cH,h1,h2,_⟩:=hold e he i hi;rw [h1] at h;obtain ⟨A,c,k1,k2,k3,k4,k5⟩:=h.ex;exact ⟨h.row,A,c,k1,k2,by rw [← h2];exact k3,k4,k5⟩
 have oO:∀ v f f',UY M f f'→je w (aG J w β ⟨t,ob⟩) β ⟨t,ob⟩ v f→je w (aG J w (fun k=>(XS M k).bind fun e=>e.src.bind β) ⟨t',M.map fun e=>(e.new,e.b)⟩) (fun k=>(XS M k).bind fun e=>e.src.bind β) ⟨t',M.map fun e=>(e.new,e.b)⟩ v f':=fun v f f' hc hv=>by
  cases hc with
  | plain hn e =>
   subst e;cases f <;> first|exact Rd.mono hI hv|(simp [FV.hand] at hn)
  | own hm aC eo e =>
   intro _ _;subst e;subst eo;obtain ⟨cH,h1,_⟩:=hold _ hm _ rfl;exact oH _ hm _ rfl _ _ _ (hv (by rw [h1];exact (hE _ hm).1) (by rw [h1]))
  | @ptr i i' v v' j o b hm aC =>
   intro _ _;obtain ⟨cH,h1,_⟩:=hold _ hm _ rfl;obtain ⟨bo,bb,hb,hp⟩:=hv (by rw [h1];exact (hE _ hm).1) (by rw [h1]);have h2:=cY _ hm;have h3:=ko _ hm;dsimp only at h2 h3;rw [h1] at bo hp;refine ⟨by rw [h2];exact bo,bb,?_,by rw [h2];exact hp⟩;dsimp only;rw [h3];exact hb
  | @nil i' vo v' b hm aC =>
   intro _ _;have h2:=cY _ hm;have h3:=ko _ hm;dsimp only at h2 h3;have iw : Rd w _ v .nil:=hv;have jU:v=.slice none 0 0:=by cases iw;rfl
   rw [jU];dsimp only;rw [h2,h3];exact ⟨by have:=((hE _ hm).2.2 rfl).1;dsimp only at this;rw [this];rfl,none,0,rfl,zi _,by omega,fun _=>⟨rfl,rfl⟩,fun b hb=>by simp at hb⟩
  | gz hl bj => have iw : Rd w _ v (.wrap _ _) := hv; cases iw
  | cV =>
   have iw : Rd w _ v .nil:=hv;have jU:v=.slice none 0 0:=by cases iw;rfl
   rw [jU];exact Rd.list none 0 0 _ [] [] rfl (zi _) zg zg zg zg zg
  | @omap i i' v v' b hm aC =>
   intro _ _;obtain ⟨cH,h1,_⟩:=hold _ hm _ rfl;obtain ⟨bo,bb,hb,hp⟩:=hv (by rw [h1];exact (hE _ hm).1) (by rw [h1]);have h2:=cY _ hm;have h3:=ko _ hm;dsimp only at h2 h3;rw [h1] at bo;refine ⟨by rw [h2];exact bo,bb,?_,hp⟩;dsimp only;rw [h3];exact hb
 have fQ:∀ v f f',UY M f f'→VR w (aG J w β ⟨t,ob⟩) β ⟨t,ob⟩ v f→VR w (aG J w (fun k=>(XS M k).bind fun e=>e.src.bind β) ⟨t',M.map fun e=>(e.new,e.b)⟩) (fun k=>(XS M k).bind fun e=>e.src.bind β) ⟨t',M.map fun e=>(e.new,e.b)⟩ v f':=fun v f f' hc hv=>by
  by_cases hw:∃ k fs,f=.wrap k fs
  ·obtain ⟨k,fs,rfl⟩:=hw;cases hc with
   | plain hn e => cases hn
   | gz hl bj =>
    obtain ⟨us,e,h1,h2⟩:=hv;refine ⟨us,e,h1.trans hl,fun j u g hu hg=>?_⟩;rename_i dH;have hj:j<fs.length:=by rw [hl];exact (yq.1 hg).1
    exact oO u fs[j] g (bj j fs[j] g (by simp [hj]) hg) (h2 j u fs[j] hu (by simp [hj]))
  ·exact VR.pL (oO v f f' hc (hv.mS fun k fs e=>hw ⟨k,fs,e⟩))
 have eJ:∀ f f',UY M f f'→∀ id aa,(id,aa)∈f'.hands→aa≤((⟨t',M.map fun e=>(e.new,e.b)⟩:ae).ob id).aa:=fun f f' hc id aa hh=>by
  cases hc with
  | plain hn e => rw [← e] at hh; exact (FV.aT hn hh).elim
  | cV => cases hh
  | gz hl bj=>
   obtain ⟨g,hg,e⟩:=yZ.1 hh;obtain ⟨j,hj,rfl⟩:=yS hg;rename_i fs dH;have fx:j<fs.length:=by rw [hl];exact hj
   have gb:=bj j fs[j] dH[j] (by simp [fx]) zg;generalize fs[j]=f0 at gb;generalize dH[j]=f1 at gb e;cases gb with
   | plain hn e1 => rw [← e1, hn] at e; cases e
   | cV => cases e
   | gz _ _ => simp only [FV.hand, yh, xb] at e; omega
   | _ hm aC =>
    simp only [FV.hand,yh,xb] at e;obtain ⟨rfl,rfl⟩:=e;have h2:=cY _ hm;dsimp only at h2;rw [h2,aC];exact zi _
  | _ hm aC =>
   simp only [FV.hands,yf,xb] at hh;obtain ⟨e1,e2⟩:=hh;replace e1:=e1.symm;replace e2:=e2.symm;subst e1;subst e2;have h2:=cY _ hm;dsimp only at h2;rw [h2,aC];exact zi _
 refine { size:=hF.size,defers:=hF.defers,bL:=hF.bL,cB:=hF.cB,slot:=fun d=>?_,bP:=fun d id aa hh=>?_,obj:=fun id hl=>?_,inj:=fun id aM b hl ba e e'=>?_,kept:=fun b hb=>⟨(hF.kept b hb).1,fun id hl e=>?_,(hF.kept b hb).2.2⟩,gh:=fun v f hg=>?_ }
 ·show VR _ _ _ _ _ (look .undef t' d);rcases ht.get d with h|h
  ·rw [h];exact VR.bt (.undef _) rfl
  ·exact fQ _ _ _ h.s9 (hF.slot d)
 ·have qT : (id,aa)∈(look FV.undef t' d).hands:=hh;rcases ht.get d with h|h
  ·rw [h] at qT;cases qT
  ·exact eJ _ _ h.s9 id aa qT
 ·obtain ⟨e,he,rfl⟩:=ah id hl;rw [cY e he,ko e he];cases kI:e.src with
  | none =>
   obtain ⟨h1,h2⟩:=(hE e he).2.2 kI;refine .ofRow ?_ (.own h1) (by rw [h1];rfl);refine ⟨by rw [h2];simp,by rw [h2];simp,.slice none 0 0,[],?_,rfl,?_⟩
   ·rw [h2];exact WH _ _ _ _
   ·rw [h2];exact aD.nil
  | some i=>
   obtain ⟨cH,h1,hlen,eB⟩:=hold e he i kI;have h2:=hF.obj i (by rw [h1];exact (hE e he).1);rw [h1] at h2;rcases eB with ⟨iu,rfl⟩|⟨hh,aw⟩|⟨hh,AF⟩
   ·cases hr:e.b.ag.row with
    | true =>
     have h4:=h2.bA hr;exact .ofRow ⟨h4.wide,h4.one,(h4.mono hI (fun _ _=>rfl)).row⟩ (h2.fc hr) hr
    | false=>
     have pF:e.b.ag.bm=false:=by
      cases br:e.b.ag <;> rw [br] at hr iu <;> first|rfl|(simp [xC.row,xC.plain] at hr iu;done)
     have nr:e.b.ag≠.bu:=by intro e2;rw [e2] at iu;cases iu
     have h4:=(h2.gw pF nr).mono hI (fun _ _=>rfl);exact .ofMap ⟨h4.ex⟩ pF nr
   ·have h4:=h2.dU (by rw [hh];rfl) (by rw [hh];rfl);obtain ⟨l1,l2,l3,l4⟩:=aw;obtain ⟨v,us,r1,r2,r3,r4⟩:=h4.row;dsimp only at r1 r3 r4;refine .mM ⟨fun q hq=>l3 q hq,fun f hf id aa oe=>?_,v,us,by rw [← l1];exact r1,r2,r3.trans l2,fun j u f' hu bH=>?_⟩ hh
    ·obtain ⟨j,hj,rfl⟩:=yS hf;have fx:j<cH.flatten.length:=by rw [l2];exact hj
     exact eJ _ _ (l4 j cH.flatten[j] _ zg zg) id aa oe
    ·have hj:j<cH.flatten.length:=by rw [l2];exact (yq.1 bH).1
     exact fQ _ _ _ (l4 j cH.flatten[j] f' zg bH) (r4 j u _ hu zg)
   ·have h4:=h2.mJ hh;obtain ⟨bb,clock,ao,r1,r2,r3,r4,r5,r6,r7⟩:=h4.ex;dsimp only at r5 r6 r7;obtain ⟨l1,l2⟩:=AF;have gT:∀ (j:Nat) eV,e.b.es[j]? = some eV→∃ en k f f',ao[j]? = some en∧cH[j]? = some [k,f]∧eV=[k,f']∧UY M f f'∧k.simple=true∧en.key=k.val:=fun j eV hr=>by
     obtain ⟨k,f,f',q1,q2,q3⟩:=l2 j eV hr;have hj:j<ao.size:=by rw [r5];exact (yq.1 q1).1
     obtain ⟨kf,vf,q4,q5,q6⟩:=r6 j ao[j] _ (by simp [hj]) q1;injection q4 with q4 _
     subst q4;exact ⟨ao[j],k,f,f',by simp [hj],q1,q2,q3,q5,q6⟩
    refine .oW ⟨fun f hf id aa oe=>?_,bb,clock,ao,r1,r2,r3,r4,by rw [r5];exact l1,fun j en eV ik hr=>?_,fun j en eV f2 ik hr qO=>?_⟩ hh
    ·obtain ⟨eV,hr,hf⟩:=xi.1 hf;obtain ⟨j,hj,rfl⟩:=yS hr;obtain ⟨en,k,f1,qy,q0,q1,q2,q3,q4,q5⟩:=gT j _ (xZ hj);rw [q2] at hf;rcases zT.1 hf with rfl|hf
     ·exact (FV.aT (by cases f <;> first|rfl|(simp [FV.simple,FV.aH] at q4)) oe).elim
     ·rw [yf.1 hf] at oe;exact eJ _ _ q3 id aa oe
    ·obtain ⟨z6,k,f1,qy,q0,q1,q2,q3,q4,q5⟩:=gT j _ hr;rw [q0] at ik;injection ik with ik
     subst ik;exact ⟨k,qy,q2,q4,q5⟩
    ·obtain ⟨z6,k,f1,qy,q0,q1,q2,q3,q4,q5⟩:=gT j _ hr;rw [q2] at qO;simp at qO;subst qO;exact fQ _ _ _ q3 (r7 j en _ f1 ik q1 rfl)
 ·obtain ⟨q,hq,rfl⟩:=ah id hl;obtain ⟨q',jh,rfl⟩:=ah aM ba;rw [ko q hq] at e;rw [ko q' jh] at e';cases ln:q.src with
  | none => rw [ln] at e; simp at e
  | some i=>
   cases pE:q'.src with
   | none => rw [pE] at e'; simp at e'
   | some i' =>
    rw [ln] at e;rw [pE] at e';obtain ⟨_,h1,_⟩:=hold q hq i ln;obtain ⟨_,h2,_⟩:=hold q' jh i' pE;have:=hF.inj i i' b (by rw [h1];exact (hE q hq).1) (by rw [h2];exact (hE q' jh).1) e e';subst this;rw [WM hs hq jh ln pE]
 ·obtain ⟨q,hq,rfl⟩:=ah id hl;rw [ko q hq] at e;cases ln:q.src with
  | none => rw [ln] at e; simp at e
  | some i =>
   rw [ln] at e;obtain ⟨_,h1,_⟩:=hold q hq i ln;exact (hF.kept b hb).2.1 i (by rw [h1];exact (hE q hq).1) e
 ·obtain ⟨g1,g2⟩:=hF.gh v f hg;refine ⟨g1.mono hI fun id aa hh hl dS=>?_,fun id aa hh=>⟨(g2 id aa hh).1,?_⟩⟩
  ·obtain ⟨q1,q2⟩:=g2 id aa hh;obtain ⟨e,he,rfl⟩:=ah id hl;rw [cY e he] at dS;rcases pB.get e he q1 with ⟨h1,h2⟩|h1
   ·obtain ⟨cH,k1,k2,k3⟩:=hold e he _ h1;rw [k1,cY e he];refine ⟨(hE e he).1,by rw [← dS,h2],?_,rfl,rfl,fun v o n hv=>?_⟩
    ·rw [ko e he,h1];rfl
    ·rw [← cY e he];exact oH e he _ h1 v o n (by rw [k1];exact hv)
   ·exact absurd q2 (by have:(⟨t,ob⟩:ae).ob e.new=look {} ob e.new:=rfl;rw [this];omega)
  ·obtain ⟨q1,q2⟩:=g2 id aa hh;rcases DL qQ q1 with ⟨e,he,rfl⟩|dO
   ·rw [cY e he];rcases pB.get e he q1 with ⟨h1,h2⟩|h1
    ·obtain ⟨cH,k1,k2,k3⟩:=hold e he _ h1;rw [k1] at q2;rw [h2];exact q2
    ·have:(⟨t,ob⟩:ae).ob e.new=look {} ob e.new:=rfl;rw [this] at q2;omega
   ·have:(⟨t,ob⟩:ae).ob id=look {} ob id:=rfl;rw [this,dO] at q2;exact zR q2 (zB _)
theorem au.cv {t t' : List (Nat×FV)} {ob:List (Nat×zL)} (M:List bJ) (ho:ZN ob M M) (ht:lQ t M t') (hk:(M.map bJ.new).Nodup:=by simp) (hs:(M.filterMap bJ.src).Nodup:=by simp) (qQ:sP ob M=true:=by rfl)
  (pB:g7 ob M:=by repeat (first|exact g7.nil|refine g7.low rfl ?_|refine g7.same rfl ?_|refine g7.bump (Nat.lt_succ_self _) ?_)):au ⟨t,ob⟩ ⟨t',M.map fun e=>(e.new,e.b)⟩:=au.conv M hk hs qQ pB ho ht
theorem au.shut {t:List (Nat×FV)} {ob:List (Nat×zL)} {v sz:Nat} {es:List (List FV)} (h:look {} ob i=⟨v,.own,E,sz,es⟩):au ⟨t,ob⟩ ⟨t,(i,⟨v,.shut,E,sz,es⟩)::ob⟩:=by
 intro N w0 J a w β hF;have dI:(⟨t,ob⟩:ae).ob i=⟨v,.own,E,sz,es⟩:=h;refine ⟨β,hF.iy i .shut (fun h=>by cases h) (fun hd=>?_) (fun _=>by rw [dI];rfl) (fun k=>?_) (fun k=>rfl) (fun _ ho=>?_)⟩;rotate_right
 ·rw [dI] at ho ⊢;have:=ho.bA rfl;exact .ofRow ⟨this.wide,this.one,this.row⟩ (.shut rfl) rfl
 ·have hb:(⟨t,ob⟩:ae).ob i=⟨v,.own,E,sz,es⟩:=h;rw [hb] at hd;cases hd
 ·show look {} ((i,_)::ob) k=_;rw [zN];show _=if i=k then { (look {} ob i) with ag:=.shut } else _
  rw [h];rfl
theorem au.list {t:List (Nat×FV)} {ob:List (Nat×zL)} {v sz:Nat} {es:List (List FV)} {f:FV} (h:look .undef t d=(.own i v o n)) (hb:look {} ob i=⟨v,.shut,E,sz,es⟩) (e:.list sz ((es.drop o).take n)=f):au ⟨t,ob⟩ ⟨(d,f)::t,ob⟩:=by
 intro N w0 J a w β hF;subst e;have dI:(⟨t,ob⟩:ae).ob i=⟨v,.shut,E,sz,es⟩:=hb;have hl:=xa dI zb;have hg:=hF.bE (x:=.tmp d) (s:=⟨t,ob⟩) h hl.1 hl.2;have iQ:Rd w (aG J w β ⟨t,ob⟩) (a.tmps.getD d undef) (.list sz ((es.drop o).take n)):=by
  have hc:∃ c:Nat,c=N:=⟨_,rfl⟩
  obtain ⟨A,cc,e1,e2,e3,e4,e5⟩:=hg.ex;have m4 : a.tmps.getD d undef=.slice A n cc:=e1;rw [m4];rw [dI] at e3 e5;dsimp only at e3 e5;have hO:=hF.obj i hl.1;rw [dI] at hO;have jz:=hO.bA rfl;have hw:=jz.wide;have bf:=jz.one;dsimp only at hw bf;have iR:∀ e∈es.drop o,e.length=sz:=fun e he=>hw e (xq he);have hlen:((es.drop o).take n).length=n:=by simp;omega
  have bY:((es.drop o).take n).flatten=(es.flatten.drop (o * sz)).take (n * sz):=by rw [ZV _ iR,Zj _ hw]
  have gm : ∀ f∈((es.drop o).take n).flatten,f.one=true:=fun f hf=>by rw [bY] at hf;exact bf f (xq (xj hf))
  cases dQ:β i with
  | none =>
   obtain ⟨rfl,rfl⟩:=e4 dQ;obtain rfl:n=0:=by omega
   exact .list none 0 0 _ _ [] zg (zi _) zg zg zg zg zg
  | some b=>
   obtain ⟨o',rfl,k2,k3⟩:=e5 b dQ;obtain ⟨v',us,r1,r2,r3⟩:=jz.row;dsimp only at r1 r3;have az:=hO.lt dQ;have hR:aD w (aG J w β ⟨t,ob⟩) ((us.drop (o * sz)).take (n * sz)) ((es.drop o).take n).flatten:=by rw [bY];exact (r3.drop _).take _
   refine .list _ n cc sz _ _ hlen e2 (fun e he=>iR e (xj he)) gm (fun h0=>⟨b,o',rfl,⟨az.2,hF.fresh b az.1 (.inr ⟨i,hl.1,dQ⟩),fun aM ba e=>?_⟩,fun j u hu=>?_⟩) hR.1 hR.2
   ·have:=hF.inj i aM b hl.1 (xC.aU ba) dQ e;subst this;rw [dI] at ba;cases ba
   ·have:=k2 (.inl zc);subst this;rw [xg] at hu;split at hu
    ·rw [xY] at hu;have aW:=r1.cells (g:=b) (by rw [r2];exact dQ) _ u hu;rwa [xn,yr] at aW
    ·cases hu
 refine ⟨β,?_⟩;have az:∃ q:ae,q=⟨(d,.list sz ((es.drop o).take n))::t,ob⟩:=⟨_,rfl⟩
 refine hF.step (C:=fun _=>False) hF.size hF.defers hF.bL (fun b hb=>⟨hb,rfl⟩) (fun k=>?_) (fun id _=>⟨rfl,rfl,fun _ _ _=>rfl⟩) (fun _ h=>h.elim) (fun _ h=>h.elim) (fun _ h=>h.elim) hF.inj (fun b _ hn=>⟨rfl,hn⟩);show (_∧look .undef ((d,_)::t) k=look .undef t k)∨_;by_cases gC:d=k
 ·subst gC;right;have:(⟨(d,.list sz ((es.drop o).take n))::t,ob⟩:ae).get d=.list sz ((es.drop o).take n):=by show look _ _ _=_;rw [zN,if_pos rfl]
  rw [this];exact ⟨VR.bt (iQ.mono (fun b hb=>⟨hb,rfl⟩)) rfl,fun id aa e=>by cases e⟩
 ·left;exact ⟨rfl,by rw [zN,if_neg gC]⟩
theorem au.ay {t:List (Nat×FV)} {ob:List (Nat×zL)} (d:Nat) {v j sz:Nat} {es:List (List FV)} (h:look .undef t d=(.ptr i v j o)) (hb:look {} ob i=⟨v,.shut,E,sz,es⟩):au ⟨t,ob⟩ ⟨(d,.ay sz es j o)::t,ob⟩:=by
 intro N w0 J a w β hF;have dI:(⟨t,ob⟩:ae).ob i=⟨v,.shut,E,sz,es⟩:=hb;have hl:=xa dI zb;obtain ⟨_,b,dQ,hv⟩:=hF.bV (x:=.tmp d) (s:=⟨t,ob⟩) h hl.1 hl.2;have iQ:Rd w (aG J w β ⟨t,ob⟩) (a.tmps.getD d undef) (.ay sz es j o):=by
  have iw : a.tmps.getD d undef=.pointer (some ⟨b,j * ((⟨t,ob⟩:ae).ob i).sz+o,none⟩):=hv;rw [iw,dI];have hO:=hF.obj i hl.1;rw [dI] at hO;have jz:=hO.bA rfl;have az:=hO.lt dQ;obtain ⟨v',us,r1,r2,r3⟩:=jz.row;dsimp only at r1 r3;have e:j * sz+o=0+(j * sz+o):=by omega
  dsimp only;rw [e];refine .ay b 0 sz es j o us ⟨az.2,hF.fresh b az.1 (.inr ⟨i,hl.1,dQ⟩),fun aM ba e=>?_⟩ jz.wide jz.one (fun k u hu=>?_) r3.1 r3.2
  ·have:=hF.inj i aM b hl.1 (xC.aU ba) dQ e;subst this;rw [dI] at ba;cases ba
  ·have aW:=r1.cells (g:=b) (by rw [r2];exact dQ) _ u hu;rwa [xn] at aW
 refine ⟨β,?_⟩;refine hF.step (C:=fun _=>False) hF.size hF.defers hF.bL (fun b hb=>⟨hb,rfl⟩) (fun k=>?_) (fun id _=>⟨rfl,rfl,fun _ _ _=>rfl⟩) (fun _ h=>h.elim) (fun _ h=>h.elim) (fun _ h=>h.elim) hF.inj (fun b _ hn=>⟨rfl,hn⟩);show (_∧look .undef ((d,_)::t) k=look .undef t k)∨_;by_cases gC:d=k
 ·subst gC;right;have:(⟨(d,.ay sz es j o)::t,ob⟩:ae).get d=.ay sz es j o:=by show look _ _ _=_;rw [zN,if_pos rfl]
  rw [this];exact ⟨VR.bt (iQ.mono (fun b hb=>⟨hb,rfl⟩)) rfl,fun id aa e=>by cases e⟩
 ·left;exact ⟨rfl,by rw [zN,if_neg gC]⟩
theorem au.aL {t:List (Nat×FV)} {ob:List (Nat×zL)} (d:Nat) {v j sz:Nat} {es:List (List FV)} (h:look .undef t d=(.ptr i v j o)) (hb:look {} ob i=⟨v,.own,E,sz,es⟩) :
  au ⟨t,ob⟩ ⟨(d,.ay sz es j o)::t,(i,⟨v,.shut,E,sz,es⟩)::ob⟩:=
 (au.shut hb).trans (au.ay (d:=d) h (by rw [zN,if_pos rfl]))
theorem au.share {t:List (Nat×FV)} {ob:List (Nat×zL)} (d:Nat) {v sz:Nat} {es:List (List FV)} (h:look .undef t d=.own i v 0 n) (hb:look {} ob i=⟨v,.own,E,sz,es⟩) (hn:n=es.length) :
  au ⟨t,ob⟩ ⟨(d,.list sz es)::t,(i,⟨v,.shut,E,sz,es⟩)::ob⟩:=
 (au.shut hb).trans (au.list (d:=d) h (by rw [zN,if_pos rfl]) (by rw [hn,Zo,yI]))
theorem au.ka {t:List (Nat×FV)} {ob:List (Nat×zL)} (d:Nat) {v sz:Nat} {es:List (List FV)} (h:look .undef t d=.omap i v) (hb:look {} ob i=⟨v,.bl,E,sz,es⟩) :
  au ⟨t,ob⟩ ⟨(d,.smap es)::t,(i,⟨v,.maps,E,sz,es⟩)::ob⟩:=by
 have h1:au ⟨t,ob⟩ ⟨t,(i,⟨v,.maps,E,sz,es⟩)::ob⟩:=by
  intro N w0 J a w β hF;have dI:(⟨t,ob⟩:ae).ob i=⟨v,.bl,E,sz,es⟩:=hb;refine ⟨β,hF.iy i .maps (fun h=>by cases h) (fun hd=>by rw [dI] at hd;cases hd) (fun _=>by rw [dI];rfl) (fun k=>?_) (fun k=>rfl) (fun _ ho=>by rw [dI] at ho ⊢;exact .ofMap ⟨(ho.gw rfl (fun e=>by cases e)).ex⟩ rfl (fun e=>by cases e))⟩;show look {} ((i,_)::ob) k=_;rw [zN];show _=if i=k then { (look {} ob i) with ag:=.maps } else _
  rw [hb];rfl
 refine h1.trans ?_;intro N w0 J a w β hF;have dI:(⟨t,(i,⟨v,.maps,E,sz,es⟩)::ob⟩:ae).ob i=⟨v,.maps,E,sz,es⟩:=by show look {} ((i,_)::ob) i=_;rw [zN,if_pos rfl]
 have hl:=xa dI zb;have hg:=hF.fq (x:=.tmp d) (s:=⟨t,(i,⟨v,.maps,E,sz,es⟩)::ob⟩) h hl.1 hl.2;have hO:=(hF.obj i hl.1).gw (by rw [dI];rfl) (by rw [dI];exact fun e=>by cases e);rw [dI] at hO;obtain ⟨_,b,aJ,hx⟩:=hg;obtain ⟨b',clock,ao,q1,q2,q3,q4,q5,q6,q7⟩:=hO.ex;rw [aJ] at q1;injection q1 with q1
 subst q1;have az:=(hF.obj i hl.1).lt aJ;have iQ:Rd w (aG J w β ⟨t,(i,⟨v,.maps,E,sz,es⟩)::ob⟩) (a.tmps.getD d undef) (.smap es):=by
  have eS : a.tmps.getD d undef=.map (some b):=hx;rw [eS];refine .smap b clock ao es ⟨az.2,hF.fresh b az.1 (.inr ⟨i,hl.1,aJ⟩),fun aM ba e=>?_⟩ q3 q4 q5 q6 q7;have:=hF.inj i aM b hl.1 (xC.aU ba) aJ e;subst this;rw [dI] at ba;cases ba
 refine ⟨β,?_⟩;refine hF.step (C:=fun _=>False) hF.size hF.defers hF.bL (fun b hb=>⟨hb,rfl⟩) (fun k=>?_) (fun id _=>⟨rfl,rfl,fun _ _ _=>rfl⟩) (fun _ h=>h.elim) (fun _ h=>h.elim) (fun _ h=>h.elim) hF.inj (fun b _ hn=>⟨rfl,hn⟩);show (_∧look .undef ((d,_)::t) k=look .undef t k)∨_;by_cases gC:d=k
 ·subst gC;right;have:(⟨(d,.smap es)::t,(i,⟨v,.maps,E,sz,es⟩)::ob⟩:ae).get d=.smap es:=by show look _ _ _=_;rw [zN,if_pos rfl]
  rw [this];exact ⟨VR.bt (iQ.mono (fun b hb=>⟨hb,rfl⟩)) rfl,fun id aa e=>by cases e⟩
 ·left;exact ⟨rfl,by rw [zN,if_neg gC]⟩
theorem au.ag {t:List (Nat×FV)} {ob:List (Nat×zL)} {v sz:Nat} {es:List (List FV)} {l l' : xC} (h:look {} ob i=⟨v,l,E,sz,es⟩) (hl:l≠.dead) (hm:l'.cJ=true→l.cJ=true) (hs:l'≠.dead→l'.bm=l.bm)
  (mA:∀ (w:World) (base:Nat) (I:Nat→Prop) (β:Nat→Option Nat) (s:ae) (b:Option Nat),l'≠.dead→cj w base I β s b ⟨v,l,E,sz,es⟩→cj w base I β s b ⟨v,l',E,sz,es⟩):au ⟨t,ob⟩ ⟨t,(i,⟨v,l',E,sz,es⟩)::ob⟩:=by
 intro N w0 J a w β hF;have dI:(⟨t,ob⟩:ae).ob i=⟨v,l,E,sz,es⟩:=h;refine ⟨β,hF.iy i l' (fun e=>by rw [dI];exact hm e) (fun hd=>by rw [dI] at hd;exact absurd hd hl) (fun e=>by rw [dI];exact hs e) (fun k=>?_) (fun k=>rfl) (fun e ho=>by rw [dI] at ho ⊢;exact mA _ _ _ _ _ _ e ho)⟩;show look {} ((i,_)::ob) k=_;rw [zN];show _=if i=k then { (look {} ob i) with ag:=l' } else _
 rw [h];rfl
theorem au.um {t:List (Nat×FV)} {ob:List (Nat×zL)} {v sz:Nat} {es:List (List FV)} (h:look {} ob i=⟨v,.own,E,sz,es⟩):au ⟨t,ob⟩ ⟨t,(i,⟨v,.aw,E,sz,es⟩)::ob⟩:=by
 refine au.ag h zb (fun _=>rfl) (fun _=>rfl) fun w base I β s b _ ho=>?_;have hr:=ho.bA rfl;obtain ⟨v1,us,r1,r2,r3⟩:=hr.row;have dO:∀ f∈es.flatten,f.hand=none:=fun f hf=>by have:=hr.one f hf;cases f <;> first|rfl|(simp [FV.one] at this)
 exact .mM ⟨hr.wide,(fun f hf id aa e=>(FV.aT (dO f hf) e).elim),v1,us,r1,r2,r3.1,fun j u f hu hf=>VR.bt (r3.2 j u f hu hf) (dO f (zZ hf))⟩ rfl
def FV.eO (g:Nat→Nat):FV→FV
 | .own id v o n => .own (g id) v o n
 | .ptr id v j o => .ptr (g id) v j o
 | .omap id v => .omap (g id) v
 | f => f
def FV.ren (g:Nat→Nat):FV→FV
 | .wrap k fs => .wrap k (fs.map (FV.eO g))
 | .own id v o n => .own (g id) v o n
 | .ptr id v j o => .ptr (g id) v j o
 | .omap id v => .omap (g id) v
 | f => f
def zL.ren (g:Nat→Nat) (b:zL):zL:=
 match b.ag with
 | .aw => ⟨b.aa, b.ag, b.E, b.sz, b.es.map fun r => r.map (FV.ren g)⟩
 | _ => b
theorem FV.cC {f:FV} (hw:∀ k fs,f≠.wrap k fs) {p:Nat×Nat} (h:f.hand=some p):p∈f.hands:=by
 cases f with
 | wrap k fs => exact absurd rfl (hw k fs)
 | own|ptr|omap => injection h with h; rw [← h]; exact yf.2 rfl
 | _ => cases h
section
variable {g:Nat→Nat} {b:zL}
theorem zL.e9 (h:b.ag≠.aw):b.ren g=b:=by
 obtain ⟨v,l,E,sz,es⟩:=b;cases l <;> first|rfl|exact absurd rfl h
theorem zL.aQ:(b.ren g).ag=b.ag:=by obtain ⟨v,l,E,sz,es⟩:=b;cases l <;> rfl
theorem zL.dC:(b.ren g).aa=b.aa:=by obtain ⟨v,l,E,sz,es⟩:=b;cases l <;> rfl
theorem zL.lB:(b.ren g).E=b.E:=by obtain ⟨v,l,E,sz,es⟩:=b;cases l <;> rfl
theorem zL.dL:(b.ren g).sz=b.sz:=by obtain ⟨v,l,E,sz,es⟩:=b;cases l <;> rfl
theorem zL.iz:(b.ren g).es.length=b.es.length:=by obtain ⟨v,l,E,sz,es⟩:=b;cases l <;> simp [zL.ren]
theorem zL.j9 (h:b.ag=.aw):b.ren g=⟨b.aa,.aw,b.E,b.sz,b.es.map fun r=>r.map (FV.ren g)⟩:=by obtain ⟨v,l,E,sz,es⟩:=b;cases h;rfl
end
theorem Vc.ren {aA:Option Nat} {b:zL} (g:Nat→Nat):Vc w aA (b.ren g) v o n↔Vc w aA b v o n:=by
 constructor
 ·rintro ⟨h1,A,c,h2,h3,h4,h5,h6⟩;rw [zL.aQ] at h1;rw [zL.iz] at h4;refine ⟨h1,A,c,h2,h3,h4,h5,fun q hq=>?_⟩;obtain ⟨o',k1,k2,k3⟩:=h6 q hq;rw [zL.dL] at k2 k3;rw [zL.lB] at k3;exact ⟨o',k1,k2,k3⟩
 ·rintro ⟨h1,A,c,h2,h3,h4,h5,h6⟩;refine ⟨by rw [zL.aQ];exact h1,A,c,h2,h3,by rw [zL.iz];exact h4,h5,fun q hq=>?_⟩;obtain ⟨o',k1,k2,k3⟩:=h6 q hq;exact ⟨o',k1,by rw [zL.dL];exact k2,by rw [zL.lB,zL.dL];exact k3⟩
structure eR (g:Nat→Nat) (D:Nat→Prop) (eY eZ:Nat→Option Nat) (s1 s2:ae):Prop where
 ob:∀ k,D k→s2.ob (g k)=(s1.ob k).ren g
 b:∀ k,D k→eZ (g k)=eY k
section
variable {g:Nat→Nat} {D:Nat→Prop} {eY eZ:Nat→Option Nat} {s1 s2:ae} {w:World} {I1 I2:Nat→Prop}
theorem eR.own (S:eR g D eY eZ s1 s2) {id:Nat} (hd:D id):Vc w (eZ (g id)) (s2.ob (g id)) v o n↔Vc w (eY id) (s1.ob id) v o n:=by
 rw [S.ob id hd,S.b id hd];exact Vc.ren g
theorem eR.ag (S:eR g D eY eZ s1 s2) {id:Nat} (hd:D id):(s2.ob (g id)).ag=(s1.ob id).ag:=by rw [S.ob id hd,zL.aQ]
theorem eR.aa (S:eR g D eY eZ s1 s2) {id:Nat} (hd:D id):(s2.ob (g id)).aa=(s1.ob id).aa:=by rw [S.ob id hd,zL.dC]
theorem eR.sz (S:eR g D eY eZ s1 s2) {id:Nat} (hd:D id):(s2.ob (g id)).sz=(s1.ob id).sz:=by rw [S.ob id hd,zL.dL]
theorem eR.nU (S:eR g D eY eZ s1 s2) (hI:∀ b,I1 b→I2 b) {f:FV} (hd:∀ id aa,f.hand=some (id,aa)→D id) (h:je w I1 eY s1 v f) (hw:∀ k fs,f≠.wrap k fs):je w I2 eZ s2 v (f.eO g):=by
 cases f with
 | own id aa o n =>
  have hD:=hd id aa rfl;exact fun h1 h2=>(S.own hD).2 (h (by rw [← S.ag hD];exact h1) (by rw [← S.aa hD];exact h2))
 | ptr id aa j o =>
  have hD:=hd id aa rfl;intro h1 h2;obtain ⟨k1,b,k2,k3⟩:=h (by rw [← S.ag hD];exact h1) (by rw [← S.aa hD];exact h2);exact ⟨by rw [S.ag hD];exact k1,b,by rw [S.b _ hD];exact k2,by rw [S.sz hD];exact k3⟩
 | omap id aa =>
  have hD:=hd id aa rfl;intro h1 h2;obtain ⟨k1,b,k2,k3⟩:=h (by rw [← S.ag hD];exact h1) (by rw [← S.aa hD];exact h2);exact ⟨by rw [S.ag hD];exact k1,b,by rw [S.b _ hD];exact k2,k3⟩
 | wrap k fs => exact absurd rfl (hw k fs)
 | _ => exact Rd.mono (fun b hb => ⟨hI b hb, rfl⟩) h
theorem eR.fwd (S:eR g D eY eZ s1 s2) (hI:∀ b,I1 b→I2 b) {f:FV} (hd:∀ id aa,(id,aa)∈f.hands→D id) (h:VR w I1 eY s1 v f):VR w I2 eZ s2 v (f.ren g):=by
 by_cases hx:∃ k fs,f=.wrap k fs
 ·obtain ⟨k,fs,rfl⟩:=hx;obtain ⟨us,e,h1,h2⟩:=h;refine ⟨us,e,by simpa using h1,fun j u f hu hf=>?_⟩;rw [yK] at hf;cases hj:fs[j]? with
  | none => rw [hj] at hf; cases hf
  | some q =>
   rw [hj] at hf;injection hf with hf
   subst hf;have hq:=h2 j u q hu hj;have hw:∀ k fs,q≠.wrap k fs:=fun k' dH e=>by subst e;have jh : Rd w I1 u (.wrap k' dH):=hq;cases jh
   exact S.nU hI (fun id aa e=>hd id aa (yZ.2 ⟨q,zZ hj,e⟩)) hq hw
 ·have hw:∀ k fs,f≠.wrap k fs:=fun k fs e=>hx ⟨k,fs,e⟩;have e1:f.ren g=f.eO g:=by cases f <;> first|rfl|exact absurd rfl (hw _ _)
  rw [e1];exact VR.pL (S.nU hI (fun id aa e=>hd id aa (FV.cC hw e)) (h.mS hw) hw)
theorem eR.nQ (S:eR g D eY eZ s1 s2) (hI:∀ b,I2 b→I1 b) {f:FV} (hd:∀ id aa,f.hand=some (id,aa)→D id) (h:je w I2 eZ s2 v (f.eO g)) (hw:∀ k fs,f≠.wrap k fs):je w I1 eY s1 v f:=by
 cases f with
 | own id aa o n =>
  have hD:=hd id aa rfl;exact fun h1 h2=>(S.own hD).1 (h (by rw [S.ag hD];exact h1) (by rw [S.aa hD];exact h2))
 | ptr id aa j o =>
  have hD:=hd id aa rfl;intro h1 h2;obtain ⟨k1,b,k2,k3⟩:=h (by rw [S.ag hD];exact h1) (by rw [S.aa hD];exact h2);exact ⟨by rw [← S.ag hD];exact k1,b,by rw [← S.b _ hD];exact k2,by rw [← S.sz hD];exact k3⟩
 | omap id aa =>
  have hD:=hd id aa rfl;intro h1 h2;obtain ⟨k1,b,k2,k3⟩:=h (by rw [S.ag hD];exact h1) (by rw [S.aa hD];exact h2);exact ⟨by rw [← S.ag hD];exact k1,b,by rw [← S.b _ hD];exact k2,k3⟩
 | wrap k fs => exact absurd rfl (hw k fs)
 | _ => exact Rd.mono (fun b hb => ⟨hI b hb, rfl⟩) h
theorem eR.bwd (S:eR g D eY eZ s1 s2) (hI:∀ b,I2 b→I1 b) {f:FV} (hd:∀ id aa,(id,aa)∈f.hands→D id) (h:VR w I2 eZ s2 v (f.ren g)):VR w I1 eY s1 v f:=by
 by_cases hx:∃ k fs,f=.wrap k fs
 ·obtain ⟨k,fs,rfl⟩:=hx;obtain ⟨us,e,h1,h2⟩:=h;refine ⟨us,e,by simpa using h1,fun j u q hu hj=>?_⟩;have hq:=h2 j u (q.eO g) hu (by rw [yK,hj];rfl);have hw:∀ k fs,q≠.wrap k fs:=fun k' dH e=>by subst e;have jh : Rd w I2 u (.wrap k' dH):=hq;cases jh
  exact S.nQ hI (fun id aa e=>hd id aa (yZ.2 ⟨q,zZ hj,e⟩)) hq hw
 ·have hw:∀ k fs,f≠.wrap k fs:=fun k fs e=>hx ⟨k,fs,e⟩;have e1:f.ren g=f.eO g:=by cases f <;> first|rfl|exact absurd rfl (hw _ _)
  rw [e1] at h;have ji:∀ k fs,f.eO g≠.wrap k fs:=fun k fs e=>by cases f <;> first|exact absurd rfl (hw _ _)|(simp [FV.eO] at e)
  exact VR.pL (S.nQ hI (fun id aa e=>hd id aa (FV.cC hw e)) (h.mS ji) hw)
theorem Zz (es:List (List FV)):(es.map fun r=>r.map (FV.ren g)).flatten=es.flatten.map (FV.ren g):=by
 rw [List.map_flatten]
theorem vg {f:FV} {id aa:Nat} (h:(id,aa)∈(f.ren g).hands):(∃ k,(k,aa)∈f.hands∧id=g k)∨aa=0:=by
 cases f with
 | wrap k fs =>
  obtain ⟨q,hq,e⟩:=yZ.1 h;obtain ⟨q0,AR,rfl⟩:=zM.1 hq;cases q0 <;> simp only [FV.eO,FV.hand] at e <;> first|(injection e with e;injection e with e1 e2;subst e1;subst e2;first|exact .inl ⟨_,yZ.2 ⟨_,AR,rfl⟩,rfl⟩|exact .inr rfl)|(cases e;done)
 | own|ptr|omap =>
  have h':=yf.1 h;injection h' with e1 e2
  subst e1;subst e2;exact .inl ⟨_,yf.2 rfl,rfl⟩
 | _ => exact (FV.aT rfl h).elim
theorem eR.Bq (S:eR g D eY eZ s1 s2) (hI:∀ b,I1 b→I2 b) {id:Nat} (hd:D id) (gl:(s1.ob id).ag≠.bu) (hc:(s1.ob id).ag=.aw→∀ f∈(s1.ob id).es.flatten,∀ i aa,(i,aa)∈f.hands→D i) (h:cj w base I1 eY s1 (eY id) (s1.ob id)) :
  cj w base I2 eZ s2 (eZ (g id)) (s2.ob (g id)):=by
 rw [S.ob id hd,S.b id hd];by_cases hh:(s1.ob id).ag=.aw
 ·have hr:=h.dU (by rw [hh];rfl) (by rw [hh];rfl);rw [zL.j9 hh];obtain ⟨v,us,r1,r2,r3,r4⟩:=hr.row;refine .mM ⟨fun e he=>?_,fun f hf i aa e=>?_,v,us,?_,r2,?_,fun j u f hu hf=>?_⟩ rfl
  ·obtain ⟨e0,Am,rfl⟩:=zM.1 he;simpa using hr.wide e0 Am
  ·dsimp only at hf;rw [Zz] at hf;obtain ⟨f0,tK,rfl⟩:=zM.1 hf;rcases vg e with ⟨k,hk,rfl⟩|h0
   ·rw [S.aa (hc hh f0 tK k aa hk)];exact hr.bP f0 tK k aa hk
   ·rw [h0];exact zB _
  ·rw [zy];exact r1
  ·dsimp only;rw [Zz,zy];exact r3
  ·dsimp only at hf;rw [Zz,yK] at hf;cases hj:(s1.ob id).es.flatten[j]? with
   | none => rw [hj] at hf; cases hf
   | some q =>
    rw [hj] at hf;injection hf with hf
    subst hf;exact S.fwd hI (fun i aa e=>hc hh q (zZ hj) i aa e) (r4 j u q hu hj)
 ·rw [zL.e9 hh];have hm:∀ b,I1 b→I2 b∧w.heap[b]? = w.heap[b]?:=fun b hb=>⟨hI b hb,rfl⟩
  cases hr:(s1.ob id).ag.row with
  | true => exact .ofRow ((h.bA hr).mono hm (fun _ _ => rfl)) ((h.fc hr).mono (fun _ _ => rfl)) hr
  | false =>
   cases hs:(s1.ob id).ag.bm with
   | true => exact absurd (by cases hl:(s1.ob id).ag <;> rw [hl] at hr hs <;> first|rfl|(simp [xC.row, xC.bm] at hr hs; done)) hh
   | false => exact .ofMap ((h.gw hs gl).mono hm (fun _ _ => rfl)) hs gl
theorem eR.nx (S:eR g D eY eZ s1 s2) (hI:∀ b,I2 b→I1 b) {id:Nat} (hd:D id) (gl:(s1.ob id).ag≠.bu) (hc:(s1.ob id).ag=.aw→∀ f∈(s1.ob id).es.flatten,∀ i aa,(i,aa)∈f.hands→D i)
  (hv:(s1.ob id).ag=.aw→∀ f∈(s1.ob id).es.flatten,∀ i aa,(i,aa)∈f.hands→aa≤(s1.ob i).aa) (h:cj w base I2 eZ s2 (eZ (g id)) (s2.ob (g id))):cj w base I1 eY s1 (eY id) (s1.ob id):=by
 rw [S.ob id hd,S.b id hd] at h;by_cases hh:(s1.ob id).ag=.aw
 ·rw [zL.j9 hh] at h;have hr:=h.dU rfl rfl;obtain ⟨v,us,r1,r2,r3,r4⟩:=hr.row;dsimp only at r1 r3 r4;rw [Zz] at r3 r4;refine .mM ⟨fun e he=>?_,hv hh,v,us,?_,r2,?_,fun j u f hu hf=>?_⟩ hh
  ·have:=hr.wide (e.map (FV.ren g)) (zM.2 ⟨e,he,rfl⟩);simpa using this
  ·rw [zy] at r1;exact r1
  ·rw [zy] at r3;exact r3
  ·exact S.bwd hI (fun i aa e=>hc hh f (zZ hf) i aa e) (r4 j u (f.ren g) hu (by rw [yK,hf];rfl))
 ·rw [zL.e9 hh] at h;have hm:∀ b,I2 b→I1 b∧w.heap[b]? = w.heap[b]?:=fun b hb=>⟨hI b hb,rfl⟩
  cases hr:(s1.ob id).ag.row with
  | true => exact .ofRow ((h.bA hr).mono hm (fun _ _ => rfl)) ((h.fc hr).mono (fun _ _ => rfl)) hr
  | false =>
   cases hs:(s1.ob id).ag.bm with
   | true => exact absurd (by cases hl:(s1.ob id).ag <;> rw [hl] at hr hs <;> first|rfl|(simp [xC.row, xC.bm] at hr hs; done)) hh
   | false => exact .ofMap ((h.gw hs gl).mono hm (fun _ _ => rfl)) hs gl
end
def FV.cl (ks:List Nat) (f:FV):Bool:=f.hands.all fun p=>ks.any fun k=>Nat.beq k p.1
def zL.cl (ks:List Nat) (b:zL):Bool:=
 match b.ag with
 | .aw => b.es.all fun r => r.all fun f => f.cl ks
 | .bu => false
 | _ => true
theorem zL.ib {b:zL} (h:b.cl ks=true):b.ag≠.bu:=by
 obtain ⟨v,l,E,sz,es⟩:=b;rintro rfl;cases h
theorem FV.cb {f:FV} (h:f.cl ks=true) {id aa:Nat} (hm:(id,aa)∈f.hands):id∈ks:=by
 obtain ⟨k,hk,e⟩:=Yb.1 (zV.1 h _ hm);have e' : k=id:=Wz e;rw [← e'];exact hk
theorem zL.cb {b:zL} (h:b.cl ks=true) (hl:b.ag=.aw) {f:FV} (hf:f∈b.es.flatten) {id aa:Nat} (hm:(id,aa)∈f.hands):id∈ks:=by
 obtain ⟨v,l,E,sz,es⟩:=b;cases hl;obtain ⟨r,hr,Ap⟩:=xi.1 hf;exact FV.cb (zV.1 (zV.1 h r hr) f Ap) hm
theorem DW {f:FV} {id aa:Nat} (hw:∀ k fs,f≠.wrap k fs) (h:f.hand=some (id,aa)):(f.eO g).hand=some (g id,aa):=by
 cases f with
 | wrap k fs => exact absurd rfl (hw k fs)
 | own|ptr|omap => injection h with h; injection h with e1 e2; subst e1; subst e2; rfl
 | _ => cases h
theorem ve {f:FV} (hv:VR w I β s u (f.ren g)) {id aa:Nat} (hm:(id,aa)∈f.hands):(g id,aa)∈(f.ren g).hands:=by
 cases f with
 | wrap q fs=>
  obtain ⟨x,hx,e⟩:=yZ.1 hm;by_cases ug:∃ k fs,x=.wrap k fs
  ·exfalso;obtain ⟨k',dH,rfl⟩:=ug;obtain ⟨pP,e1,e2,e3⟩:=hv;obtain ⟨i',oq,z5⟩:=yS hx;have az:i'<pP.length:=by rw [e2,zy];exact oq
   have:=e3 i' pP[i'] (FV.wrap k' dH) zg (by rw [yK,xZ oq,z5];rfl);have h' : Rd w I pP[i'] (.wrap k' dH):=this;generalize pP[i']=u0 at h';cases h'
  ·exact yZ.2 ⟨x.eO g,zM.2 ⟨x,hx,rfl⟩,DW (fun k fs e=>ug ⟨k,fs,e⟩) e⟩
 | own|ptr|omap =>
  have mi:=yf.1 hm;injection mi with e1 e2
  subst e1;subst e2;exact yf.2 rfl
 | _ => exact (FV.aT rfl hm).elim
def fe (g:Nat→Nat) (ks:List Nat) (aO : List (Nat×zL)):List (Nat×zL):=ks.map fun k=>(g k,(look {} aO k).ren g)
theorem vD {g:Nat→Nat} {aO o:List (Nat×zL)}:∀ {ks:List Nat},(ks.map g).Nodup→∀ k∈ks,look {} (fe g ks aO++o) (g k)=(look {} aO k).ren g
 | [], _, _, h => by cases h
 | q::ks,hn,k,hk=>by
  rw [zH,XE] at hn;show look {} ((g q,_)::(fe g ks aO++o)) (g k)=_;rw [zN];rcases zT.1 hk with rfl|hk
  ·rw [if_pos rfl]
  ·rw [if_neg (fun e=>hn.1 (zM.2 ⟨k,hk,e.symm⟩))];exact vD hn.2 k hk
theorem vE {g:Nat→Nat} {aO o:List (Nat×zL)}:∀ {ks:List Nat} {id:Nat},(∀ k∈ks,g k≠id)→look {} (fe g ks aO++o) id=look {} o id
 | [], _, _ => rfl
 | q :: ks, id, h => by
  show look {} ((g q,_)::(fe g ks aO++o)) id=_;rw [zN,if_neg (h q zg)];exact vE fun k hk=>h k (by simp [hk])
def lG (g:Nat→Nat) (ks:List Nat) (β aE : Nat→Option Nat) (id:Nat):Option Nat:=match ks.find? (fun k=>g k == id) with|some k=>aE k|none=>β id
theorem xF {aE : Nat→Option Nat} (hn:(ks.map g).Nodup) {k:Nat} (hk:k∈ks):lG g ks β aE (g k)=aE k:=by
 unfold lG;cases hf:ks.find? (fun q=>g q == g k) with
 | none => exact absurd (sb.1 hf k hk) zg
 | some q=>
  have h1:=se hf;have h2:=rW hf;have e:g q=g k:=by simpa using h1
  have:q=k:=by
   have key:∀ (l:List Nat),(l.map g).Nodup→q∈l→k∈l→g q=g k→q=k:=by
    intro l
    induction l with
    | nil => intro _ h; cases h
    | cons x l ih=>
     intro hn hq hk e;rw [zH,XE] at hn;rcases zT.1 hq with h1|h1
     ·rcases zT.1 hk with h2|h2
      ·rw [h1,h2]
      ·exact absurd (zM.2 ⟨k,h2,by rw [← e,h1]⟩) hn.1
     ·rcases zT.1 hk with h2|h2
      ·exact absurd (zM.2 ⟨q,h1,by rw [e,h2]⟩) hn.1
      ·exact ih hn.2 h1 h2 e
   exact key ks hn h2 hk e
  rw [this]
theorem ZT {aE : Nat→Option Nat} {id:Nat} (h:∀ k∈ks,g k≠id):lG g ks β aE id=β id:=by
 unfold lG;cases hf:ks.find? (fun q=>g q == id) with
 | none => rfl
 | some q => exact absurd (by simpa using se hf) (h q (rW hf))
def xO (args:List FV) (ob:List (Nat×zL)):ae:=⟨args.zipIdx.map fun p=>(p.2,p.1),ob⟩
theorem Vg (args:List FV) (ob:List (Nat×zL)) (d:Nat):(xO args ob).get d=args.getD d .undef:=Un args d
theorem FR.rG (h:FR N w0 J s a w β) {args:List FV} {ob:List (Nat×zL)} {kl:List Nat}
  (Ay:ob.map Prod.fst=kl) (bw:∀ k∈kl,s.ob (g k)=(look {} ob k).ren g) (gj:∀ k∈kl,(look {} ob k).ag.cJ=true) (gP:∀ k∈kl,xl≤k) (ee:((kl++ex).map g).Nodup)
  (bh:∀ k∈kl,(look {} ob k).cl kl=true) (ij:∀ x∈args,x.cl kl=true) (dS:∀ x∈args,∀ id aa,(id,aa)∈(x.ren g).hands→aa≤(s.ob id).aa)
(lu : vs.length=args.length) (hv:∀ (j:Nat) u x,vs[j]? = some u→args[j]? = some x→VR w (aG J w β s) β s u (x.ren g)) :
  ∃ J' er,FR args.length w0 J' (xO args ob) ⟨vs.toArray,[]⟩ w er∧
   ∀ w' res aO aE v,FR 1 w0 J' ⟨[(0,res)],aO⟩ ⟨#[v],[]⟩ w' aE→
    (∀ k∈kl,(look {} aO k).ag≠.dead→(look {} aO k).ag.cJ=true∧(look {} aO k).sz=(look {} ob k).sz∧(look {} aO k).ag.bm=(look {} ob k).ag.bm)→
    (∀ k∈ex,(s.ob (g k)).aa<(look {} aO k).aa∧((look {} aO k).ag≠.dead→(look {} aO k).ag.cJ=true))→
    (∀ k∈kl++ex,(look {} aO k).cl (kl++ex)=true)→res.cl (kl++ex)=true→
    ∃ hU,FR N w0 J ⟨s.t,fe g (kl++ex) aO++s.o⟩ a w' hU∧VR w' (aG J w' hU ⟨s.t,fe g (kl++ex) aO++s.o⟩) hU ⟨s.t,fe g (kl++ex) aO++s.o⟩ v (res.ren g)∧
     ∀ id aa,(id,aa)∈(res.ren g).hands→aa≤((⟨s.t,fe g (kl++ex) aO++s.o⟩:ae).ob id).aa:=by
 have oC:(kl.map g).Nodup:=by
  rw [yY] at ee;exact (List.nodup_append.1 ee).1
 obtain ⟨er,oR⟩:∃ er:Nat→Option Nat,∀ k,er k=if k∈kl then β (g k) else none:=⟨fun k=>if k∈kl then β (g k) else none,fun _=>rfl⟩
 have gY:∀ k∈kl,er k=β (g k):=fun k hk=>by rw [oR,if_pos hk]
 have Bi:∀ k,k∉kl→er k=none:=fun k hk=>by rw [oR,if_neg hk]
 have n9:∀ k,k∉kl→look {} ob k=({}:zL):=fun k hk=>UF fun p hp e=>hk (by rw [← Ay,← e];exact zM.2 ⟨p,hp,rfl⟩);have gi:∀ k,((xO args ob).ob k).ag≠.dead→k∈kl:=fun k hl=>by
  by_cases hk:k∈kl
  ·exact hk
  ·exact absurd (by show (look {} ob k).ag=.dead;rw [n9 k hk]) hl
 have ah:∀ k∈kl,(s.ob (g k)).ag≠.dead:=fun k hk=>by rw [bw k hk,zL.aQ];exact xC.aU (gj k hk)
 have lh:∀ k∈kl,(s.ob (g k)).ag.cJ=true:=fun k hk=>by rw [bw k hk,zL.aQ];exact gj k hk
 have S:eR g (fun k=>k∈kl) er β (xO args ob) s:=⟨fun k hk=>bw k hk,fun k hk=>(gY k hk).symm⟩
 obtain ⟨ok,c8⟩:∃ ok:Nat→Prop,ok=fun b=>w.heap.size≤b∨aG J w β s b∨∃ k∈kl,β (g k)=some b:=⟨_,rfl⟩
 obtain ⟨I0,qD⟩:∃ I0:Nat→Prop,I0=aG { ok:=ok } w er (xO args ob):=⟨_,rfl⟩
 have kF:∀ b,aG J w β s b→I0 b:=fun b hb=>by
  subst qD;refine ⟨hb.1,by rw [c8];exact .inr (.inl hb),fun id hl e=>?_⟩;have hk:=gi id (xC.aU hl);rw [gY id hk] at e;exact hb.2.2 (g id) (lh id hk) e
 have tN:∀ b,I0 b→aG J w β s b:=fun b hb=>by
  subst qD;obtain ⟨h1,h2,h3⟩:=hb;have dX : ok b:=h2;rw [c8] at dX;rcases dX with dX|dX|⟨k,hk,e⟩
  ·omega
  ·exact dX
  ·exact absurd ((gY k hk).trans e) (h3 k (gj k hk))
 let J' : JJ:={ ok:=ok,K:=fun b=>b<w.heap.size∧∀ k∈kl,β (g k)≠some b,h0:=fun b=>w.heap[b]?,gh:=fun v f=>VR w I0 er (xO args ob) v f∧∀ id aa,(id,aa)∈f.hands→xl≤id∧aa≤((xO args ob).ob id).aa }
 have hJ:aG J' w er (xO args ob)=I0:=by rw [qD];rfl
 have mB:∀ k∈kl,(look {} ob k).ag=.aw→∀ f∈(look {} ob k).es.flatten,∀ i aa,(i,aa)∈f.hands→aa≤((xO args ob).ob i).aa:=fun k hk hl f hf i aa hm=>by
  have hO:=(h.obj (g k) (ah k hk)).dU (by rw [bw k hk,zL.aQ,hl];rfl) (by rw [bw k hk,zL.aQ,hl];rfl);have hi:=zL.cb (bh k hk) hl hf hm;rw [← S.aa hi];have bH : f.ren g∈(s.ob (g k)).es.flatten:=by
   rw [bw k hk,zL.j9 hl];show f.ren g∈((look {} ob k).es.map fun r=>r.map (FV.ren g)).flatten;rw [Zz];exact zM.2 ⟨f,hf,rfl⟩
  refine hO.bP _ bH (g i) aa ?_;obtain ⟨v,us,r1,r2,r3,r4⟩:=hO.row;obtain ⟨j,hj,ej⟩:=yS bH;have Aw:j<us.length:=by rw [r3];exact hj
  exact ve (r4 j us[j] _ (by simp [Aw]) (by rw [xZ hj,ej])) hm
 refine ⟨J',er,?_,?_⟩
 ·refine { size:=?_,defers:=rfl,bL:=h.bL,cB:=fun b hb=>?_,slot:=fun d=>?_,bP:=fun d id aa hm=>?_,obj:=fun id hl=>?_,inj:=fun id aM b hl ba e e'=>?_,kept:=fun b hb=>⟨hb.1,fun id hl e=>?_,rfl⟩,gh:=fun v f hg=>by rw [hJ];exact hg }
  ·simpa using lu
  ·show ok b∨(b<w.heap.size∧∀ k∈kl,β (g k)≠some b)
   rw [c8];by_cases h1:w.heap.size≤b
   ·exact .inl (.inl h1)
   ·by_cases h2:∃ k∈kl,β (g k)=some b
    ·exact .inl (.inr (.inr h2))
    ·exact .inr ⟨by omega,fun k hk e=>h2 ⟨k,hk,e⟩⟩
  ·rw [Vg,hJ];rcases yJ d args.length with hd|hd
   ·have na : d<vs.length:=by rw [lu];exact hd
    have e1:args.getD d .undef=args[d]:=by simp [hd]
    have e2:vs.toArray.getD d undef=vs[d]:=by simp [na]
    rw [e1];show VR w I0 er _ (vs.toArray.getD d undef) _;rw [e2];exact S.bwd kF (fun id aa hm=>FV.cb (ij _ (yR hd)) hm) (hv d _ _ (by simp [na]) (by simp [hd]))
   ·have e1:args.getD d .undef=.undef:=by simp [hd]
    rw [e1];exact VR.bt (.undef _) rfl
  ·rw [Vg] at hm;rcases yJ d args.length with hd|hd
   ·have e1:args.getD d .undef=args[d]:=by simp [hd]
    rw [e1] at hm;have hi:=FV.cb (ij _ (yR hd)) hm;rw [← S.aa hi];exact dS _ (yR hd) (g id) aa (ve (hv d (vs[d]'(by rw [lu];exact hd)) _ zg (by simp [hd])) hm)
   ·have e1:args.getD d .undef=.undef:=by simp [hd]
    rw [e1] at hm;cases hm
  ·rw [hJ];have hk:=gi id hl;exact S.nx kF hk (zL.ib (bh id hk)) (fun hh f hf i aa hm=>zL.cb (bh id hk) hh hf hm) (fun hh=>mB id hk hh) (h.obj (g id) (ah id hk))
  ·have hk:=gi id hl;have eE:=gi aM ba;rw [gY id hk] at e;rw [gY aM eE] at e';have h1:=h.inj (g id) (g aM) b (ah id hk) (ah aM eE) e e';have q1:=xF (β:=β) (aE:=fun k=>some k) oC hk;have q2:=xF (β:=β) (aE:=fun k=>some k) oC eE;rw [h1] at q1;rw [q1] at q2;injection q2
  ·have hk:=gi id hl;rw [gY id hk] at e;exact hb.2 id hk e
 ·intro w' res aO aE v F p1 p2 p3 p4;have hS:∀ k,(⟨[(0,res)],aO⟩:ae).ob k=look {} aO k:=fun _=>rfl;have fP:∀ k∈kl++ex,(⟨s.t,fe g (kl++ex) aO++s.o⟩:ae).ob (g k)=(look {} aO k).ren g:=fun k hk=>vD ee k hk;have kn:∀ id,(∀ k∈kl++ex,g k≠id)→(⟨s.t,fe g (kl++ex) aO++s.o⟩:ae).ob id=s.ob id:=fun id hk=>vE hk;have S2:eR g (fun k=>k∈kl++ex) aE (lG g (kl++ex) β aE) ⟨[(0,res)],aO⟩ ⟨s.t,fe g (kl++ex) aO++s.o⟩:=⟨fP,fun k hk=>xF ee hk⟩
  have rb : ∀ k∈kl++ex,(look {} aO k).ag≠.dead→(look {} aO k).ag.cJ=true:=fun k hk hl=>by
   rcases yT.1 hk with hk|hk
   ·exact (p1 k hk hl).1
   ·exact (p2 k hk).2 hl
  have kZ:∀ b,aG J' w' aE ⟨[(0,res)],aO⟩ b→aG J w' (lG g (kl++ex) β aE) ⟨s.t,fe g (kl++ex) aO++s.o⟩ b:=fun b hb=>by
   obtain ⟨h1,h2,h3⟩:=hb;have dX : ok b:=h2;rw [c8] at dX;have n4:J b:=by
    rcases dX with dX|dX|⟨k,hk,e⟩
    ·exact h.fresh b (zR h.bL.size dX) (.inl dX)
    ·exact dX.2.1
    ·exact h.fresh b ((h.obj _ (ah k hk)).lt e).1 (.inr ⟨_,ah k hk,e⟩)
   refine ⟨h1,n4,fun id hl e=>?_⟩;by_cases hx:∃ k∈kl++ex,g k=id
   ·obtain ⟨k,hk,rfl⟩:=hx;rw [fP k hk,zL.aQ] at hl;rw [xF ee hk] at e;exact h3 k hl e
   ·have eS : ∀ k∈kl++ex,g k≠id:=fun k hk e=>hx ⟨k,hk,e⟩;rw [kn id eS] at hl;rw [ZT eS] at e;rcases dX with dX|dX|⟨k,hk,e2⟩
    ·have:=((h.obj id (xC.aU hl)).lt e).2;omega
    ·exact dX.2.2 id hl e
    ·exact eS k (by simp [hk]) (h.inj _ _ b (ah k hk) (xC.aU hl) e2 e)
  have hK:∀ b,b<w.heap.size→(∀ k∈kl,β (g k)≠some b)→w'.heap[b]? = w.heap[b]?∧b<w'.heap.size∧∀ k,(look {} aO k).ag≠.dead→aE k≠some b:=fun b h1 h2=>by
   obtain ⟨k1,k2,k3⟩:=F.kept b ⟨h1,h2⟩;exact ⟨k3,k1,fun k hl=>k2 k hl⟩
  have hI:∀ b,aG J w β s b→aG J w' (lG g (kl++ex) β aE) ⟨s.t,fe g (kl++ex) aO++s.o⟩ b∧w'.heap[b]? = w.heap[b]?:=fun b hb=>by
   obtain ⟨k1,k2,k3⟩:=hK b hb.1 fun k hk=>hb.2.2 (g k) (lh k hk);refine ⟨⟨k2,hb.2.1,fun id hl e=>?_⟩,k1⟩;by_cases hx:∃ k∈kl++ex,g k=id
   ·obtain ⟨k,hk,rfl⟩:=hx;rw [fP k hk,zL.aQ] at hl;rw [xF ee hk] at e;exact k3 k (xC.aU hl) e
   ·have eS : ∀ k∈kl++ex,g k≠id:=fun k hk e=>hx ⟨k,hk,e⟩;rw [kn id eS] at hl;rw [ZT eS] at e;exact hb.2.2 id hl e
  have om:∀ v f,VR w I0 er (xO args ob) v f→(∀ id aa,(id,aa)∈f.hands→xl≤id∧aa≤((xO args ob).ob id).aa)→VR w' (aG J' w' aE ⟨[(0,res)],aO⟩) aE ⟨[(0,res)],aO⟩ v f∧∀ id aa,(id,aa)∈f.hands→aa≤(look {} aO id).aa:=fun v f h1 h2=>by
   obtain ⟨k1,k2⟩:=F.gh v f ⟨h1,h2⟩;exact ⟨k1,fun id aa hm=>(k2 id aa hm).2⟩
  have bf:∀ k∈kl,∃ v f,VR w I0 er (xO args ob) v f∧f.hands=[(k,(look {} ob k).aa)]:=fun k hk=>by
   have hO:=S.nx (I1:=I0) (I2:=aG J w β s) kF hk (zL.ib (bh k hk)) (fun hh f hf i aa hm=>zL.cb (bh k hk) hh hf hm) (fun hh=>mB k hk hh) (h.obj (g k) (ah k hk));have jz : cj w w0.heap.size I0 er (xO args ob) (er k) (look {} ob k):=hO;cases hs:(look {} ob k).ag.bm with
   | false =>
    obtain ⟨b,clock,ao,e1,_⟩:=jz.mI hs;exact ⟨.map (some b),.omap k (look {} ob k).aa,fun _ _=>⟨hs,b,e1,rfl⟩,rfl⟩
   | true=>
    cases hb:er k with
    | some b => exact ⟨.pointer (some ⟨b, 0 * (look {} ob k).sz+0, none⟩), .ptr k (look {} ob k).aa 0 0, fun _ _ => ⟨hs, b, hb, rfl⟩, rfl⟩
    | none =>
     refine ⟨.slice none 0 0,.own k (look {} ob k).aa 0 0,fun _ _=>⟨hs,none,0,rfl,zi _,by simp,fun _=>⟨rfl,rfl⟩,fun b e=>?_⟩,rfl⟩;rw [hb] at e;cases e
  have oM:∀ k∈kl,(look {} ob k).aa≤(look {} aO k).aa:=fun k hk=>by
   obtain ⟨v,f,h1,h2⟩:=bf k hk;refine (om v f h1 fun id aa hm=>?_).2 k _ (by rw [h2];simp);rw [h2] at hm;have mi:=yf.1 hm;injection mi with e1 e2
   subst e1;subst e2;exact ⟨gP _ hk,zi _⟩
  have qI:∀ k∈kl,(look {} aO k).ag≠.dead→(look {} aO k).aa=(look {} ob k).aa→aE k=er k:=fun k hk hl fQ=>by
   have hO:=S.nx (I1:=I0) (I2:=aG J w β s) kF hk (zL.ib (bh k hk)) (fun hh f hf i aa hm=>zL.cb (bh k hk) hh hf hm) (fun hh=>mB k hk hh) (h.obj (g k) (ah k hk));have jz : cj w w0.heap.size I0 er (xO args ob) (er k) (look {} ob k):=hO;have mb : ∀ f:FV,f.hands=[(k,(look {} ob k).aa)]→∀ id aa,(id,aa)∈f.hands→xl≤id∧aa≤((xO args ob).ob id).aa:=fun f e id aa hm=>by
    rw [e] at hm;have mi:=yf.1 hm;injection mi with e1 e2
    subst e1;subst e2;exact ⟨gP _ hk,zi _⟩
   cases hs:(look {} ob k).ag.bm with
   | false =>
    obtain ⟨b,clock,ao,e1,_⟩:=jz.mI hs;obtain ⟨_,b',k2,k3⟩:=(om (.map (some b)) (.omap k (look ({}:zL) ob k).aa) (fun _ _=>⟨hs,b,e1,rfl⟩) (mb _ rfl)).1 hl fQ;injection k3 with k3
    injection k3 with k3
    rw [k2,e1,k3]
   | true=>
    cases hb:er k with
    | some b =>
     obtain ⟨_,b',k2,k3⟩:=(om (.pointer (some ⟨b,0 * (look {} ob k).sz+0,none⟩)) (.ptr k (look ({}:zL) ob k).aa 0 0) (fun _ _=>⟨hs,b,hb,rfl⟩) (mb _ rfl)).1 hl fQ;injection k3 with k3
     injection k3 with k3
     injection k3 with k3 _ _
     rw [k2,k3]
    | none=>
     have:=(om (.slice none 0 0) (.own k (look ({}:zL) ob k).aa 0 0) (fun _ _=>⟨hs,none,0,rfl,zi _,by simp,fun _=>⟨rfl,rfl⟩,fun b e=>by
      have e' : er k=some b:=e;rw [hb] at e';cases e'⟩) (mb _ rfl)).1 hl fQ
     obtain ⟨A,c,e1,e2,e3,e4,e5⟩:=this.ex;cases bB : aE k with
     | none => rfl
     | some b =>
      obtain ⟨o',e6,_⟩:=e5 b bB;injection e1 with e1 _ _
      rw [e6] at e1;cases e1
  have Al:∀ k∈ex,k∉kl:=fun k hk eE=>by
   rw [yY] at ee;exact (List.nodup_append.1 ee).2.2 (g k) (zM.2 ⟨k,eE,rfl⟩) (g k) (zM.2 ⟨k,hk,rfl⟩) rfl
  have fz:∀ id,¬ (∃ k∈kl++ex,g k=id)→(s.ob id).ag≠.dead→∀ b,β id=some b→w'.heap[b]? = w.heap[b]?∧∀ k,(look {} aO k).ag≠.dead→aE k≠some b:=fun id hx hl b e=>by
   have eS : ∀ k∈kl++ex,g k≠id:=fun k hk e=>hx ⟨k,hk,e⟩;obtain ⟨k1,k2,k3⟩:=hK b ((h.obj id hl).lt e).2 fun k hk e2=>eS k (by simp [hk]) (h.inj _ _ b (ah k hk) hl e2 e);exact ⟨k1,k3⟩
  refine ⟨lG g (kl++ex) β aE,?_,?_,fun id aa hm=>?_⟩
  ·refine h.step (C:=fun id=>∃ k∈kl++ex,g k=id) h.size h.defers F.bL hI (fun k=>.inl ⟨rfl,rfl⟩) (fun id hC=>?_) (fun id hC=>?_) (fun id hC hl fQ=>?_) (fun id hC hl T=>?_) (fun id aM b hl ba e e'=>?_) (fun b az hn=>?_)
   ·have eS : ∀ k∈kl++ex,g k≠id:=fun k hk e=>hC ⟨k,hk,e⟩;exact ⟨kn id eS,ZT eS,fun hl b e=>(fz id hC hl b e).1⟩
   ·obtain ⟨k,hk,rfl⟩:=hC;rw [fP k hk,zL.dC];rcases yT.1 hk with hk|hk
    ·rw [bw k hk,zL.dC];exact oM k hk
    ·exact Nat.le_of_lt (p2 k hk).1
   ·obtain ⟨k,hk,rfl⟩:=hC;rw [fP k hk,zL.aQ] at hl;rw [fP k hk,zL.dC] at fQ;rcases yT.1 hk with cz|cz
    ·have oN : (look {} aO k).aa=(look {} ob k).aa:=by rw [fQ,bw k cz,zL.dC]
     have hb:=qI k cz hl oN;obtain ⟨q1,q2,q3⟩:=p1 k cz hl;refine ⟨ah k cz,by rw [xF ee hk,hb,gY k cz],?_,?_,fun v o n hv=>?_⟩
     ·rw [fP k hk,zL.dL,q2,bw k cz,zL.dL]
     ·rw [fP k hk,zL.aQ,q3,bw k cz,zL.aQ]
     ·have h1:=(S.own cz).1 hv;have h2:=(om v (.own k (look ({}:zL) ob k).aa o n) (fun _ _=>h1) (fun id aa hm=>by
       have mi:=yf.1 hm;injection mi with e1 e2
       subst e1;subst e2;exact ⟨gP _ cz,zi _⟩)).1 hl oN
      exact (S2.own hk).2 h2
    ·have:=(p2 k cz).1;omega
   ·obtain ⟨k,hk,rfl⟩:=hC;rw [fP k hk,zL.aQ] at hl;exact S2.Bq kZ hk (zL.ib (p3 k hk)) (fun hh f hf i aa hm=>zL.cb (p3 k hk) hh hf hm) (F.obj k hl)
   ·by_cases hx:∃ k∈kl++ex,g k=id
    ·obtain ⟨k,hk,rfl⟩:=hx;rw [fP k hk,zL.aQ] at hl;rw [xF ee hk] at e;by_cases eS : ∃ k∈kl++ex,g k=aM
     ·obtain ⟨k',eE,rfl⟩:=eS;rw [fP k' eE,zL.aQ] at ba;rw [xF ee eE] at e';rw [F.inj k k' b hl ba e e']
     ·have kK:∀ k∈kl++ex,g k≠aM:=fun k hk e=>eS ⟨k,hk,e⟩;rw [kn aM kK] at ba;rw [ZT kK] at e';exact absurd e ((fz aM eS ba b e').2 k hl)
    ·have oP:∀ k∈kl++ex,g k≠id:=fun k hk e=>hx ⟨k,hk,e⟩;rw [kn id oP] at hl;rw [ZT oP] at e;by_cases eS : ∃ k∈kl++ex,g k=aM
     ·obtain ⟨k',eE,rfl⟩:=eS;rw [fP k' eE,zL.aQ] at ba;rw [xF ee eE] at e';exact absurd e' ((fz id hx hl b e).2 k' ba)
     ·have kK:∀ k∈kl++ex,g k≠aM:=fun k hk e=>eS ⟨k,hk,e⟩;rw [kn aM kK] at ba;rw [ZT kK] at e';exact h.inj id aM b hl ba e e'
   ·obtain ⟨k1,k2,k3⟩:=hK b az fun k hk=>hn (g k) (ah k hk);refine ⟨k1,fun id hl e=>?_⟩;by_cases hx:∃ k∈kl++ex,g k=id
    ·obtain ⟨k,hk,rfl⟩:=hx;rw [fP k hk,zL.aQ] at hl;rw [xF ee hk] at e;exact k3 k hl e
    ·have oP:∀ k∈kl++ex,g k≠id:=fun k hk e=>hx ⟨k,hk,e⟩;rw [kn id oP] at hl;rw [ZT oP] at e;exact hn id hl e
  ·exact S2.fwd kZ (fun id aa hm=>FV.cb p4 hm) (F.slot 0)
  ·rcases vg hm with ⟨k,hk,rfl⟩|h0
   ·have:=F.bP 0 k aa hk;rw [S2.aa (FV.cb p4 hk)];exact this
   ·rw [h0];exact zB _
structure rY (ob:List (Nat×zL)) (ex:List Nat) (res:FV) (o:Nat→zL):Prop where
 oX:∀ k∈ob.map Prod.fst,(o k).ag≠.dead→(o k).ag.cJ=true∧(o k).sz=(look {} ob k).sz∧(o k).ag.bm=(look {} ob k).ag.bm
 new:∀ k∈ex,0<(o k).aa∧((o k).ag≠.dead→(o k).ag.cJ=true)
 cl:∀ k∈ob.map Prod.fst++ex,(o k).cl (ob.map Prod.fst++ex)=true
 res:res.cl (ob.map Prod.fst++ex)=true
structure Ue (P:Program) (f:Nat) (args:List FV) (ob:List (Nat×zL)) (ex:List Nat) (Q:FV→(Nat→zL)→Prop):Prop where
 go:nK P f=true
 post:∀ res o,Q res o→rY ob ex res o
 calls:∀ (w0:World) (J:JJ) (w:World) (β:Nat→Option Nat) (vs:List Value),FR args.length w0 J (xO args ob) ⟨vs.toArray,[]⟩ w β→
  Calls P f vs.toArray w fun e w'=>∃ v res aO aE,e=.returned v∧Q res (look {} aO)∧FR 1 w0 J ⟨[(0,res)],aO⟩ ⟨#[v],[]⟩ w' aE
inductive nH (c:Ctx) (fn:Func) (s:ae):FV→Prop where
 | tmp {t:Nat} {res:FV} (hr:fn.results.toList=[.tmp t]) (h:s.get t=res):nH c fn s res
 | plain {fs:List FV} {f:FV} (h:ku c s fn.results.toList fs) (he:pj fs=f) (hf:f.hand=none):nH c fn s f
 | pair {t u:Nat} {f g:FV} (hr:fn.results.toList=[.tmp t, .tmp u]) (h1:s.get t=f) (h2:s.get u=g) (hf:∀ k fs, f ≠ .wrap k fs) (hg:∀ k fs, g ≠ .wrap k fs):nH c fn s (.wrap .bS [f, g])
 | run {res:FV} (h:∀ (w0:World) (J:JJ) (a:Act) (w:World) (β:Nat → Option Nat), FR c.N w0 J s a w β → ∃ v, (results fn a.tmps).run c.P w=.ok v w ∧ VR w (aG J w β s) β s v res ∧ ∀ id aa, (id, aa) ∈ res.hands → aa ≤ (s.ob id).aa):nH c fn s res
theorem VR.t {t t2:List (Nat×FV)} {ob:List (Nat×zL)} {f:FV} (h:VR w I β ⟨t,ob⟩ v f):VR w I β ⟨t2,ob⟩ v f:=
 h.mono (fun b hb=>⟨hb,rfl⟩) (fun _ _ _ h1 h2=>⟨h1,h2,rfl,rfl,rfl,fun _ _ _ h=>h⟩)
theorem FR.slots {N2:Nat} {t t2:List (Nat×FV)} {ob:List (Nat×zL)} {a2:Act} (h:FR N w0 J ⟨t,ob⟩ a w β) (hs:a2.tmps.size=N2) (hd:a2.defers=J.ds)
  (cu:∀ d,VR w (aG J w β ⟨t,ob⟩) β ⟨t,ob⟩ (a2.tmps.getD d undef) ((⟨t2,ob⟩:ae).get d)∧∀ id aa,(id,aa)∈((⟨t2,ob⟩:ae).get d).hands→aa≤((⟨t,ob⟩:ae).ob id).aa):FR N2 w0 J ⟨t2,ob⟩ a2 w β where
 size:=hs
 defers:=hd
 bL:=h.bL
 cB:=h.cB
 slot d:=(cu d).1.t
 bP d id aa hm:=(cu d).2 id aa hm
 obj id hl:=(h.obj id hl).mono (fun b hb=>⟨hb,rfl⟩) (fun _ _=>rfl) (fun _ _ hv _=>hv.t) (fun _=>zi _)
 inj:=h.inj
 kept:=h.kept
 gh v f hg:=⟨(h.gh v f hg).1.t,(h.gh v f hg).2⟩
theorem VR.plain {f:FV} (h:Rd w I v f) (hf:f.hand=none) {s2:ae}:VR w I β s2 v f∧∀ id aa,(id,aa)∈f.hands→aa≤(s.ob id).aa:=
 ⟨VR.bt h hf,fun _ _ hm=>(FV.aT hf hm).elim⟩
theorem Ue.eh (hf:w5 c f fn code) {args:List FV} {ob:List (Nat×zL)} {Q:FV→(Nat→zL)→Prop} (hl:args.length≤c.N) (hp:∀ res o,Q res o→rY ob ex res o)
  (h:FW c code (fun e s=>(e=.ret∨e=.normal)∧∃ res,nH c fn s res∧Q res (look {} s.o)) (xO args ob)):Ue c.P f args ob ex Q where
 go:=hf.g
 post:=hp
 calls w0 J w β vs hF:=by
  have lu:vs.length=args.length:=by simpa using hF.size
  refine calls_of_wp hf.at_ hf.b ?_;rw [hf.n];have hE:FR c.N w0 J (xO args ob) { tmps:=vs.toArray++Array.replicate (c.N - vs.toArray.size) undef,defers:=[] } w β:=by
   refine hF.slots (t2:=(xO args ob).t) zF hF.defers fun d=>?_;rcases yJ d args.length with hd|hd
   ·have e2:(vs.toArray++Array.replicate (c.N - vs.toArray.size) undef).getD d undef=vs.toArray.getD d undef:=by
     rw [YG,wj zF,← YG]
    refine ⟨?_,fun id aa hm=>hF.bP d id aa hm⟩;dsimp only;rw [e2];exact hF.slot d
   ·have e1:(⟨(xO args ob).t,ob⟩:ae).get d=.undef:=by
     have:=Vg args ob d;have e3:args.getD d .undef=.undef:=by simp [hd]
     rw [e3] at this;exact this
    rw [e1];exact VR.plain (.undef _) rfl
  refine wp_mono (WK c.mixed (h w0 J _ w β hE)) ?_;rintro e a' w' ⟨⟨t',aO⟩,aE,⟨he,res,hr,hq⟩,dZ⟩;have kH:∃ v,(results fn a'.tmps).run c.P w'=.ok v w'∧VR w' (aG J w' aE ⟨t',aO⟩) aE ⟨t',aO⟩ v res∧∀ id aa,(id,aa)∈res.hands→aa≤((⟨t',aO⟩:ae).ob id).aa:=by
   cases hr with
   | @tmp t res hr h =>
    have mq:fn.results=#[.tmp t]:=by apply ZP;simpa using hr
    subst h;exact ⟨_,results_tmp mq _ _ _,dZ.slot t,dZ.bP t⟩
   | run h => exact h _ _ _ _ _ dZ
   | plain h he bY =>
    obtain ⟨v,h1,h2⟩:=YT dZ fn h;rw [he] at h2;exact ⟨v,h1,VR.plain h2 bY⟩
   | @pair t u f g hr h1 h2 hf hg=>
    subst h1;subst h2;have mq:fn.results=#[.tmp t,.tmp u]:=by apply ZP;simpa using hr
    refine ⟨.tuple #[a'.tmps.getD t undef,a'.tmps.getD u undef],?_,⟨[a'.tmps.getD t undef,a'.tmps.getD u undef],rfl,rfl,fun j x y hx hy=>?_⟩,fun id aa hm=>?_⟩
    ·unfold results;rw [mq];simp
    ·match j with
     | 0 => injection hx with hx; injection hy with hy; subst hx; subst hy; exact (dZ.slot t).mS hf
     | 1 => injection hx with hx; injection hy with hy; subst hx; subst hy; exact (dZ.slot u).mS hg
     | j+2 => simp at hx
    ·obtain ⟨q,hq,e⟩:=yZ.1 hm;simp only [zT,Za,or_false] at hq;rcases hq with rfl|rfl
     ·exact dZ.bP t id aa (FV.cC hf e)
     ·exact dZ.bP u id aa (FV.cC hg e)
  obtain ⟨v,h1,h2,h3⟩:=kH;have key:a'.defers=[]∧∃ v,(results fn a'.tmps).run c.P w'=.ok v w'∧∃ v' res aO aE,Ending.returned v=.returned v'∧Q res (look {} aO)∧FR 1 w0 J ⟨[(0,res)],aO⟩ ⟨#[v'],[]⟩ w' aE:=by
   refine ⟨dZ.defers.trans hF.defers.symm,v,h1,v,res,aO,aE,rfl,hq,dZ.slots rfl hF.defers fun d=>?_⟩;cases d with
   | zero => exact ⟨h2, h3⟩
   | succ d => exact VR.plain (.undef _) rfl
  rcases he with rfl|rfl
  ·exact key
  ·exact key
def cL (π:List (Nat×Nat)) (k:Nat):Nat:=look 0 π k
inductive yl (o:List (Nat×zL)) (g:Nat→Nat):List (Nat×zL)→Prop where
 | nil:yl o g []
 | cons {k:Nat} {b:zL} {l:List (Nat × zL)} (h:look {} o (g k)=b.ren g) (hm:b.ag.cJ=true) (hg:Nat.ble xl k=true) (hs:yl o g l):yl o g ((k, b) :: l)
theorem yl.get {o:List (Nat×zL)} {l:List (Nat×zL)} (h:yl o g l):∀ k∈l.map Prod.fst,look {} o (g k)=(look {} l k).ren g∧(look {} l k).ag.cJ=true∧xl≤k:=by
 induction h with
 | nil => intro k hk; cases hk
 | @cons k b l h hm hg hs ih=>
  intro q hq;rw [zN];by_cases rr:k=q
  ·subst rr;rw [if_pos rfl];exact ⟨h,hm,yd hg⟩
  ·rw [if_neg rr];rcases zT.1 hq with e|e
   ·exact absurd e.symm rr
   ·exact ih q e
section
variable {c:Ctx} {w0 w:World} {J:JJ} {a:Act} {β:Nat→Option Nat} {t:List (Nat×FV)} {ob:List (Nat×zL)}
theorem vF (h:FR c.N w0 J ⟨t,ob⟩ a w β) {args:List FV} {c4:List (Nat×zL)} {Q:FV→(Nat→zL)→Prop} (hs:Ue c.P f args c4 ex Q) (g:Nat→Nat) (bw:yl ob g c4)
  (ee:((c4.map Prod.fst++ex).map g).Nodup) (bh:c4.all (fun p=>(look {} c4 p.1).cl (c4.map Prod.fst))=true) (ij:args.all (FV.cl (c4.map Prod.fst))=true) (hex:∀ k∈ex,((⟨t,ob⟩:ae).ob (g k)).aa=0)
  (lu:vs.length=args.length) (hv:∀ (j:Nat) u x,vs[j]? = some u→args[j]? = some x→VR w (aG J w β ⟨t,ob⟩) β ⟨t,ob⟩ u (x.ren g)) (dS:∀ x∈args,∀ id aa,(id,aa)∈(x.ren g).hands→aa≤((⟨t,ob⟩:ae).ob id).aa) :
  Calls c.P f vs.toArray w fun e w'=>∃ v res aO aE,e=.returned v∧Q res (look {} aO)∧FR c.N w0 J ⟨t,fe g (c4.map Prod.fst++ex) aO++ob⟩ a w' aE∧
   VR w' (aG J w' aE ⟨t,fe g (c4.map Prod.fst++ex) aO++ob⟩) aE ⟨t,fe g (c4.map Prod.fst++ex) aO++ob⟩ v (res.ren g)∧∀ id aa,(id,aa)∈(res.ren g).hands→aa≤((⟨t,fe g (c4.map Prod.fst++ex) aO++ob⟩:ae).ob id).aa:=by
 have hG:=bw.get;obtain ⟨J',er,hE,hB⟩:=h.rG (args:=args) (ob:=c4) (g:=g) (kl:=c4.map Prod.fst) (ex:=ex) rfl (fun k hk=>(hG k hk).1) (fun k hk=>(hG k hk).2.1) (fun k hk=>(hG k hk).2.2) ee
  (fun k hk=>by obtain ⟨p,hp,rfl⟩:=zM.1 hk;exact zV.1 bh p hp) (fun x hx=>zV.1 ij x hx) dS lu hv
 refine (hs.calls w0 J' w er vs hE).mono ?_;rintro e w' ⟨v,res,aO,aE,rfl,hq,hF⟩;have hp:=hs.post res _ hq;obtain ⟨hU,k1,k2,k3⟩:=hB w' res aO aE v hF hp.oX (fun k hk=>⟨by rw [hex k hk];exact (hp.new k hk).1,(hp.new k hk).2⟩) hp.cl hp.res;exact ⟨v,res,aO,hU,rfl,hq,k1,k2,k3⟩
theorem wh (h:FR c.N w0 J ⟨t,ob⟩ a w β) {args:List FV} (hx:xs.map (⟨t,ob⟩:ae).ev=args.map (FV.ren g)):(xs.map a.eval).length=args.length∧
  (∀ (j:Nat) u x,(xs.map a.eval)[j]? = some u→args[j]? = some x→VR w (aG J w β ⟨t,ob⟩) β ⟨t,ob⟩ u (x.ren g))∧∀ x∈args,∀ id aa,(id,aa)∈(x.ren g).hands→aa≤((⟨t,ob⟩:ae).ob id).aa:=by
 have hl:xs.length=args.length:=by have:=congrArg List.length hx;simpa using this
 have hj:∀ (j:Nat) y x,xs[j]? = some y→args[j]? = some x→(⟨t,ob⟩:ae).ev y=x.ren g:=fun j y x hy oQ=>by
  have:=congrArg (fun l=>l[j]?) hx;simp only [yK,hy,oQ,xU,yh] at this;exact this
 refine ⟨by simpa using hl,fun j u x hu oQ=>?_,fun x oQ id aa hm=>?_⟩
 ·rw [yK] at hu;cases hy:xs[j]? with
  | none => rw [hy] at hu; cases hu
  | some y =>
   rw [hy] at hu;injection hu with hu
   subst hu;rw [← hj j y x hy oQ];exact h.ev y
 ·obtain ⟨j,im,rfl⟩:=yS oQ;have Ax:j<xs.length:=by rw [hl];exact im
  rw [← hj j xs[j] args[j] (by simp [Ax]) zg] at hm;exact h.cr _ hm
end
theorem FR.g5 (h:FR N w0 J s a w β) {dst:Option Nat} {f:FV} (hd:∀ d,dst=some d→d<N) (hv:VR w (aG J w β s) β s v f) (aC:∀ id aa,(id,aa)∈f.hands→aa≤(s.ob id).aa) :
  FR N w0 J (s.g5 dst f) (a.put dst v) w β:=by
 cases dst with
 | none => exact h
 | some d => exact h.put (hd d rfl) hv aC
section
variable {c:Ctx} {ops:Array Oper} {rest:List Oper} {t:List (Nat×FV)} {ob:List (Nat×zL)} {dst:Option Nat} {ty:TypeId} {pos:String} {af:Array Edge} {gd:Option (Nat×Bool)} {QS:ae→Prop}
def oU:List Nat→Bool
 | [] => true
 | x :: l => (l.all fun y => !Nat.beq x y) && oU l
theorem UH:∀ {l:List Nat},oU l=true→l.Nodup
 | [], _ => List.nodup_nil
 | x :: l, h => by
  simp only [oU,zU] at h;refine XE.2 ⟨fun hx=>?_,UH h.2⟩;have:=zV.1 h.1 x hx;simp at this
def XO (c:Ctx) (ops:Array Oper) (rest:List Oper) (dst:Option Nat) (t:List (Nat×FV)) (ob:List (Nat×zL)) (π:List (Nat×Nat)) (ks:List Nat) (QS:ae→Prop) (res:FV) (aO : List (Nat×zL)):Prop:=
 ∃ r l,res.ren (cL π)=r∧fe (cL π) ks aO=l∧zn c ops rest (ae.g5 ⟨t,l++ob⟩ dst r) QS
theorem XO.one {d:Nat} {π:List (Nat×Nat)} {ks:List Nat} {res:FV} {aO : List (Nat×zL)} (l:List (Nat×zL)) (r:FV) (h1:res.ren (cL π)=r) (h2:fe (cL π) ks aO=l) (h:zn c ops rest ⟨(d,r)::t,l++ob⟩ QS):XO c ops rest (some d) t ob π ks QS res aO:=⟨r,l,h1,h2,h⟩
def wW (N:Nat):Option Nat→Bool
 | some d => Nat.blt d N
 | none => true
theorem Ew {dst:Option Nat} (h:wW N dst=true):∀ d,dst=some d→d<N:=by rintro d rfl;exact yd h
theorem xv {ts:Array TypeId} {args:List FV} {c4:List (Nat×zL)} {Q:FV→(Nat→zL)→Prop} (hs:Ue c.P f args c4 ex Q) (π:List (Nat×Nat)) (hx:xs.map (⟨t,ob⟩:ae).ev=args.map (FV.ren (cL π)))
  (bw:yl ob (cL π) c4) (ee:oU ((c4.map Prod.fst++ex).map (cL π))=true) (bh:c4.all (fun p=>(look {} c4 p.1).cl (c4.map Prod.fst))=true) (ij:args.all (FV.cl (c4.map Prod.fst))=true) (hex:ex.all (fun k=>Nat.beq ((⟨t,ob⟩:ae).ob (cL π k)).aa 0)=true)
  (hd:wW c.N dst=true) (hw:ZC ops ⟨t,ob⟩ (⟨dst,.call { callee:=.value (.func f),args:=xs.toArray,argTypes:=ts },ty,pos,af,gd⟩:Oper) true)
  (k:∀ res aO,Q res (look {} aO)→XO c ops rest dst t ob π (c4.map Prod.fst++ex) QS res aO) :
  zn c ops ((⟨dst,.call { callee:=.value (.func f),args:=xs.toArray,argTypes:=ts },ty,pos,af,gd⟩:Oper)::rest) ⟨t,ob⟩ QS:=fun QQ w0 J a w β hQ hF=>by
 unfold wpList;rw [if_pos (hw.model hF)];refine .inl ?_;obtain ⟨h1,h2,h3⟩:=wh hF hx;have hc:=vF hF hs (cL π) bw (UH ee) bh ij (fun k hk=>Wz (zV.1 hex k hk)) h1 h2 h3;have bu:(xs.map a.eval).toArray=xs.toArray.map a.eval:=by apply ZP;simp
 rw [bu] at hc;unfold Oper.wp;have bx:(execOp a.eval ⟨dst,.call { callee:=.value (.func f),args:=xs.toArray,argTypes:=ts },ty,pos,af,gd⟩).run c.P w=.ok (.enter f (xs.toArray.map a.eval)) w:=by
  have:=Yl (P:=c.P) hs.go (xs.toArray.map a.eval) w;simp [execOp,resolve,Act.eval,Deferred.ofValue,invoke] at this ⊢;exact this
 rw [bx,WF];refine hc.mono ?_;rintro e w' ⟨v,res,aO,aE,rfl,hq,k1,k2,k3⟩;obtain ⟨r,l,e1,e2,hk⟩:=k res aO hq;subst e1;subst e2;exact hk QQ w0 J _ w' aE hQ (k1.g5 (Ew hd) k2 k3)
end
structure aN where
 p:Int
 k:Int
 key:Int
 arg:Int
 res:Int
 call:Int
 ret:Int
 done:Bool
 deriving DecidableEq,Inhabited
def aN.aS (o:aN):List Value:=[.int .i64 o.p,.int .i64 o.k,.int .i64 o.key,.int .i64 o.arg,.int .i64 o.res,.int .i64 o.call,.int .i64 o.ret,.bool o.done]
theorem aN.wide:sU 8 aN.aS:=fun _=>rfl
def qm (x:Int):List Value:=[.int .i64 x]
section
variable {w:World} {B:Nat} {A:Option Addr}
theorem Sl.op {l:List aN} (h:Sl aN.aS w B A l) (hi:i<l.length):∃ b off,A=some ⟨b,off,none⟩∧b<B∧
  w.cell? ⟨b,off+i * 8,none⟩=some (.int .i64 (nth l i).p)∧w.cell? ⟨b,off+i * 8+1,none⟩=some (.int .i64 (nth l i).k)∧w.cell? ⟨b,off+i * 8+2,none⟩=some (.int .i64 (nth l i).key)∧
  w.cell? ⟨b,off+i * 8+3,none⟩=some (.int .i64 (nth l i).arg)∧w.cell? ⟨b,off+i * 8+4,none⟩=some (.int .i64 (nth l i).res)∧w.cell? ⟨b,off+i * 8+5,none⟩=some (.int .i64 (nth l i).call)∧
  w.cell? ⟨b,off+i * 8+6,none⟩=some (.int .i64 (nth l i).ret)∧w.cell? ⟨b,off+i * 8+7,none⟩=some (.bool (nth l i).done):=by
 obtain ⟨b,off,ha,hb,hc⟩:=h.get aN.wide hi;rw [← xI hi] at hc;exact ⟨b,off,ha,hb,hc 0 _ zc rfl,hc 1 _ zc rfl,hc 2 _ zc rfl,hc 3 _ zc rfl,hc 4 _ zc rfl,hc 5 _ zc rfl,hc 6 _ zc rfl,hc 7 _ zc rfl⟩
theorem Sl.pM {b off:Nat} {l:List aN} (h:Sl aN.aS w B (some ⟨b,off,none⟩) l) (hi:i<l.length) :
  w.cell? ⟨b,off+i * 8,none⟩=some (.int .i64 (nth l i).p)∧w.cell? ⟨b,off+i * 8+1,none⟩=some (.int .i64 (nth l i).k)∧w.cell? ⟨b,off+i * 8+2,none⟩=some (.int .i64 (nth l i).key)∧
  w.cell? ⟨b,off+i * 8+3,none⟩=some (.int .i64 (nth l i).arg)∧w.cell? ⟨b,off+i * 8+4,none⟩=some (.int .i64 (nth l i).res)∧w.cell? ⟨b,off+i * 8+5,none⟩=some (.int .i64 (nth l i).call)∧
  w.cell? ⟨b,off+i * 8+6,none⟩=some (.int .i64 (nth l i).ret)∧w.cell? ⟨b,off+i * 8+7,none⟩=some (.bool (nth l i).done):=by
 obtain ⟨b',dT,ha,_,hc⟩:=h.op hi;injection ha with ha;injection ha with h1 h2;subst h1;subst h2
 exact hc
end
theorem Ec (l:List Int):flat qm l=l.map (Value.int .i64):=by
 induction l with
 | nil => rfl
 | cons a l ih => simp only [flat, Yd, qm, zH, List.cons_append, VO] at *; rw [ih]
theorem dF.op {g:Nat} {t:TypeId} {o:aN} (h:dF w g t o.aS):w.cell? ⟨g,0,none⟩=some (.int .i64 o.p)∧w.cell? ⟨g,1,none⟩=some (.int .i64 o.k)∧w.cell? ⟨g,2,none⟩=some (.int .i64 o.key)∧
  w.cell? ⟨g,3,none⟩=some (.int .i64 o.arg)∧w.cell? ⟨g,4,none⟩=some (.int .i64 o.res)∧w.cell? ⟨g,5,none⟩=some (.int .i64 o.call)∧w.cell? ⟨g,6,none⟩=some (.int .i64 o.ret)∧w.cell? ⟨g,7,none⟩=some (.bool o.done):=
 ⟨h.cell 0,h.cell 1,h.cell 2,h.cell 3,h.cell 4,h.cell 5,h.cell 6,h.cell 7⟩
def y9 (x y:aN):Bool:=decide (x=y)
@[go_sem] theorem aN.eta (x:aN):(⟨x.p,x.k,x.key,x.arg,x.res,x.call,x.ret,x.done⟩:aN)=x:=rfl
@[go_sem ↓] theorem px (w:World) (a1 a2 a3 a4 a5 a6 a7 b1 b2 b3 b4 b5 b6 b7:Int) (a8 b8:Bool):(Op.equalIn 10000 77 (.agg #[.int .i64 a1,.int .i64 a2,.int .i64 a3,.int .i64 a4,.int .i64 a5,.int .i64 a6,.int .i64 a7,.bool a8])
  (.agg #[.int .i64 b1,.int .i64 b2,.int .i64 b3,.int .i64 b4,.int .i64 b5,.int .i64 b6,.int .i64 b7,.bool b8])).run Tryz.prog w=.ok (y9 ⟨a1,a2,a3,a4,a5,a6,a7,a8⟩ ⟨b1,b2,b3,b4,b5,b6,b7,b8⟩) w:=by
 unfold y9;have hS:Tryz.prog.underlying 77=some (.struct (Tryz.prog.fieldsOf 77)):=by kernel_rfl
 have hp:Tryz.prog.stoodInHeld 77=false:=by kernel_rfl
 rw [show (10000:Nat)=9999+1 from rfl,run_equalIn_agg w 9999 77 _ _ hS hp];simp only [Program.fieldsOf,Tryz.underlying77];simp [go_sem];by_cases h1:a1=b1
 ·by_cases h2:a2=b2
  ·by_cases h3:a3=b3
   ·by_cases h4:a4=b4
    ·by_cases h5:a5=b5
     ·by_cases h6:a6=b6
      ·by_cases h7:a7=b7
       ·by_cases h8:a8=b8 <;> simp [h1,h2,h3,h4,h5,h6,h7,h8]
       ·simp [h1,h2,h3,h4,h5,h6,h7]
      ·simp [h1,h2,h3,h4,h5,h6]
     ·simp [h1,h2,h3,h4,h5]
    ·simp [h1,h2,h3,h4]
   ·simp [h1,h2,h3]
  ·simp [h1,h2]
 ·simp [h1]
end
section
open Go.RowKit Go.Maps Go.MapKept Go.ChangeMaps
structure pq (P:Program) (k:TypeId) (κ:Type) (ek:κ→Value) (ok:κ→Prop):Prop where
 K:Keyed P k
 of:∀ x,ok x→∃ l,keyOf P k (ek x)=some l
 inj:∀ x y,ek x=ek y→x=y
def YD {κ:Type} (ek:κ→Value) (ok:κ→Prop) (w:World) (b n:Nat) (f:κ→Option Value):Prop:=
 ∃ es clock,w.heap[b]? = some (.map es clock)∧es.size≤n∧Stamped es clock∧(∀ e∈es.toList,∃ x,ok x∧e.key=ek x)∧∀ x u,f x=some u↔∃ e∈es.toList,e.key=ek x∧e.val=u
open Classical in
noncomputable def lC {κ:Type} (f:κ→Option Value) (x:κ) (u:Value):κ→Option Value:=fun y=>if y=x then some u else f y
theorem Ub (f:κ→Option Value) (x:κ) (u:Value):lC f x u x=some u:=by simp [lC]
theorem Vb (f:κ→Option Value) {x y:κ} (u:Value) (h:y≠x):lC f x u y=f y:=by simp [lC,h]
section
variable {κ:Type} {ek:κ→Value} {ok:κ→Prop} {P:Program} {k:TypeId} {w w' : World} {b n:Nat} {f:κ→Option Value}
theorem YD.made (w:World):YD ek ok (w.alloc (.map #[] 0)) w.heap.size 0 (fun _=>none):=
 ⟨#[],0,heap_alloc_new w _,zi _,stamped_empty _,by simp,by simp⟩
theorem YD.lt (h:YD ek ok w b n f):b<w.heap.size:=by
 obtain ⟨es,clock,hb,_⟩:=h;exact (Zh.1 hb).1
theorem YD.mono (h:YD ek ok w b n f) {n' : Nat} (hn:n≤n'):YD ek ok w b n' f:=by
 obtain ⟨es,clock,hb,hs,r⟩:=h;exact ⟨es,clock,hb,by omega,r⟩
theorem YD.eM (h:YD ek ok w b n f) (hb:w'.heap[b]? = w.heap[b]?):YD ek ok w' b n f:=by
 obtain ⟨es,clock,hh,r⟩:=h;exact ⟨es,clock,hb.trans hh,r⟩
theorem YD.drewN (h:YD ek ok w b n f) (m:Nat):YD ek ok (w.drewN m) b n f:=h
theorem YD.alloc (h:YD ek ok w b n f) (o:Obj):YD ek ok (w.alloc o) b n f:=h.eM (Below.heap_alloc w o b h.lt)
theorem YD.grown {row:Option Nat} (h:YD ek ok w b n f) (hg:w.grownBy w' row) (hr:some b≠row):YD ek ok w' b n f:=h.eM (hg.block b h.lt hr)
theorem YD.ext (h:YD ek ok w b n f) (hb:Below w.heap.size w w'):YD ek ok w' b n f:=h.eM (hb.block b h.lt)
theorem YD.j6 (h:YD ek ok w b n f) {g:Nat} {t:TypeId} {cs:List Value} (ho:dF w g t cs):b≠g:=by
 obtain ⟨es,clock,hb,_⟩:=h;rintro rfl;unfold dF at ho;rw [hb] at ho;cases ho
theorem El {e t:TypeId} (T:pq P k κ ek ok) (ht:P.underlying t=some (.map k e)) (hz:(zeroValue e).run P w=.ok z w) (h:YD ek ok w b n f) (c:Bool) (x:κ) (hx:ok x) :
  (Instr.lookup t (.map (some b)) (ek x) c).run P w=.ok (if c then .tuple #[(f x).getD z,.bool (f x).isSome] else (f x).getD z) w:=by
 obtain ⟨es,clock,hb,hs,bO,dy,hf⟩:=h;obtain ⟨l,hl⟩:=T.of x hx;have kj:∀ e∈es.toList,∃ l,keyOf P k e.key=some l:=fun e he=>by
  obtain ⟨y,hy,he⟩:=dy e he;obtain ⟨l,hl⟩:=T.of y hy;exact ⟨l,by rw [he];exact hl⟩
 rcases T.K.find w hl es.toList kj with ⟨h1,h2⟩|⟨j,e0,h1,h2,h3⟩
 ·have hn:f x=none:=by
   cases Aq:f x with
   | none => rfl
   | some u =>
    obtain ⟨e,he,hk,_⟩:=(hf x u).1 Aq;exact absurd hk (h2 e he)
  cases c <;> simp [Instr.lookup,run_underlying ht,xD hb,T.K.check w _ hl,h1,hz,Result.andThen,hn]
 ·have hn:f x=some e0.val:=(hf x _).2 ⟨e0,zZ h2,h3,rfl⟩;cases c <;> simp [Instr.lookup,run_underlying ht,xD hb,T.K.check w _ hl,h1,Result.andThen,hn]
theorem Fe {e t:TypeId} (T:pq P k κ ek ok) (ht:P.underlying t=some (.map k e)) (h:YD ek ok w b n f) (x:κ) (hx:ok x) (u:Value) :
  ∃ w',(Instr.mapUpdate t (.map (some b)) (ek x) u).run P w=.ok () w'∧YD ek ok w' b (n+1) (lC f x u)∧w.grownBy w' (some b):=by
 obtain ⟨es,clock,hb,hs,bO,dy,hf⟩:=h;obtain ⟨l,hl⟩:=T.of x hx;have kj:∀ e∈es.toList,∃ l,keyOf P k e.key=some l:=fun e he=>by
  obtain ⟨y,hy,he⟩:=dy e he;obtain ⟨l,hl⟩:=T.of y hy;exact ⟨l,by rw [he];exact hl⟩
 have gr:∀ o,w.grownBy (setBlock w b o) (some b):=fun o=>⟨rfl,rfl,rfl,by simp [setBlock],fun i _ hi=>heap_setBlock_other hb _ (fun e=>hi (by rw [e]))⟩
 rcases T.K.find w hl es.toList kj with ⟨h1,h2⟩|⟨j,e0,h1,h2,h3⟩
 ·refine ⟨setBlock w b (.map (es.push ⟨ek x,u,clock⟩) (clock+1)),?_,⟨_,_,heap_setBlock_same hb _,by simp;omega,stamped_push bO h2,?_,?_⟩,gr _⟩
  ·simp [Instr.mapUpdate,run_underlying ht,xD hb,T.K.check w false hl,h1,Wx _ hb,Result.andThen,setBlock]
  ·intro e he;simp only [sy,yT,yf] at he;rcases he with he|rfl
   ·exact dy e he
   ·exact ⟨x,hx,rfl⟩
  ·intro y v;by_cases hy:y=x
   ·subst hy;rw [Ub];constructor
    ·intro hv;injection hv with hv;exact ⟨⟨ek y,u,clock⟩,by simp,rfl,hv⟩
    ·rintro ⟨e,he,hk,hv⟩;simp only [sy,yT,yf] at he;rcases he with he|rfl
     ·exact absurd hk (h2 e he)
     ·rw [← hv]
   ·rw [Vb f u hy,hf];constructor
    ·rintro ⟨e,he,hk,hv⟩;exact ⟨e,by simp [he],hk,hv⟩
    ·rintro ⟨e,he,hk,hv⟩;simp only [sy,yT,yf] at he;rcases he with he|rfl
     ·exact ⟨e,he,hk,hv⟩
     ·exact absurd (T.inj _ _ hk).symm hy
 ·have hj:es[j]? = some e0:=by simpa using h2
  have im:j<es.toList.length:=(yq.1 h2).1;have jO:∀ e',es[j]? = some e'→({ e' with key:=ek x,val:=u }:MapEntry).key=e'.key:=fun e' iL=>by rw [hj] at iL;cases iL;exact h3.symm
  have k9:(es.modify j (fun e'=>{ e' with key:=ek x,val:=u })).toList=es.toList.set j { e0 with key:=ek x,val:=u }:=by rw [Array.toList_modify,modify_eq_set _ _ _ _ h2]
  have hd:=((stamped_iff es clock).1 bO).2.2;have other:∀ i e,es.toList[i]? = some e→i≠j→e.key≠ek x:=by
   intro i e hi bQ;rw [← h3];obtain ⟨il,rfl⟩:=yq.1 hi;obtain ⟨_,rfl⟩:=yq.1 h2;rcases Nat.lt_or_gt_of_ne bQ with az|qR
   ·exact VP.1 hd i j il im az
   ·exact (VP.1 hd j i im il qR).symm
  have rP:∀ y∈es.toList.set j { e0 with key:=ek x,val:=u },y={ e0 with key:=ek x,val:=u }∨(y∈es.toList∧y.key≠ek x):=by
   intro y hy;obtain ⟨i,hi,ex⟩:=yS hy;rw [rT] at ex;split at ex
   ·exact Or.inl ex.symm
   ·rename_i bQ;have oq : i<es.toList.length:=by simpa using hi
    exact Or.inr ⟨ex▸yR oq,other i y (by rw [xZ oq,ex]) (fun e1=>bQ e1.symm)⟩
  refine ⟨setBlock w b (.map (es.modify j (fun e'=>{ e' with key:=ek x,val:=u })) clock),?_,⟨_,_,heap_setBlock_same hb _,by simp;omega,stamped_modify bO _ _ (fun _ _=>rfl) (fun e' _ iL=>jO e' iL),?_,?_⟩,gr _⟩
  ·simp [Instr.mapUpdate,run_underlying ht,xD hb,T.K.check w false hl,h1,hj,h3,T.K.stays w hl,Wx _ hb,Result.andThen,setBlock]
  ·intro e he;rw [k9] at he;rcases rP e he with rfl|⟨he,_⟩
   ·exact ⟨x,hx,rfl⟩
   ·exact dy e he
  ·intro y v;rw [k9];by_cases hy:y=x
   ·subst hy;rw [Ub];constructor
    ·intro hv;injection hv with hv
     exact ⟨{ e0 with key:=ek y,val:=u },rV.2 ⟨j,by simpa using im,by simp⟩,rfl,hv⟩
    ·rintro ⟨e,he,hk,hv⟩;rcases rP e he with rfl|⟨_,bQ⟩
     ·rw [← hv]
     ·exact absurd hk bQ
   ·rw [Vb f u hy,hf];constructor
    ·rintro ⟨e,he,hk,hv⟩;obtain ⟨i,hi,rfl⟩:=yS he;have jg:i≠j:=by
      rintro rfl;obtain ⟨_,dX⟩:=yq.1 h2;rw [dX,h3] at hk;exact hy (T.inj _ _ hk).symm
     exact ⟨es.toList[i],rV.2 ⟨i,by simpa using hi,by rw [rT,if_neg (fun e=>jg e.symm)]⟩,hk,hv⟩
    ·rintro ⟨e,he,hk,hv⟩;rcases rP e he with rfl|⟨he,_⟩
     ·exact absurd (T.inj _ _ hk).symm hy
     ·exact ⟨e,he,hk,hv⟩
theorem Zt {e t:TypeId} {o:Oper}
  (T:pq P k κ ek ok) (ht:P.underlying t=some (.map k e)) (hz:(zeroValue e).run P w=.ok z w) (h:YD ek ok w b n f) (x:κ) (hx:ok x)
  (hg:o.guard=none) (m i:Operand) (bM:o.op=Op.lookup t m i true) (hm:a.eval m=.map (some b)) (hi:a.eval i=ek x)
  (hK:wpList P ops Q rest (a.put o.dst (.tuple #[(f x).getD z,.bool (f x).isSome])) w):wpList P ops Q (o::rest) a w:=by
 refine wpList_plain hg fun K' hK'=>?_;have bx:=El T ht hz h true x hx;unfold Oper.wp;simp [execOp,bM,hm,hi,bx,Result.andThen];exact hK' _ _ hK
theorem XN {e t:TypeId} {o:Oper}
  (T:pq P k κ ek ok) (ht:P.underlying t=some (.map k e)) (h:YD ek ok w b n f) (x:κ) (hx:ok x) (u:Value)
  (hg:o.guard=none) (m i v:Operand) (bM:o.op=Op.mapUpdate t m i v) (hm:a.eval m=.map (some b)) (hi:a.eval i=ek x) (hv:a.eval v=u)
  (hK:∀ w',YD ek ok w' b (n+1) (lC f x u)→w.grownBy w' (some b)→wpList P ops Q rest (a.put o.dst undef) w'):wpList P ops Q (o::rest) a w:=by
 refine wpList_plain hg fun K' hK'=>?_;obtain ⟨w',bx,h1,h2⟩:=Fe T ht h x hx u;unfold Oper.wp;simp [execOp,bM,hm,hi,hv,bx,Result.andThen];exact hK' _ _ (hK w' h1 h2)
end
def kR (x:Int):Value:=.int .i64 x
theorem FP (h:bD x):(Lit.int .i64 x).wf=true:=WalkArith.wf_i64 (by unfold bD at h;omega)
theorem Xk:pq Tryz.prog 3 Int kR bD:=⟨int_keyed Tryz.underlying3,fun x hx=>⟨_,keyOf_int_mk Tryz.underlying3 (FP hx)⟩,fun x y h=>by injection h⟩
end
section
open Go.RowKit
attribute [local go_sem ↓] Go.wp_at_zero Go.wp_at_succ
def mW (o:aN):Prop:=bD o.p∧bD o.k∧bD o.key∧bD o.arg∧bD o.res∧bD o.call∧bD o.ret
noncomputable def bq (B:Int→Bool):Int→Option Value:=fun x=>if B x then some (.agg #[]) else none
theorem Vm (B:Int→Bool) (x:Int):(bq B x).getD (.agg #[])=.agg #[]:=by unfold bq;split <;> rfl
theorem Wq (B:Int→Bool) (x:Int):(bq B x).isSome=B x:=by unfold bq;split <;> simp_all
theorem uB (B:Int→Bool) (x:Int):lC (bq B) x (.agg #[])=bq (fun y=>B y || y == x):=by
 funext y;by_cases hy:y=x
 ·subst hy;rw [Ub];simp [bq]
 ·rw [Vb _ _ hy];simp [bq,hy]
theorem UU:(fun _=>none)=bq (fun _=>false):=by funext y;simp [bq]
def VB (g:Int→Option aN):Int→Option Value:=fun x=>(g x).map fun o=>.agg o.aS.toArray
theorem DD (g:Int→Option aN) (x:Int):(VB g x).getD (.agg #[.int .i64 0,.int .i64 0,.int .i64 0,.int .i64 0,.int .i64 0,.int .i64 0,.int .i64 0,.bool false])=.agg #[.int .i64 ((g x).getD default).p,.int .i64 ((g x).getD default).k,.int .i64 ((g x).getD default).key,.int .i64 ((g x).getD default).arg,.int .i64 ((g x).getD default).res,.int .i64 ((g x).getD default).call,.int .i64 ((g x).getD default).ret,.bool ((g x).getD default).done]:=by
 unfold VB;cases g x <;> rfl
theorem CS (g:Int→Option aN) (x:Int):(VB g x).isSome=(g x).isSome:=by simp [VB]
open Classical in
theorem vt (g:Int→Option aN) (x:Int) (o:aN):lC (VB g) x (.agg o.aS.toArray)=VB (fun y=>if y=x then some o else g y):=by
 funext y;by_cases hy:y=x
 ·subst hy;rw [Ub];simp [VB]
 ·rw [Vb _ _ hy];simp [VB,hy]
def jl (o:aN):Bool:=decide (0≤o.p) && decide (0≤o.k) && decide (o.k≤4) && decide (0≤o.call) && decide (o.call<o.ret) && (o.done || decide (o.res=0))
def gB (l:List aN) (k:Nat) (x:Int):Bool:=(l.take k).any fun o=>o.done && o.ret == x
def Vf (l:List aN) (k:Nat) (x:Int):Bool:=(l.take k).any fun o=>o.call == x
def ZD (l:List aN):Nat→Int→Option aN
 | 0, _ => none
 | k+1, p => if p=(nth l k).p then some (nth l k) else ZD l k p
def jn (l:List aN) (k:Nat):Int:=
 if jl (nth l k)=false then 1
 else if 0<k∧(nth l k).call≤(nth l (k - 1)).call then 5
 else if (gB l k (nth l k).call || (nth l k).done && (gB l k (nth l k).ret || Vf l l.length (nth l k).ret))=true then 4
 else if (ZD l k (nth l k).p).isSome=true∧(((ZD l k (nth l k).p).getD default).done=false∨(nth l k).call<((ZD l k (nth l k).p).getD default).ret) then 5
 else 0
def yB (l:List aN) (k:Nat):Nat→Int
 | 0 => 0
 | n+1 => if jn l k=0 then yB l (k+1) n else jn l k
def WR (l:List aN):Int:=if 300<l.length then 2 else yB l 0 l.length
theorem BZ {l:List aN} {k:Nat} (h:jn l k=0):yB l k (n+1)=yB l (k+1) n:=by simp [yB,h]
theorem BE {l:List aN} {k:Nat} (h:jn l k≠0):yB l k (n+1)=jn l k:=by simp [yB,h]
theorem Df {l:List aN} {k:Nat} (hk:k<l.length) (x:Int):Vf l (k+1) x=(Vf l k x || x == (nth l k).call):=by
 unfold Vf;rw [Yp hk,List.any_append,xI hk];simp [BEq.comm (a:=x)]
theorem uX {l:List aN} {k:Nat} (hk:k<l.length) (x:Int):gB l (k+1) x=(gB l k x || ((nth l k).done && x == (nth l k).ret)):=by
 unfold gB;rw [Yp hk,List.any_append,xI hk];simp [BEq.comm (a:=x)]
theorem XT (o:Obj):Below w.heap.size w (w.alloc o):=(Xv _ _).alloc (zi _) _
theorem Wb (o:aN) (w:World):Calls Tryz.prog 84 #[.agg #[.int .i64 o.p,.int .i64 o.k,.int .i64 o.key,.int .i64 o.arg,.int .i64 o.res,.int .i64 o.call,.int .i64 o.ret,.bool o.done]] w fun e w'=>e=.returned (.bool (jl o))∧Below w.heap.size w w':=by
 by_cases h1:0≤o.p
 ·by_cases h2:0≤o.k
  ·by_cases h3:o.k≤4
   ·by_cases h4:0≤o.call
    ·by_cases h5:o.call<o.ret
     ·cases h6:o.done with
      | true =>
       go_enter Tryz.func84,Tryz.ntmps84
       go_wp2
       go_ret
       exact ⟨by simp [jl,h1,h2,h3,h4,h5,h6],XT _⟩
      | false=>
       by_cases h7:o.res=0
       ·have z9 : (o.res == 0)=true:=by simpa using h7
        go_enter Tryz.func84,Tryz.ntmps84
        go_wp2
        go_ret
        exact ⟨by simp [jl,h1,h2,h3,h4,h5,h6,h7],XT _⟩
       ·have z9 : (o.res == 0)=false:=by simpa using h7
        go_enter Tryz.func84,Tryz.ntmps84
        go_wp2
        go_ret
        exact ⟨by simp [jl,h1,h2,h3,h4,h5,h6,h7],XT _⟩
     ·go_enter Tryz.func84,Tryz.ntmps84
      go_wp2
      go_ret
      exact ⟨by simp [jl,h1,h2,h3,h4];intros;omega,XT _⟩
    ·go_enter Tryz.func84,Tryz.ntmps84
     go_wp2
     go_ret
     exact ⟨by simp [jl,h1,h2,h3];intros;omega,XT _⟩
   ·go_enter Tryz.func84,Tryz.ntmps84
    go_wp2
    go_ret
    exact ⟨by simp [jl,h1,h2];intros;omega,XT _⟩
  ·go_enter Tryz.func84,Tryz.ntmps84
   go_wp2
   go_ret
   exact ⟨by simp [jl,h1];intros;omega,XT _⟩
 ·go_enter Tryz.func84,Tryz.ntmps84
  go_wp2
  go_ret
  exact ⟨by simp [jl];intros;omega,XT _⟩
theorem Cw (l:List aN) (k:Nat):ZD l (k+1)=fun p=>if p=(nth l k).p then some (nth l k) else ZD l k p:=rfl
theorem EN (l:List aN):gB l 0=fun _=>false:=by funext x;simp [gB]
theorem Dh (l:List aN):Vf l 0=fun _=>false:=by funext x;simp [Vf]
theorem CR:(fun _=>none)=VB (fun _=>none):=by funext y;simp [VB]
theorem EM {l:List aN} {k:Nat} (hk:k<l.length) (h:(nth l k).done=true):gB l (k+1)=fun x=>gB l k x || x == (nth l k).ret:=by
 funext x;rw [uX hk,h];simp
theorem C4 {l:List aN} {k:Nat} (hk:k<l.length) (h:(nth l k).done=false):gB l (k+1)=gB l k:=by
 funext x;rw [uX hk,h];simp
theorem Dg {l:List aN} {k:Nat} (hk:k<l.length):Vf l (k+1)=fun x=>Vf l k x || x == (nth l k).call:=by
 funext x;rw [Df hk]
theorem pV {l:List aN} {k:Nat} {e:Int} (h:yB l k (l.length - k)=X) (hk:k<l.length) (he:jn l k=e) (h0:e≠0):e=X:=by
 rw [show l.length - k=(l.length - (k+1))+1 by omega,BE (by rw [he];exact h0),he] at h;exact h
theorem FN {l:List aN} {k:Nat} (h:yB l k (l.length - k)=X) (hk:k<l.length) (he:jn l k=0):yB l (k+1) (l.length - (k+1))=X:=by
 rw [show l.length - k=(l.length - (k+1))+1 by omega,BZ he] at h;exact h
set_option maxRecDepth 100000 in
theorem DB (A:Option Addr) (c:Nat) (l:List aN) (w:World) (h1:Sl aN.aS w w.heap.size A l) (cE:∀ o∈l,mW o) (hlen:l.length≤1000000000) :
  Calls Tryz.prog 36 #[.slice A l.length c] w fun e w'=>e=.returned (.int .i64 (WR l))∧Below w.heap.size w w':=by
 have GF:=@run_makeMap Tryz.prog;by_cases iJ:300<l.length
 ·go_enter Tryz.func36,Tryz.ntmps36
  go_wp2_with fail
  go_ret
  exact ⟨by simp [WR,iJ],Xv _ _⟩
 ·have hc : WR l=yB l 0 l.length:=by simp [WR,iJ]
  rw [hc]
  go_enter Tryz.func36,Tryz.ntmps36
  go_wp2_with fail
  go_loopw [24] (fun i wr=>∃ k:Nat,k≤l.length∧i=.int .i64 k∧YD kR bD wr w.heap.size k (bq (Vf l k))∧Below w.heap.size w wr) (fun i _=>l.length - (intOf i).toNat)
  case atStart=>exact ⟨0,by omega,rfl,by rw [Dh,← UU];exact YD.made w,XT _⟩
  case round =>
   obtain ⟨k,hk,rfl,bu,hb⟩:=hrel;by_cases az:k<l.length
   ·obtain ⟨b1,o1,rfl,qJ,p0,p1,p2,p3,p4,p5,p6,p7⟩:=(h1.below hb).op az;have aK:=hb.size;have m8:b1<wr.heap.size:=by omega
    have hI:=cE _ (yn az);have Hs:=yx (Dg az)
    go_wp2_with (at_mapUpdate;go_loud (refine XN Xk Tryz.underlying118 (bu.alloc _) (nth l k).call hI.2.2.2.2.2.1 (.agg #[]) rfl (.tmp 28) (.tmp 30) (.tmp 31) rfl rfl rfl rfl ?_;intro w1 qZ Ar))
    go_roundw
    case rel=>
     refine ⟨k+1,by omega,by go_num,?_,?_⟩
     ·rw [Hs.out,← uB];exact qZ
     ·exact (hb.alloc aK _).grown Ar zF (by rintro k' ⟨⟩;exact zi _)
    case measure=>simp [intOf];omega
   ·obtain rfl : k=l.length:=by omega
    obtain ⟨wb,rfl⟩:∃ wb:World,wb=wr:=⟨_,rfl⟩
    have rA:=hb.size;have AD:=bu.lt
    go_wp2_with fail
    go_loopw [37] (fun i wr=>∃ k:Nat,k≤l.length∧i=.int .i64 k∧YD kR bD wr w.heap.size l.length (bq (Vf l l.length))∧YD kR bD wr wb.heap.size k (bq (gB l k))∧YD kR bD wr (wb.heap.size+1) k (VB (ZD l k))∧Below w.heap.size w wr∧wb.heap.size+2≤wr.heap.size∧
     yB l k (l.length - k)=yB l 0 l.length) (fun i _=>l.length - (intOf i).toNat)
    case atStart=>
     refine ⟨0,by omega,rfl,(bu.alloc _).alloc _,?_,?_,(hb.alloc rA _).alloc zF _,by simp,by simp⟩
     ·rw [EN,← UU];exact (YD.made wb).alloc _
     ·have:=YD.made (ek:=kR) (ok:=bD) (wb.alloc (.map #[] 0));rw [show ZD l 0=fun _=>none from rfl,← CR];simpa using this
    case round =>
     obtain ⟨k,hk,rfl,q9,pC,rf,hb,A3,dO⟩:=hrel;have m3:=yx dO;clear dO bu;by_cases az:k<l.length
     ·obtain ⟨b1,o1,rfl,qJ,p0,p1,p2,p3,p4,p5,p6,p7⟩:=(h1.below hb).op az;have aK:=hb.size;have m8:b1<wr.heap.size:=by omega
      have hI:=cE _ (yn az);obtain ⟨o,ho⟩:∃ o,nth l k=o:=⟨_,rfl⟩
      rw [ho] at p0 p1 p2 p3 p4 p5 p6 p7 hI;obtain ⟨pv,ua⟩:∃ pv,(ZD l k o.p).getD default=pv:=⟨_,rfl⟩
      obtain ⟨b4,lY⟩:∃ b4,(ZD l k o.p).isSome=b4:=⟨_,rfl⟩
      obtain ⟨b5,tG⟩:∃ b5,gB l k o.call=b5:=⟨_,rfl⟩
      obtain ⟨b6,tH⟩:∃ b6,gB l k o.ret=b6:=⟨_,rfl⟩
      obtain ⟨b7,tI⟩:∃ b7,Vf l l.length o.ret=b7:=⟨_,rfl⟩
      have s6:=yx ua;have sZ:=yx lY;have s3:=yx tG;have s4:=yx tH;have s5:=yx tI;clear ua lY tG tH tI
      go_upto_region 18 with (first|(at_lookup;refine Zt Xk Tryz.underlying118 (Tryz.zeroValue119 _) (pC.alloc _) o.call hI.2.2.2.2.2.1 rfl (.tmp 43) (.tmp 45) rfl rfl rfl ?_;rw [Vm,Wq,s3.out])|(at_lookup;refine Zt Xk Tryz.underlying118 (Tryz.zeroValue119 _) ((pC.alloc _).alloc _) o.ret hI.2.2.2.2.2.2 rfl (.tmp 50) (.tmp 52) rfl rfl rfl ?_;rw [Vm,Wq,s4.out])|(at_lookup;refine Zt Xk Tryz.underlying118 (Tryz.zeroValue119 _) (((q9.alloc _).alloc _).alloc _) o.ret hI.2.2.2.2.2.2 rfl (.tmp 57) (.tmp 59) rfl rfl rfl ?_;rw [Vm,Wq,s5.out])|(at_lookup;refine Zt Xk Tryz.underlying120 (Tryz.zeroValue77 _) ((((rf.alloc _).alloc _).alloc _).alloc _) o.p hI.1 rfl (.tmp 64) (.tmp 66) rfl rfl rfl ?_;rw [DD,CS,sZ.out,s6.out]))
      obtain ⟨W,hW⟩:∃ W,W=(((((wr.alloc (.cells #[.int .i64 o.p,.int .i64 o.k,.int .i64 o.key,.int .i64 o.arg,.int .i64 o.res,.int .i64 o.call,.int .i64 o.ret,.bool o.done] 77)).alloc (.cells #[] 119)).alloc (.cells #[] 119)).alloc (.cells #[] 119)).alloc (.cells #[.int .i64 pv.p,.int .i64 pv.k,.int .i64 pv.key,.int .i64 pv.arg,.int .i64 pv.res,.int .i64 pv.call,.int .i64 pv.ret,.bool pv.done] 77)):=⟨_,rfl⟩
      have B1:dF W wr.heap.size 77 o.aS:=by rw [hW];exact ((((dF.new wr 77 o.aS).alloc _).alloc _).alloc _).alloc _
      have B2:dF W (wr.heap.size+1+1+1+1) 77 pv.aS:=by
       rw [hW];have:=dF.new ((((wr.alloc (.cells #[.int .i64 o.p,.int .i64 o.k,.int .i64 o.key,.int .i64 o.arg,.int .i64 o.res,.int .i64 o.call,.int .i64 o.ret,.bool o.done] 77)).alloc (.cells #[] 119)).alloc (.cells #[] 119)).alloc (.cells #[] 119)) 77 pv.aS;simp only [World.size_alloc] at this;exact this
      have ox:YD kR bD W w.heap.size l.length (bq (Vf l l.length)):=by rw [hW];exact ((((q9.alloc _).alloc _).alloc _).alloc _).alloc _
      have oB:YD kR bD W wb.heap.size k (bq (gB l k)):=by rw [hW];exact ((((pC.alloc _).alloc _).alloc _).alloc _).alloc _
      have oz:YD kR bD W (wb.heap.size+1) k (VB (ZD l k)):=by rw [hW];exact ((((rf.alloc _).alloc _).alloc _).alloc _).alloc _
      have n3:Below wr.heap.size wr W:=by rw [hW];exact ((((XT _).alloc zg _).alloc zF _).alloc zF _).alloc zF _
      have q5:=n3.cell (p:=⟨b1,o1+k * 8+5,none⟩) m8;rw [← hW];clear hW q9 pC rf;obtain ⟨x0,x1,x2,x3,x4,x5,x6,x7⟩:=B1.op;cases rD:jl o with
      | false =>
       go_wp2_with (go_at_call 84;refine (Wb o _).mono ?_;rintro e w2 ⟨rfl,dc⟩)
       go_ret
       exact ⟨congrArg _ (congrArg _ (pV m3.out az (by rw [jn,if_pos (by rw [ho];exact rD)]) zb)),hb.trans ((x8 n3 dc).mono aK)⟩
      | true =>
       have hP:=n3.size
       go_upto_region 20 with (go_at_call 84;refine (Wb o _).mono ?_;rintro e w2 ⟨rfl,dc⟩)
       have fZ:=x8 n3 dc;have C1:=B1.below dc B1.lt;have C2:=B2.below dc B2.lt;have oy:=ox.ext dc;have ml:=oB.ext dc;have mj:=oz.ext dc;clear B1 B2 ox oB oz x0 x1 x2 x3 x4 x5 x6 x7 dc n3 q5;obtain ⟨x0,x1,x2,x3,x4,x5,x6,x7⟩:=C1.op;obtain ⟨y0,y1,y2,y3,y4,y5,y6,y7⟩:=C2.op;have s8:=yx rD;clear rD;have A4:=fZ.size;by_cases gW:0<k∧o.call≤(nth l (k - 1)).call
       ·obtain ⟨tP,gW⟩:=gW;have cz:k - 1<l.length:=by omega
        obtain ⟨_,_,_,_,_,q5,_,_⟩:=((h1.below hb).below (fZ.mono aK)).pM cz;have e8:(0:Int)<(k:Int):=by omega
        go_wp2_with fail
        go_quiet (fail)
        go_wp2_with fail
        go_ret
        exact ⟨congrArg _ (congrArg _ (pV m3.out az (by rw [jn,if_neg (by rw [ho,s8.out];simp),if_pos (by rw [ho];exact ⟨tP,gW⟩)]) zb)),o6 (hb.trans (fZ.mono aK)) _⟩
       ·have nM:=yx gW
        go_cut [74] (fun s wx=>s=.bool false∧∃ n,wx=w2.drewN n)
        case first=>
         by_cases tP:0<k
         ·have cz:k - 1<l.length:=by omega
          obtain ⟨_,_,_,_,_,q5,_,_⟩:=((h1.below hb).below (fZ.mono aK)).pM cz;have e8:(0:Int)<(k:Int):=by omega
          have hle:(nth l (k - 1)).call<o.call:=by
           have:=nM.out;omega
          clear gW
          go_wp2_with fail
          go_quiet (fail)
          go_wp2_with fail
          go_meet
          case rel=>exact ⟨by simp;omega,_,rfl⟩
         ·have e8:decide ((0:Int)<(k:Int))=false:=by simp;omega
          clear gW
          go_wp2_with fail
          go_quiet (fail)
          go_wp2_with fail
          go_meet
          case rel=>exact ⟨by simp,_,rfl⟩
        case rest=>
         obtain ⟨rfl,n,rfl⟩:=hcut;clear gW
         go_upto_region 22 with fail
         go_cut [11,13,15,88] (fun _ _ _ s wx=>s=.bool (b5 || (o.done && (b6 || b7)))∧wx=w2.drewN n)
         case first=>
          go_wp2_with fail
          all_goals go_meet
          all_goals exact ⟨by simp [*],rfl⟩
         case rest=>
          obtain ⟨rfl,rfl⟩:=hcut;obtain ⟨b8,qF⟩:∃ b8,(b5 || (o.done && (b6 || b7)))=b8:=⟨_,rfl⟩
          rw [qF];have z3:=yx qF;clear qF;have e1:¬ (jl (nth l k)=false):=by rw [ho,s8.out];simp
          have e2:¬ (0<k∧(nth l k).call≤(nth l (k - 1)).call):=by rw [ho];exact nM.out
          have e3:(gB l k (nth l k).call || (nth l k).done && (gB l k (nth l k).ret || Vf l l.length (nth l k).ret))=b8:=by rw [ho,s3.out,s4.out,s5.out];exact z3.out
          have E1:=yx e1;have E2:=yx e2;have E3:=yx e3;clear e1 e2 e3;cases b8 with
          | true =>
           go_wp2_with fail
           go_ret
           exact ⟨congrArg _ (congrArg _ (pV m3.out az (by rw [jn,if_neg E1.out,if_neg E2.out,if_pos E3.out]) zb)),o6 (hb.trans (fZ.mono aK)) _⟩
          | false=>
           go_upto_region 24 with fail
           go_cut [17,100] (fun _ s wx=>s=.bool (b4 && (!pv.done || decide (o.call<pv.ret)))∧wx=w2.drewN n)
           case first=>
            go_wp2_with fail
            all_goals go_meet
            all_goals exact ⟨by simp [*],rfl⟩
           case rest=>
            obtain ⟨rfl,rfl⟩:=hcut;obtain ⟨b9,qG⟩:∃ b9,(b4 && (!pv.done || decide (o.call<pv.ret)))=b9:=⟨_,rfl⟩
            rw [qG];have e4:((ZD l k (nth l k).p).isSome=true∧(((ZD l k (nth l k).p).getD default).done=false∨(nth l k).call<((ZD l k (nth l k).p).getD default).ret))↔b9=true:=by
             rw [ho,sZ.out,s6.out,← qG];simp
            have E4:=yx e4;clear qG e4;cases b9 with
            | true =>
             go_wp2_with fail
             go_ret
             exact ⟨congrArg _ (congrArg _ (pV m3.out az (by rw [jn,if_neg E1.out,if_neg E2.out,if_neg (by rw [E3.out];simp),if_pos (E4.out.mpr (by trivial))]) zb)),o6 (hb.trans (fZ.mono aK)) _⟩
            | false=>
             have hz:=FN m3.out az (by rw [jn,if_neg E1.out,if_neg E2.out,if_neg (by rw [E3.out];simp),if_neg (fun h=>by have:=E4.out.1 h;cases this)]);have Hz:=yx hz;clear hz;have s7:=yx (show ZD l (k+1)=fun p=>if p=o.p then some o else ZD l k p by rw [Cw,ho]);have rj:=ml.j6 C1;have rk:wb.heap.size≠w.heap.size:=by omega
             have AH:wb.heap.size≠wb.heap.size+1:=by omega
             have AI:=mj.j6 C1;cases kX:o.done with
             | true=>
              rw [kX] at x7;have Hr:=yx (EM az (by rw [ho];exact kX));have Gp:=yx kX;clear kX
              go_upto_region 28 with (at_mapUpdate;refine XN Xk Tryz.underlying118 (ml.drewN n) o.ret hI.2.2.2.2.2.2 (.agg #[]) rfl (.tmp 116) (.tmp 118) (.tmp 119) rfl rfl rfl rfl ?_;intro w3 AE ng)
              have rz:w2.heap.size≤w3.heap.size:=ng.size;have D1:=(C1.drewN n).grown ng (by simpa using fun e=>rj e.symm);have rh:=(mj.drewN n).grown ng zg;have ra:=(oy.drewN n).grown ng (by simpa using fun e=>rk e.symm);have n1:=(o6 (hb.trans (fZ.mono aK)) n).grown ng zF (by rintro k' ⟨⟩;omega);clear x0 x1 x2 x3 x4 x5 x6 x7 ng;obtain ⟨x0,x1,x2,x3,x4,x5,x6,x7⟩:=D1.op
              go_wp2_with (at_mapUpdate;refine XN Xk Tryz.underlying120 rh o.p hI.1 (.agg o.aS.toArray) rfl (.tmp 120) (.tmp 122) (.tmp 123) rfl rfl rfl rfl ?_;intro w4 q8 kE)
              go_roundw
              case rel=>
               refine ⟨k+1,by omega,by go_num,ra.grown kE zF,?_,?_,n1.grown kE zc (by rintro k' ⟨⟩;omega),by have:=kE.size;omega,Hz.out⟩
               ·rw [Hr.out,ho,← uB];exact AE.grown kE zg
               ·rw [s7.out,← vt];exact q8
              case measure=>simp [intOf];omega
             | false=>
              rw [kX] at x7;have Hr:=yx (C4 az (by rw [ho];exact kX));have Hv:=yx (show (.agg o.aS.toArray:Value)=.agg #[.int .i64 o.p,.int .i64 o.k,.int .i64 o.key,.int .i64 o.arg,.int .i64 o.res,.int .i64 o.call,.int .i64 o.ret,.bool false] by simp [aN.aS,kX]);clear kX
              go_wp2_with (at_mapUpdate;refine XN Xk Tryz.underlying120 (mj.drewN n) o.p hI.1 (.agg #[.int .i64 o.p,.int .i64 o.k,.int .i64 o.key,.int .i64 o.arg,.int .i64 o.res,.int .i64 o.call,.int .i64 o.ret,.bool false]) rfl (.tmp 120) (.tmp 122) (.tmp 123) rfl rfl rfl rfl ?_;intro w4 q8 kE)
              have rz:w2.heap.size≤w4.heap.size:=kE.size
              go_roundw
              case rel=>
               refine ⟨k+1,by omega,by go_num,(oy.drewN n).grown kE zF,?_,?_,(o6 (hb.trans (fZ.mono aK)) n).grown kE zF (by rintro k' ⟨⟩;omega),by omega,Hz.out⟩
               ·rw [Hr.out];exact ((ml.drewN n).grown kE zg).mono zc
               ·rw [s7.out,← vt,Hv.out];exact q8
              case measure=>simp [intOf];omega
     ·go_wp2
      go_ret
      obtain rfl:k=l.length:=by omega
      have e:=m3.out;rw [Nat.sub_self] at e;exact ⟨by rw [← e];rfl,hb⟩
end
section
set_option maxRecDepth 100000
def sW:List (Nat×TS):=[
 (3,⟨.int .i64,1,8,[.int .i64 0]⟩),
 (4,⟨.bool,1,1,[.bool false]⟩),
 (1,⟨.any,1,8,[.ak]⟩),
 (2,⟨.int .i64,1,8,[.int .i64 0]⟩),
 (5,⟨.int .u8,1,1,[.int .u8 0]⟩),
 (6,⟨.int .u8,1,1,[.int .u8 0]⟩),
 (7,⟨.av [(0,2),(1,3),(2,4),(3,6)],4,24,[.int .i64 0,.int .i64 0,.bool false,.int .u8 0]⟩),
 (8,⟨.av [(0,2),(1,3),(2,4),(3,6)],4,24,[.int .i64 0,.int .i64 0,.bool false,.int .u8 0]⟩),
 (9,⟨.str,1,16,[.str ByteArray.empty]⟩),
 (10,⟨.str,1,16,[.str ByteArray.empty]⟩),
 (11,⟨.str,1,16,[.str ByteArray.empty]⟩),
 (12,⟨.int .u64,1,8,[.int .u64 0]⟩),
 (13,⟨.av [(0,9),(1,12)],2,24,[.str ByteArray.empty,.int .u64 0]⟩),
 (14,⟨.av [(0,9),(1,12)],2,24,[.str ByteArray.empty,.int .u64 0]⟩),
 (15,⟨.any,1,8,[.undef]⟩),
 (16,⟨.any,1,8,[.undef]⟩),
 (17,⟨.any,1,8,[.undef]⟩),
 (18,⟨.av [(0,17)],1,8,[.undef]⟩),
 (19,⟨.av [(0,17)],1,8,[.undef]⟩),
 (20,⟨.any,1,16,[.undef]⟩),
 (21,⟨.int .i32,1,4,[.int .i32 0]⟩),
 (22,⟨.slice 3,1,24,[.nil]⟩),
 (23,⟨.slice 77,1,24,[.nil]⟩),
 (24,⟨.slice 22,1,24,[.nil]⟩),
 (25,⟨.slice 31,1,24,[.nil]⟩),
 (26,⟨.av [(0,23),(1,24),(2,25)],3,72,[.nil,.nil,.nil]⟩),
 (27,⟨.av [(0,23),(1,24),(2,25)],3,72,[.nil,.nil,.nil]⟩),
 (28,⟨.av [(0,3),(1,3),(2,3)],3,24,[.int .i64 0,.int .i64 0,.int .i64 0]⟩),
 (29,⟨.av [(0,3),(1,3),(2,3)],3,24,[.int .i64 0,.int .i64 0,.int .i64 0]⟩),
 (30,⟨.av [(0,29),(3,3)],4,32,[.int .i64 0,.int .i64 0,.int .i64 0,.int .i64 0]⟩),
 (31,⟨.av [(0,29),(3,3)],4,32,[.int .i64 0,.int .i64 0,.int .i64 0,.int .i64 0]⟩),
 (32,⟨.slice 34,1,24,[.nil]⟩),
 (33,⟨.av [(0,3),(1,3),(2,3),(3,3),(4,32)],5,56,[.int .i64 0,.int .i64 0,.int .i64 0,.int .i64 0,.nil]⟩),
 (34,⟨.av [(0,3),(1,3),(2,3),(3,3),(4,32)],5,56,[.int .i64 0,.int .i64 0,.int .i64 0,.int .i64 0,.nil]⟩),
 (35,⟨.av [(0,3),(1,3),(2,34)],7,72,[.int .i64 0,.int .i64 0,.int .i64 0,.int .i64 0,.int .i64 0,.int .i64 0,.nil]⟩),
 (36,⟨.av [(0,3),(1,3),(2,34)],7,72,[.int .i64 0,.int .i64 0,.int .i64 0,.int .i64 0,.int .i64 0,.int .i64 0,.nil]⟩),
 (37,⟨.any,1,8,[.ak]⟩),
 (38,⟨.slice 61,1,24,[.nil]⟩),
 (39,⟨.av [(0,22),(1,38)],2,48,[.nil,.nil]⟩),
 (40,⟨.av [(0,22),(1,38)],2,48,[.nil,.nil]⟩),
 (41,⟨.any,1,8,[.ak]⟩),
 (42,⟨.av [(0,3),(1,3),(2,3),(3,40)],5,72,[.int .i64 0,.int .i64 0,.int .i64 0,.nil,.nil]⟩),
 (43,⟨.av [(0,3),(1,3),(2,3),(3,40)],5,72,[.int .i64 0,.int .i64 0,.int .i64 0,.nil,.nil]⟩),
 (44,⟨.int .i64,1,8,[.int .i64 0]⟩),
 (45,⟨.any,1,8,[.ak]⟩),
 (46,⟨.any,1,8,[.ak]⟩),
 (47,⟨.any,1,8,[.ak]⟩),
 (48,⟨.any,1,8,[.ak]⟩),
 (49,⟨.any,1,8,[.ak]⟩),
 (50,⟨.any,1,8,[.ak]⟩),
 (51,⟨.any,1,8,[.ak]⟩),
 (52,⟨.any,1,8,[.ak]⟩),
 (53,⟨.arr 3 3,3,24,[.int .i64 0,.int .i64 0,.int .i64 0]⟩),
 (54,⟨.any,1,8,[.ak]⟩),
 (55,⟨.any,1,8,[.ak]⟩),
 (56,⟨.any,1,8,[.ak]⟩),
 (57,⟨.any,1,8,[.ak]⟩),
 (58,⟨.any,1,8,[.ak]⟩),
 (59,⟨.slice 53,1,24,[.nil]⟩),
 (60,⟨.av [(0,3),(1,3),(2,3)],3,24,[.int .i64 0,.int .i64 0,.int .i64 0]⟩),
 (61,⟨.av [(0,3),(1,3),(2,3)],3,24,[.int .i64 0,.int .i64 0,.int .i64 0]⟩),
 (62,⟨.any,1,8,[.ak]⟩),
 (63,⟨.av [(0,36),(7,27),(10,43)],15,216,[.int .i64 0,.int .i64 0,.int .i64 0,.int .i64 0,.int .i64 0,.int .i64 0,.nil,.nil,.nil,.nil,.int .i64 0,.int .i64 0,.int .i64 0,.nil,.nil]⟩),
 (64,⟨.av [(0,36),(7,27),(10,43)],15,216,[.int .i64 0,.int .i64 0,.int .i64 0,.int .i64 0,.int .i64 0,.int .i64 0,.nil,.nil,.nil,.nil,.int .i64 0,.int .i64 0,.int .i64 0,.nil,.nil]⟩),
 (65,⟨.any,1,8,[.ak]⟩),
 (66,⟨.av [(0,65),(1,65)],2,16,[.ak,.ak]⟩),
 (67,⟨.av [(0,65),(1,65)],2,16,[.ak,.ak]⟩),
 (69,⟨.map 72 67,1,8,[.cm]⟩),
 (70,⟨.any,1,8,[.ak]⟩),
 (71,⟨.av [(0,3),(1,3)],2,16,[.int .i64 0,.int .i64 0]⟩),
 (72,⟨.av [(0,3),(1,3)],2,16,[.int .i64 0,.int .i64 0]⟩),
 (73,⟨.any,1,8,[.ak]⟩),
 (74,⟨.av [(0,36),(7,27),(10,43)],15,216,[.int .i64 0,.int .i64 0,.int .i64 0,.int .i64 0,.int .i64 0,.int .i64 0,.nil,.nil,.nil,.nil,.int .i64 0,.int .i64 0,.int .i64 0,.nil,.nil]⟩),
 (75,⟨.av [(0,36),(7,27),(10,43)],15,216,[.int .i64 0,.int .i64 0,.int .i64 0,.int .i64 0,.int .i64 0,.int .i64 0,.nil,.nil,.nil,.nil,.int .i64 0,.int .i64 0,.int .i64 0,.nil,.nil]⟩),
 (76,⟨.av [(0,3),(1,3),(2,3),(3,3),(4,3),(5,3),(6,3),(7,4)],8,64,[.int .i64 0,.int .i64 0,.int .i64 0,.int .i64 0,.int .i64 0,.int .i64 0,.int .i64 0,.bool false]⟩),
 (77,⟨.av [(0,3),(1,3),(2,3),(3,3),(4,3),(5,3),(6,3),(7,4)],8,64,[.int .i64 0,.int .i64 0,.int .i64 0,.int .i64 0,.int .i64 0,.int .i64 0,.int .i64 0,.bool false]⟩),
 (78,⟨.any,1,8,[.ak]⟩),
 (79,⟨.any,1,8,[.undef]⟩),
 (80,⟨.av [(0,22),(1,3)],2,32,[.nil,.int .i64 0]⟩),
 (81,⟨.av [(0,22),(1,3)],2,32,[.nil,.int .i64 0]⟩),
 (82,⟨.any,1,8,[.ak]⟩),
 (83,⟨.any,1,8,[.ak]⟩),
 (84,⟨.any,1,8,[.ak]⟩),
 (85,⟨.any,1,8,[.ak]⟩),
 (86,⟨.any,1,8,[.ak]⟩),
 (87,⟨.any,1,8,[.ak]⟩),
 (88,⟨.any,1,8,[.ak]⟩),
 (89,⟨.any,1,8,[.ak]⟩),
 (90,⟨.map 92 4,1,8,[.cm]⟩),
 (91,⟨.av [(0,3),(1,3)],2,16,[.int .i64 0,.int .i64 0]⟩),
 (92,⟨.av [(0,3),(1,3)],2,16,[.int .i64 0,.int .i64 0]⟩),
 (93,⟨.any,1,8,[.ak]⟩),
 (94,⟨.any,1,8,[.ak]⟩),
 (95,⟨.any,1,8,[.ak]⟩),
 (96,⟨.any,1,8,[.ak]⟩),
 (97,⟨.any,1,8,[.ak]⟩),
 (98,⟨.any,1,8,[.ak]⟩),
 (99,⟨.any,1,8,[.ak]⟩),
 (100,⟨.any,1,8,[.ak]⟩),
 (101,⟨.any,1,8,[.ak]⟩),
 (102,⟨.any,1,8,[.ak]⟩),
 (103,⟨.any,1,8,[.ak]⟩),
 (104,⟨.any,1,8,[.ak]⟩),
 (105,⟨.any,1,8,[.ak]⟩),
 (106,⟨.any,1,8,[.ak]⟩),
 (107,⟨.any,1,8,[.ak]⟩),
 (108,⟨.slice 4,1,24,[.nil]⟩),
 (109,⟨.any,1,8,[.ak]⟩),
 (110,⟨.slice 114,1,24,[.nil]⟩),
 (111,⟨.any,1,8,[.ak]⟩),
 (112,⟨.any,1,8,[.ak]⟩),
 (113,⟨.av [(0,3),(1,4),(2,3)],3,24,[.int .i64 0,.bool false,.int .i64 0]⟩),
 (114,⟨.av [(0,3),(1,4),(2,3)],3,24,[.int .i64 0,.bool false,.int .i64 0]⟩),
 (115,⟨.any,1,8,[.ak]⟩),
 (116,⟨.any,1,8,[.ak]⟩),
 (117,⟨.any,1,8,[.ak]⟩),
 (118,⟨.map 3 119,1,8,[.cm]⟩),
 (119,⟨.av [],0,0,[]⟩),
 (120,⟨.map 3 77,1,8,[.cm]⟩),
 (123,⟨.any,1,8,[.ak]⟩),
 (124,⟨.any,1,8,[.ak]⟩),
 (125,⟨.any,1,8,[.ak]⟩),
 (126,⟨.any,1,8,[.ak]⟩),
 (127,⟨.any,1,8,[.ak]⟩),
 (128,⟨.any,1,8,[.ak]⟩),
 (129,⟨.map 3 130,1,8,[.cm]⟩),
 (130,⟨.map 3 4,1,8,[.cm]⟩),
 (131,⟨.any,1,8,[.ak]⟩),
 (132,⟨.any,1,8,[.ak]⟩),
 (133,⟨.slice 96,1,24,[.nil]⟩),
 (134,⟨.any,1,8,[.ak]⟩),
 (135,⟨.any,1,8,[.ak]⟩),
 (136,⟨.any,1,8,[.ak]⟩),
 (137,⟨.map 3 3,1,8,[.cm]⟩),
 (138,⟨.any,1,8,[.ak]⟩),
 (139,⟨.any,1,8,[.ak]⟩),
 (140,⟨.any,1,8,[.ak]⟩),
 (141,⟨.any,1,8,[.ak]⟩),
 (142,⟨.any,1,8,[.ak]⟩),
 (143,⟨.any,1,8,[.ak]⟩),
 (145,⟨.any,1,8,[.ak]⟩),
 (146,⟨.any,1,8,[.ak]⟩),
 (147,⟨.any,1,8,[.ak]⟩),
 (148,⟨.any,1,8,[.ak]⟩),
 (149,⟨.any,1,8,[.ak]⟩),
 (150,⟨.any,1,8,[.ak]⟩),
 (151,⟨.any,1,8,[.ak]⟩),
 (152,⟨.any,1,8,[.ak]⟩),
 (153,⟨.any,1,8,[.ak]⟩),
 (154,⟨.any,1,8,[.ak]⟩),
 (155,⟨.any,1,8,[.ak]⟩),
 (156,⟨.any,1,8,[.ak]⟩),
 (157,⟨.any,1,8,[.ak]⟩),
 (158,⟨.slice 108,1,24,[.nil]⟩),
 (159,⟨.any,1,8,[.ak]⟩),
 (160,⟨.any,1,8,[.ak]⟩),
 (161,⟨.any,1,8,[.ak]⟩),
 (162,⟨.any,1,8,[.ak]⟩),
 (163,⟨.any,1,8,[.ak]⟩),
 (164,⟨.any,1,8,[.ak]⟩),
 (165,⟨.av [(0,17),(1,17),(2,17),(3,9)],4,40,[.undef,.undef,.undef,.str ByteArray.empty]⟩),
 (166,⟨.av [(0,17),(1,17),(2,17),(3,9)],4,40,[.undef,.undef,.undef,.str ByteArray.empty]⟩),
 (167,⟨.arr 0 16,0,0,[]⟩),
 (170,⟨.any,1,8,[.ak]⟩),
 (171,⟨.int .u32,1,4,[.int .u32 0]⟩),
 (172,⟨.int .u8,1,1,[.int .u8 0]⟩),
 (173,⟨.int .u8,1,1,[.int .u8 0]⟩),
 (174,⟨.any,1,8,[.ak]⟩),
 (175,⟨.any,1,8,[.undef]⟩),
 (176,⟨.int .i32,1,4,[.int .i32 0]⟩),
 (177,⟨.int .i32,1,4,[.int .i32 0]⟩),
 (178,⟨.av [(0,12),(1,12),(2,171),(3,172),(4,5),(5,5),(6,173),(7,174),(8,175),(9,176),(10,177)],11,48,[.int .u64 0,.int .u64 0,.int .u32 0,.int .u8 0,.int .u8 0,.int .u8 0,.int .u8 0,.ak,.undef,.int .i32 0,.int .i32 0]⟩),
 (179,⟨.av [(0,12),(1,12),(2,171),(3,172),(4,5),(5,5),(6,173),(7,174),(8,175),(9,176),(10,177)],11,48,[.int .u64 0,.int .u64 0,.int .u32 0,.int .u8 0,.int .u8 0,.int .u8 0,.int .u8 0,.ak,.undef,.int .i32 0,.int .i32 0]⟩)]
def po (T:Nat):TS:=look {} sW T
theorem En:sW.all (fun p=>match p.2.k with|.other=>true|_=>Wr Tryz.prog p.1 p.2)=true:=by kernel_rfl
theorem vP {α:Type} {d:α} {q:Nat→α→Bool} (hd:∀ T,q T d=true):∀ (l:List (Nat×α)),l.all (fun p=>q p.1 p.2)=true→∀ T,q T (look d l T)=true
 | [], _, T => hd T
 | (i, a) :: l, h, T => by
  rw [ZG,zU] at h;rw [zN];split
  ·rename_i e;subst e;exact h.1
  ·exact vP hd l h.2 T
theorem Vo (T:Nat):(match (po T).k with|.other=>true|_=>Wr Tryz.prog T (po T))=true:=
 vP (q:=fun T ts=>match ts.k with|.other=>true|_=>Wr Tryz.prog T ts) (fun _=>rfl) sW En T
theorem XI:Tryz.prog.follows .mixedOrders=true:=by kernel_rfl
def zip (P:Program) (h1:∀ T,(match (po T).k with|.other=>true|_=>Wr P T (po T))=true) (h2:P.follows .mixedOrders=true) (N:Nat):Ctx:=⟨P,N,po,h1,h2⟩
theorem zj (N:Nat) {args:List FV} {m:eW} {res:FV} (h1:Tryz.prog.funcs[f]? = some fn) (h3:fn.ntmps=N) (hh:res.hand=none) (h:FW (zip Tryz.prog Vo XI N) code (fun e s=>(e=.ret∨e=.normal)∧jr (zip Tryz.prog Vo XI N) fn s m res) (entry args)) (h2:fn.body=some code:=by exact rfl) (h4:nK Tryz.prog f=true:=by kernel_rfl) (hn:∀ f∈args,f.hand=none:=by simp [FV.hand]) (hl:args.length≤N:=by exact yd rfl):zP Tryz.prog f args m res:=.eh (c:=zip Tryz.prog Vo XI N) ⟨h1,h2,h3,h4⟩ hn hl hh h
end
section
open Go.RowKit
structure ia {α:Type} (sz:Nat) (aS:α→List Value) (fv:α→List FV):Prop where
 rd:∀ w I x,aD w I (aS x) (fv x)
 inv:∀ w I us x,aD w I us (fv x)→us=aS x
 wide:∀ x,(fv x).length=sz
 one:∀ x,∀ f∈fv x,f.one=true
 flat:∀ x,FV.flat.c5 (fv x)=true
section
variable {α:Type} {sz:Nat} {aS:α→List Value} {fv:α→List FV}
theorem ia.jy (T:ia sz aS fv) (w:World) (I:Nat→Prop):∀ l:List α,aD w I (YtedkppfghdipdaaGreatDoor.flat aS l) (l.map fv).flatten
 | [] => aD.nil
 | x :: l => by
  simp only [YtedkppfghdipdaaGreatDoor.flat,Yd,zH,yz];exact (T.rd w I x).append (T.jy w I l)
theorem ia.ic (T:ia sz aS fv) (w:World) (I:Nat→Prop):∀ (l:List α) (us:List Value),aD w I us (l.map fv).flatten→us=YtedkppfghdipdaaGreatDoor.flat aS l
 | [], us, h => by have := h.1; simpa [YtedkppfghdipdaaGreatDoor.flat] using this
 | x :: l, us, h => by
  have h':=h;simp only [zH,yz] at h;have hl:=T.wide x;have h1:=h.take sz;have h2:=h.drop sz;rw [List.take_left' hl] at h1;rw [List.drop_left' hl] at h2;have e1:=T.inv w I _ x h1;have e2:=T.ic w I l _ h2;simp only [YtedkppfghdipdaaGreatDoor.flat,Yd];rw [← e1,show List.flatMap aS l=YtedkppfghdipdaaGreatDoor.flat aS l from rfl,← e2,List.take_append_drop]
theorem ia.o5 (T:ia sz aS fv) (l:List α):∀ e∈l.map fv,e.length=sz:=fun e he=>by
 obtain ⟨x,_,rfl⟩:=zM.1 he;exact T.wide x
theorem ia.rN (T:ia sz aS fv) (l:List α):∀ f∈(l.map fv).flatten,f.one=true:=fun f hf=>by
 obtain ⟨e,he,kh⟩:=xi.1 hf;obtain ⟨x,_,rfl⟩:=zM.1 he;exact T.one x f kh
theorem ia.to (T:ia sz aS fv) {A:Option Addr} {l:List α} {c:Nat} (h:Sl aS w B A l) (hc:l.length≤c):Rd w (fun b=>b<B) (.slice A l.length c) (.list sz (l.map fv)):=by
 have hR:=T.jy w (fun b=>b<B) l;refine .list A l.length c sz _ (YtedkppfghdipdaaGreatDoor.flat aS l) zg hc (T.o5 l) (T.rN l) (fun h0=>?_) hR.1 hR.2;obtain ⟨b,off,ha,hb,aW⟩:=h (fun e=>h0 (by rw [e];rfl));exact ⟨b,off,ha,hb,aW⟩
theorem ia.of (T:ia sz aS fv) {l:List α} (h:Rd w I v (.list sz (l.map fv))) (hI:∀ b,I b→b<B):∃ A c,v=.slice A l.length c∧l.length≤c∧Sl aS w B A l:=by
 cases h with
 | list A n c sz es us hn hc he ho hA hl hr =>
  rw [zy] at hn;subst hn;have:=T.ic w I l us ⟨hl,hr⟩;subst this;refine ⟨A,c,rfl,hc,fun bQ=>?_⟩;obtain ⟨b,off,ha,hb,aW⟩:=hA (by simpa using bQ);exact ⟨b,off,ha,hI b hb,aW⟩
end
theorem Rd.bR {k:IntKind} {n:Int} (h:Rd w I v (.int k n)):v=.int k n:=by cases h;rfl
theorem Rd.fX {b:Bool} (h:Rd w I v (.bool b)):v=.bool b:=by cases h;rfl
theorem aD.cons_inv {f:FV} {fs:List FV} (h:aD w I us (f::fs)):∃ u vs,us=u::vs∧Rd w I u f∧aD w I vs fs:=by
 cases us with
 | nil => have := h.1; simp at this
 | cons u vs => exact ⟨u, vs, rfl, h.2 0 u f rfl rfl, by have := h.1; simpa using this, fun j u' f' hu hf => h.2 (j+1) u' f' (by simpa using hu) (by simpa using hf)⟩
theorem aD.eg (h:aD w I us []):us=[]:=by have:=h.1;simpa using this
theorem aD.inv1 {f0:FV} (h:aD w I vs [f0]):∃ u0,vs=[u0]∧Rd w I u0 f0:=by
 obtain ⟨u0,r0,rfl,e0,h0⟩:=h.cons_inv;have:=h0.eg;subst this;exact ⟨u0,rfl,e0⟩
theorem aD.inv2 {f0 f1:FV} (h:aD w I vs [f0,f1]):∃ u0 u1,vs=[u0,u1]∧Rd w I u0 f0∧Rd w I u1 f1:=by
 obtain ⟨u0,r0,rfl,e0,h0⟩:=h.cons_inv;obtain ⟨u1,r1,rfl,e1,h1⟩:=h0.cons_inv;have:=h1.eg;subst this;exact ⟨u0,u1,rfl,e0,e1⟩
def yQ (x:Int):List FV:=[.int .i64 x]
theorem y8:ia 1 qm yQ where
 rd w I x:=aD.cons (.int _ _) .nil
 inv w I us x h:=by
  obtain ⟨u,vs,rfl,h1,h2⟩:=h.cons_inv;rw [h1.bR,h2.eg];rfl
 wide x:=rfl
 one x f hf:=by simp [yQ] at hf;subst hf;rfl
 flat x:=rfl
def aN.fv (o:aN):List FV:=[.int .i64 o.p,.int .i64 o.k,.int .i64 o.key,.int .i64 o.arg,.int .i64 o.res,.int .i64 o.call,.int .i64 o.ret,.bool o.done]
theorem Br:ia 8 aN.aS aN.fv where
 rd w I x:=aD.cons (.int _ _) <| aD.cons (.int _ _) <| aD.cons (.int _ _) <| aD.cons (.int _ _) <| aD.cons (.int _ _) <| aD.cons (.int _ _) <| aD.cons (.int _ _) <| aD.cons (.bool _) .nil
 inv w I us x h:=by
  obtain ⟨_,_,rfl,h1,h⟩:=h.cons_inv;obtain ⟨_,_,rfl,h2,h⟩:=h.cons_inv;obtain ⟨_,_,rfl,h3,h⟩:=h.cons_inv;obtain ⟨_,_,rfl,h4,h⟩:=h.cons_inv;obtain ⟨_,_,rfl,h5,h⟩:=h.cons_inv;obtain ⟨_,_,rfl,h6,h⟩:=h.cons_inv;obtain ⟨_,_,rfl,h7,h⟩:=h.cons_inv;obtain ⟨_,_,rfl,h8,h⟩:=h.cons_inv;rw [h1.bR,h2.bR,h3.bR,h4.bR,h5.bR,h6.bR,h7.bR,h8.fX,h.eg];rfl
 wide x:=rfl
 one x f hf:=by simp [aN.fv] at hf;rcases hf with rfl|rfl|rfl|rfl|rfl|rfl|rfl|rfl <;> rfl
 flat x:=rfl
theorem zP.law {P:Program} {args:List FV} (h:zP P f args .fr (.bool true)) (hv:aD w (fun b=>b<w.heap.size) vs args):Calls P f vs.toArray w fun e w'=>e=.returned (.bool true)∧Below w.heap.size w w':=by
 refine (h.calls w _ vs (fun b hb=>hb) hv).mono ?_;rintro e w' ⟨v,rfl,hb,hr⟩;have AU : Rd w' _ v (.bool true):=hr;rw [AU.fX];exact ⟨rfl,hb⟩
theorem F1 {t:List (Nat×FV)} {ob:List (Nat×zL)} {id aa sz:Nat} {es aZ : List (List FV)} (hr:fn.results.toList=[.tmp d]) (h:look .undef t d=.own id aa 0 n) (hb:look {} ob id=⟨aa,.own,E,sz,es⟩) (hn:n=es.length) (hp:0<sz) (e:es=aZ)
  (hf:∀ e∈aZ,FV.flat.c5 e=true):jr c fn ⟨t,ob⟩ (.ow E sz) (.list sz aZ):=by
 subst e;have bB : (⟨t,ob⟩:ae).ob id=⟨aa,.own,E,sz,es⟩:=hb;have:=jr.ow (c:=c) (fn:=fn) (s:=⟨t,ob⟩) hr h (by rw [bB]) (by rw [bB]) (by rw [bB];exact hn) (by rw [bB];exact hp) (by rw [bB];exact hf);rw [bB] at this;exact this
theorem zh {f f' : FV} (hr:fn.results.toList=[.tmp d]) (h:s.get d=f) (e:f=f') (hf:f'.flat=true):jr c fn s .fr f':=by
 subst e;exact .flat (fs:=[f]) (by rw [hr];exact .cons (.tmp d h (FV.iG hf)) .nil) rfl hf
end
section
open Go.RowKit
def xy (n aV:Int):Int:=(if n<0 then -(n+1) else n) % aV
theorem Wv {n:Int} (h:0<aV):0≤xy n aV:=Int.emod_nonneg _ zc
theorem Wu {n:Int} (h:0<aV):xy n aV<aV:=Int.emod_lt_of_pos _ h
theorem De (n aV:Int) (w:World) (hn:bD n) (h1:1≤aV) (h2:aV≤4611686018427387904) :
  Calls Tryz.prog 6 #[.int .i64 n,.int .i64 aV] w fun e w'=>e=.returned (.int .i64 (xy n aV))∧w=w':=by
 unfold bD at hn;obtain ⟨g1,g2⟩:=hn;by_cases oD:n<0
 ·have e:xy n aV=(-(n+1)) % aV:=by simp [xy,oD]
  rw [e];clear e
  go_enter Tryz.func6,Tryz.ntmps6
  go_wp2
  go_ret
  have e2:-(n+1).tmod aV=(-(n+1)) % aV:=by rw [← Int.neg_tmod,YI zc]
  exact ⟨by simp [e2],rfl⟩
 ·have e:xy n aV=n % aV:=by simp [xy,oD]
  rw [e];clear e
  go_enter Tryz.func6,Tryz.ntmps6
  go_wp2
  go_ret
  exact ⟨rfl,rfl⟩
theorem YF (n aV:Int) (hn:bD n) (h1:1≤aV) (h2:aV≤4611686018427387904):zP Tryz.prog 6 [.int .i64 n,.int .i64 aV] .fr (.int .i64 (xy n aV)) where
 go:=by kernel_rfl
 hand:=rfl
 calls w I vs hI hv:=by
  obtain ⟨_,_,rfl,e1,e2⟩:=hv.inv2;rw [e1.bR,e2.bR];refine (De n aV w hn h1 h2).mono ?_;rintro e w' ⟨rfl,rfl⟩;exact ⟨_,rfl,Xv _ _,.int _ _⟩
theorem Ct (l:List aN) (cE:∀ o∈l,mW o) (hlen:l.length≤1000000000):zP Tryz.prog 36 [.list 8 (l.map aN.fv)] .fr (.int .i64 (WR l)) where
 go:=by kernel_rfl
 hand:=rfl
 calls w I vs hI hv:=by
  obtain ⟨_,rfl,e1⟩:=hv.inv1;obtain ⟨A,c,rfl,_,hs⟩:=Br.of e1 hI;refine (DB A c l w hs cE hlen).mono ?_;rintro e w' ⟨rfl,hb⟩;exact ⟨_,rfl,hb,.int _ _⟩
end
section
set_option maxRecDepth 100000
open Go.ChangeShapes Go.WideShapes Go.ChangeAt Go.RowKit Go.Deep
theorem vh (h:(Lit.int .i64 x).wf=true):bD x:=by
 simp [Lit.wf,IntKind.min,IntKind.max,IntKind.signed,IntKind.bits] at h;unfold bD;omega
section
variable {H:Type} {enc:TypeId×Value→H} {W:World} {base:Nat} {spare:Nat→Bool} {held:Bool} {v:Value} {d:DataW H} {p:List MemPlace} {r:Reach} {b0:Nat}
theorem EY {a:Addr} (h:w.cell? a=some u):a=⟨a.block,a.off,none⟩:=by
 obtain ⟨b,o,s⟩:=a;cases s with
 | none => rfl
 | some s =>
  unfold World.cell? at h;simp only [Option.isSome_some,if_true] at h;split at h <;> cases h
theorem Eo (a:Addr) (h:a=⟨a.block,a.off,none⟩) (n:Nat):a.add n=⟨a.block,a.off+n,none⟩:=by
 obtain ⟨b,o,s⟩:=a;obtain rfl:s=none:=by injection h
 unfold Addr.add;split
 ·subst n;rfl
 ·rfl
theorem Eg (ht:Tryz.prog.underlying 3=some (.int .i64)) (hv:Value.okWide Tryz.prog W r b0 3 v) (h:DataW.Trod enc Tryz.prog W base spare held 3 v d p):∃ x,v=.int .i64 x∧bD x:=by
 obtain ⟨x,rfl,_,_,wx⟩:=open_int ht hv h;exact ⟨x,rfl,vh wx⟩
theorem EK (hv:Value.okWide Tryz.prog W r b0 22 v) (h:DataW.Trod enc Tryz.prog W base spare held 22 v d p) :
  ∃ A c l,v=.slice A l.length c∧Sl qm W W.heap.size A l∧(∀ x∈l,bD x)∧l.length≤9223372036854775807:=by
 obtain ⟨a0,iT,qt,rfl⟩:=okWide_slice Tryz.underlying22 hv;obtain ⟨fuel,hf⟩:=h;rcases open_ints Tryz.underlying22 Tryz.underlying3 zD hf with ⟨bj,_⟩|⟨x,l,c,zs,bj,_,hl,hm,hz,_,aW,uf⟩
 ·simp [Value.cells] at bj;obtain ⟨rfl,rfl,rfl⟩:=bj;exact ⟨none,0,[],rfl,Sl.rI _ _ _ _,by simp,zB _⟩
 ·simp [Value.cells] at bj;obtain ⟨rfl,rfl,rfl⟩:=bj;have GC:iT≤zs.length:=by rw [hz];split <;> omega
  have hlen:(zs.take iT).length=iT:=by simp;omega
  refine ⟨some x,qt,zs.take iT,by rw [hlen],fun bQ=>?_,fun y hy=>vh (uf y (xj hy)),by unfold maxLen at hm;omega⟩;have h0:0<iT:=by
   rcases WD iT with e|e
   ·subst e;simp at bQ
   ·exact e
  have qK:=aW 0 zc;rw [show x.add 0=x by simp [Addr.add]] at qK;have hs:=EY qK;refine ⟨x.block,x.off,by rw [← hs],World.block_lt_of_cell? W x qK,fun j u hu=>?_⟩;rw [Ec,yK,xg] at hu;split at hu
  ·have hj:j<zs.length:=by omega
   have:=aW j hj;rw [Eo x hs] at this;rw [this];simpa [hj] using hu
  ·simp at hu
end
section
variable {H:Type} {enc:TypeId×Value→H} {W:World} {base:Nat} {spare:Nat→Bool} {held:Bool} {v:Value} {d:DataW H} {p:List MemPlace} {r:Reach} {b0:Nat}
end
section
variable {H:Type} {enc:TypeId×Value→H} {W:World} {base:Nat} {spare:Nat→Bool} {held:Bool} {v:Value} {d:DataW H} {p:List MemPlace} {r:Reach} {b0:Nat}
theorem wA (hv:Value.okWide Tryz.prog W r b0 22 v) (h:DataW.Trod enc Tryz.prog W base spare held 22 v d p) :
  ∃ l:List Int,Rd W (fun b=>b<W.heap.size) v (.list 1 (l.map yQ))∧(∀ x∈l,bD x)∧l.length≤9223372036854775807:=by
 have h':=h;obtain ⟨A,c,l,rfl,s,i,m⟩:=EK hv h;refine ⟨l,?_,i,m⟩;obtain ⟨fuel,hf⟩:=h';rcases open_ints Tryz.underlying22 Tryz.underlying3 zD hf with ⟨bj,_⟩|⟨x,l',c',zs,bj,_,hl,hm,hz,_,aW,uf⟩
 ·simp [Value.cells] at bj;obtain ⟨rfl,h0,rfl⟩:=bj;exact y8.to s (by simp [h0])
 ·simp [Value.cells] at bj;obtain ⟨rfl,h0,rfl⟩:=bj;exact y8.to s zc
theorem wM (hv:Value.okWide Tryz.prog W r b0 3 v) (h:DataW.Trod enc Tryz.prog W base spare held 3 v d p):∃ x:Int,Rd W (fun b=>b<W.heap.size) v (.int .i64 x)∧bD x:=by
 obtain ⟨x,rfl,i⟩:=Eg Tryz.underlying3 hv h;exact ⟨x,.int _ _,i⟩
end
end
end Go.Proofs.YtedkppfghdipdaaGreatDoor
