/-
  Lemmas, in parts.
-/
import Derived.Test.YtphidhljdcledaaGreatZFmM
namespace Go.Proofs.YtphidhljdcledaaGreat
set_option linter.unusedVariables false
set_option maxHeartbeats 16000000
open Go.RowKit
variable {E N base f i k o:Nat} {v:Value} {c:Ctx} {code:Code} {w w0:World} {ex ks:List Nat} {g:Nat→Nat} {I:Nat→Prop} {β:Nat→Option Nat} {s:ah} {J:JJ} {a:Act} {vs:List Value} {xs:List Operand} {ts:Array TypeId}
structure bJ where
 new:Nat
 src:Option Nat
 vo:Nat
 b:zE
inductive iI (M:List bJ):FV→FV→Prop where
 | plain {f f' : FV} (hn:f.hand=none) (e:f=f'):iI M f f'
 | own {i i' v v' o o' n n' : Nat} {b:zE} (hm:(⟨i', some i, v, b⟩:bJ) ∈ M) (hv:b.ae=v') (eo:o=o') (e:n=n'):iI M (.own i v o n) (.own i' v' o' n')
 | ptr {i i' v v' j o:Nat} {b:zE} (hm:(⟨i', some i, v, b⟩:bJ) ∈ M) (hv:b.ae=v'):iI M (.ptr i v j o) (.ptr i' v' j o)
 | nil {i' vo v' : Nat} {b:zE} (hm:(⟨i', none, vo, b⟩:bJ) ∈ M) (hv:b.ae=v'):iI M .nil (.own i' v' 0 0)
 | fH {sz:Nat}:iI M .nil (.list sz [])
 | omap {i i' v v' : Nat} {b:zE} (hm:(⟨i', some i, v, b⟩:bJ) ∈ M) (hv:b.ae=v'):iI M (.omap i v) (.omap i' v')
 | mQ {k:Wk} {fs gQ : List FV} (hl:fs.length=gQ.length) (h:∀ (j:Nat) f f', fs[j]? = some f → gQ[j]? = some f' → iI M f f'):iI M (.wrap k fs) (.wrap k gQ)
inductive Ys (M:List bJ):List FV→List FV→Prop where
 | nil:Ys M [] []
 | cons {f f' : FV} {fs gQ : List FV} (h:iI M f f') (hs:Ys M fs gQ):Ys M (f :: fs) (f' :: gQ)
theorem Ys.get {M:List bJ} {fs gQ : List FV} (h:Ys M fs gQ):fs.length=gQ.length∧∀ (j:Nat) f f',fs[j]? = some f→gQ[j]? = some f'→iI M f f':=by
 induction h with
 | nil => exact ⟨rfl, by simp⟩
 | cons h hs ih =>
  refine ⟨by simp [ih.1],fun j f f' hf bS=>?_⟩;cases j with
  | zero => simp at hf bS; subst hf; subst bS; exact h
  | succ j => exact ih.2 j f f' (by simpa using hf) (by simpa using bS)
theorem iI.wrap {M:List bJ} {k:Wk} {fs gQ : List FV} (h:Ys M fs gQ):iI M (.wrap k fs) (.wrap k gQ):=.mQ h.get.1 h.get.2
inductive gp (M:List bJ):List (List FV)→List (List FV)→Prop where
 | nil:gp M [] []
 | cons {f f' : FV} {es ba : List (List FV)} (h:iI M f f') (hs:gp M es ba):gp M ([f] :: es) ([f'] :: ba)
theorem gp.len {M:List bJ} {es ba : List (List FV)} (h:gp M es ba):es.length=ba.length∧es.flatten.length=ba.flatten.length∧(∀ e∈ba,e.length=1)∧∀ (j:Nat) f f',es.flatten[j]? = some f→ba.flatten[j]? = some f'→iI M f f':=by
 induction h with
 | nil => exact ⟨rfl, rfl, by simp, by simp⟩
 | cons h hs ih=>
  obtain ⟨h1,h2,h3,h4⟩:=ih;refine ⟨by simp [h1],by simpa using h2,fun e he=>?_,fun j f f' hf bS=>?_⟩
  ·rcases zA.1 he with rfl|he
   ·rfl
   ·exact h3 e he
  ·cases j with
   | zero => simp at hf bS; subst hf; subst bS; exact h
   | succ j => simp at hf bS; exact h4 j f f' (by simpa using hf) (by simpa using bS)
def eU (M:List bJ) (sz:Nat) (es ba : List (List FV)):Prop:=es.length=ba.length∧es.flatten.length=ba.flatten.length∧(∀ e∈ba,e.length=sz)∧∀ (j:Nat) f f',es.flatten[j]? = some f→ba.flatten[j]? = some f'→iI M f f'
theorem eU.nil {M:List bJ} {sz:Nat}:eU M sz [] []:=⟨rfl,rfl,by simp,by simp⟩
theorem eU.cons {M:List bJ} {sz:Nat} {r r' : List FV} {es ba : List (List FV)} (h:Ys M r r') (hl:r'.length=sz) (hs:eU M sz es ba):eU M sz (r::es) (r'::ba):=by
 obtain ⟨h1,h2,h3,h4⟩:=hs;obtain ⟨g1,g2⟩:=h.get;refine ⟨by simp [h1],by simp [h2,g1],fun e he=>?_,fun j f f' hf bS=>?_⟩
 ·rcases zA.1 he with rfl|he
  ·exact hl
  ·exact h3 e he
 ·rw [xF] at hf bS;rcases yg j r.length with hj|hj
  ·rw [xO hj] at hf;rw [xO (by rw [← g1];exact hj)] at bS;exact g2 j f f' hf bS
  ·rw [Zd hj] at hf;rw [Zd (by rw [← g1];exact hj),← g1] at bS;exact h4 _ f f' hf bS
def sL (M:List bJ) (es ba : List (List FV)):Prop:=es.length=ba.length∧∀ (j:Nat) cz,ba[j]? = some cz→∃ k f f',es[j]? = some [k,f]∧cz=[k,f']∧iI M f f'
theorem sL.nil {M:List bJ}:sL M [] []:=⟨rfl,fun j row h=>by simp at h⟩
def Zn.plain:Zn→Bool
 | .dead|.aj|.bh => false
 | _ => true
theorem Zn.sq {l:Zn} (h:l.plain=true):l≠.dead:=by rintro rfl;cases h
inductive Zu (ob:List (Nat×zE)) (M0:List bJ):List bJ→Prop where
 | nil:Zu ob M0 []
 | bL {i' i vo v E sz:Nat} {lf:Zn} {es ba : List (List FV)} {M:List bJ} (h:look {} ob i=⟨vo, lf, E, sz, es⟩) (hl:lf.plain=true) (e:es=ba) (hM:Zu ob M0 M):Zu ob M0 (⟨i', some i, vo, ⟨v, lf, E, sz, ba⟩⟩ :: M)
 | new {i' vo v E sz:Nat} {M:List bJ} (hM:Zu ob M0 M):Zu ob M0 (⟨i', none, vo, ⟨v, .own, E, sz, []⟩⟩ :: M)
 | cP {i' i vo v E:Nat} {es ba : List (List FV)} {M:List bJ} (h:look {} ob i=⟨vo, .aj, E, 1, es⟩) (e:gp M0 es ba) (hM:Zu ob M0 M):Zu ob M0 (⟨i', some i, vo, ⟨v, .aj, E, 1, ba⟩⟩ :: M)
 | eA {i' i vo v E sz:Nat} {es ba : List (List FV)} {M:List bJ} (h:look {} ob i=⟨vo, .aj, E, sz, es⟩) (e:eU M0 sz es ba) (hM:Zu ob M0 M):Zu ob M0 (⟨i', some i, vo, ⟨v, .aj, E, sz, ba⟩⟩ :: M)
 | og {i' i vo v E sz:Nat} {es ba : List (List FV)} {M:List bJ} (h:look {} ob i=⟨vo, .bh, E, sz, es⟩) (e:sL M0 es ba) (hM:Zu ob M0 M):Zu ob M0 (⟨i', some i, vo, ⟨v, .bh, E, sz, ba⟩⟩ :: M)
theorem Zu.get {ob:List (Nat×zE)} {M0 M:List bJ} (h:Zu ob M0 M):∀ e∈M,e.b.ao≠.dead∧(∀ i,e.src=some i→∃ du,look {} ob i=⟨e.vo,e.b.ao,e.b.E,e.b.sz,du⟩∧du.length=e.b.es.length∧((e.b.ao.plain=true∧du=e.b.es)∨(e.b.ao=.aj∧eU M0 e.b.sz du e.b.es)∨(e.b.ao=.bh∧sL M0 du e.b.es)))∧(e.src=none→e.b.ao=.own∧e.b.es=[]):=by
 induction h with
 | nil => intro e he; simp at he
 | bL h hl e hM ih=>
  intro q hq;rcases zA.1 hq with rfl|hq
  ·refine ⟨Zn.sq hl,fun i hi=>?_,fun hi=>by cases hi⟩;injection hi with hi
   subst hi;subst e;exact ⟨_,h,rfl,.inl ⟨hl,rfl⟩⟩
  ·exact ih q hq
 | new hM ih =>
  intro q hq;rcases zA.1 hq with rfl|hq
  ·exact ⟨by simp,(fun i hi=>by cases hi),fun _=>⟨rfl,rfl⟩⟩
  ·exact ih q hq
 | cP h e hM ih=>
  intro q hq;rcases zA.1 hq with rfl|hq
  ·refine ⟨by simp,fun i hi=>?_,fun hi=>by cases hi⟩;injection hi with hi
   subst hi;exact ⟨_,h,e.len.1,.inr (.inl ⟨rfl,e.len⟩)⟩
  ·exact ih q hq
 | eA h e hM ih=>
  intro q hq;rcases zA.1 hq with rfl|hq
  ·refine ⟨by simp,fun i hi=>?_,fun hi=>by cases hi⟩;injection hi with hi
   subst hi;exact ⟨_,h,e.1,.inr (.inl ⟨rfl,e⟩)⟩
  ·exact ih q hq
 | og h e hM ih=>
  intro q hq;rcases zA.1 hq with rfl|hq
  ·refine ⟨by simp,fun i hi=>?_,fun hi=>by cases hi⟩;injection hi with hi
   subst hi;exact ⟨_,h,e.1,.inr (.inr ⟨rfl,e⟩)⟩
  ·exact ih q hq
inductive qX (t:List (Nat×FV)) (M:List bJ):Nat→FV→Prop where
 | plain {d:Nat} {f f' : FV} (h:look .undef t d=f) (hn:f.hand=none) (e:f=f'):qX t M d f'
 | own {d i i' v v' o n n' : Nat} {b:zE} (h:look .undef t d=(.own i v o n)) (hm:(⟨i', some i, v, b⟩:bJ) ∈ M) (hv:b.ae=v') (e:n=n'):qX t M d (.own i' v' o n')
 | ptr {d i i' v v' j o:Nat} {b:zE} (h:look .undef t d=(.ptr i v j o)) (hm:(⟨i', some i, v, b⟩:bJ) ∈ M) (hv:b.ae=v'):qX t M d (.ptr i' v' j o)
 | nil {d i' vo v' : Nat} {b:zE} (h:look .undef t d=.nil) (hm:(⟨i', none, vo, b⟩:bJ) ∈ M) (hv:b.ae=v'):qX t M d (.own i' v' 0 0)
 | fH {d sz:Nat} (h:look .undef t d=.nil):qX t M d (.list sz [])
 | omap {d i i' v v' : Nat} {b:zE} (h:look .undef t d=(.omap i v)) (hm:(⟨i', some i, v, b⟩:bJ) ∈ M) (hv:b.ae=v'):qX t M d (.omap i' v')
 | wrap {d:Nat} {k:Wk} {fs gQ : List FV} (h:look .undef t d=.wrap k fs) (hc:Ys M fs gQ):qX t M d (.wrap k gQ)
inductive m5 (t:List (Nat×FV)) (M:List bJ):List (Nat×FV)→Prop where
 | nil:m5 t M []
 | cons {d:Nat} {f:FV} {t' : List (Nat × FV)} (h:qX t M d f) (hs:m5 t M t'):m5 t M ((d, f) :: t')
theorem qX.SP {t:List (Nat×FV)} {M:List bJ} {d:Nat} {f:FV} (h:qX t M d f):iI M (look .undef t d) f:=by
 cases h with
 | plain h hn e => rw [h]; exact .plain hn e
 | own h hm hv e => rw [h]; exact .own hm hv rfl e
 | ptr h hm hv => rw [h]; exact .ptr hm hv
 | nil h hm hv => rw [h]; exact .nil hm hv
 | fH h => rw [h]; exact .fH
 | omap h hm hv => rw [h]; exact .omap hm hv
 | wrap h hc => rw [h]; exact .wrap hc
theorem m5.get {t:List (Nat×FV)} {M:List bJ} {t' : List (Nat×FV)} (h:m5 t M t') (d:Nat):look .undef t' d=.undef∨qX t M d (look .undef t' d):=by
 induction h with
 | nil => exact .inl rfl
 | cons h hs ih =>
  rw [zI];split
  ·rename_i e;subst e;exact .inr h
  ·exact ih
def nu (M:List bJ) (k:Nat):Option bJ:=look none (M.map fun e=>(e.new,some e)) k
theorem ziE:∀ {M:List bJ} {k:Nat} {e:bJ},nu M k=some e→e∈M∧e.new=k
 | [], _, _, h => by cases h
 | q :: M, k, e, h => by
  unfold nu at h;rw [zZ,zI] at h;split at h
  ·rename_i hk;injection h with h;subst h;exact ⟨by simp,hk⟩
  ·have:=ziE (M:=M) h;exact ⟨by simp [this.1],this.2⟩
theorem Qs:∀ {M:List bJ} (_:(M.map bJ.new).Nodup) {e:bJ},e∈M→nu M e.new=some e
 | [], _, _, h => by simp at h
 | q::M,hn,e,h=>by
  unfold nu;rw [zZ,zI];rw [zZ,yp] at hn;rcases zA.1 h with rfl|h
  ·rw [if_pos rfl]
  ·rw [if_neg (fun hq=>hn.1 (zi.2 ⟨e,h,hq.symm⟩))];exact Qs hn.2 h
theorem zoz:∀ (M:List bJ) (k:Nat),look {} (M.map fun e=>(e.new,e.b)) k=((nu M k).map bJ.b).getD {}
 | [], _ => rfl
 | q :: M, k => by
  unfold nu;rw [zZ,zZ,zI,zI];split
  ·rfl
  ·exact zoz M k
theorem W7:∀ {M:List bJ} (_:(M.filterMap bJ.src).Nodup) {e q:bJ} {i:Nat},e∈M→q∈M→e.src=some i→q.src=some i→e=q
 | [], _, _, _, _, h, _, _, _ => by simp at h
 | p::M,hn,e,q,i,he,hq,h1,h2=>by
  have key:∀ x∈M,x.src=some i→p.src=some i→False:=fun x hx Dl Bq=>by
   rw [Ym,Bq] at hn;exact (yp.1 hn).1 (yU.2 ⟨x,hx,Dl⟩)
  have Oa : (M.filterMap bJ.src).Nodup:=by
   rw [Ym] at hn;cases hp:p.src with
   | none => rw [hp] at hn; exact hn
   | some j => rw [hp] at hn; exact (yp.1 hn).2
  rcases zA.1 he with rfl|he
  ·rcases zA.1 hq with rfl|ku
   ·rfl
   ·exact (key q ku h2 h1).elim
  ·rcases zA.1 hq with rfl|ku
   ·exact (key e (by assumption) h1 h2).elim
   ·exact W7 Oa (by assumption) ku h1 h2
inductive kj (ob:List (Nat×zE)):List bJ→Prop where
 | nil:kj ob []
 | low {q:bJ} {M:List bJ} (h:Nat.ble zm q.new=false) (hs:kj ob M):kj ob (q :: M)
 | same {i v:Nat} {b:zE} {M:List bJ} (e:b.ae=v) (hs:kj ob M):kj ob (⟨i, some i, v, b⟩ :: M)
 | EB {q:bJ} {M:List bJ} (e:(look {} ob q.new).ae<q.b.ae) (hs:kj ob M):kj ob (q :: M)
theorem kj.get {ob:List (Nat×zE)} {M:List bJ} (h:kj ob M):∀ q∈M,zm≤q.new→(q.src=some q.new∧q.b.ae=q.vo)∨(look {} ob q.new).ae<q.b.ae:=by
 induction h with
 | nil => intro q hq; cases hq
 | low h hs ih =>
  intro q hq il;rcases zA.1 hq with rfl|hq
  ·rw [Uq il] at h;cases h
  ·exact ih q hq il
 | same e hs ih =>
  intro q hq il;rcases zA.1 hq with rfl|hq
  ·exact .inl ⟨rfl,e⟩
  ·exact ih q hq il
 | EB e hs ih =>
  intro q hq il;rcases zA.1 hq with rfl|hq
  ·exact .inr e
  ·exact ih q hq il
def Ml (ob:List (Nat×zE)) (M:List bJ):Bool:=ob.all fun p=>!Nat.ble zm p.1 || M.any fun q=>Nat.beq q.new p.1
def Mm (ob:List (Nat×zE)):Bool:=ob.all fun p=>!Nat.ble zm p.1
theorem QK {ob:List (Nat×zE)} (h:Mm ob=true) (M:List bJ):Ml ob M=true:=
 zL.2 fun p hp=>by rw [zL.1 h p hp];rfl
theorem Ld {α:Type} {d:α}:∀ {l:List (Nat×α)} {k:Nat},(∀ p∈l,p.1≠k)→look d l k=d
 | [], _, _ => rfl
 | p :: l, k, h => by
  obtain ⟨i,x⟩:=p;rw [zI,if_neg (h (i,x) zc)];exact Ld fun p hp=>h p (xW _ hp)
theorem zrR {ob:List (Nat×zE)} {M:List bJ} (h:Ml ob M=true) (hk:zm≤k):(∃ q∈M,q.new=k)∨look {} ob k={}:=by
 by_cases hx:∃ p∈ob,p.1=k
 ·obtain ⟨p,hp,rfl⟩:=hx;have h1:=zL.1 h p hp;rw [Uq hk] at h1;simp only [Bool.not_true,ZR] at h1;obtain ⟨q,hq,e⟩:=Yk.1 h1;exact .inl ⟨q,hq,ZF e⟩
 ·exact .inr (Ld fun p hp e=>hx ⟨p,hp,e⟩)
theorem ar.conv {t t' : List (Nat×FV)} {ob:List (Nat×zE)} (M:List bJ) (hk:(M.map bJ.new).Nodup) (hs:(M.filterMap bJ.src).Nodup) (NG:Ml ob M=true) (Bb:kj ob M) (ho:Zu ob M M) (ht:m5 t M t'):ar ⟨t,ob⟩ ⟨t',M.map fun e=>(e.new,e.b)⟩:=by
 intro N w0 J a w β hF;refine ⟨fun k=>(nu M k).bind fun e=>e.src.bind β,?_⟩;have hE:=ho.get;have aR:∀ k,(⟨t',M.map fun e=>(e.new,e.b)⟩:ah).ob k=((nu M k).map bJ.b).getD {}:=fun k=>zoz M k;have cO:∀ e∈M,(⟨t',M.map fun e=>(e.new,e.b)⟩:ah).ob e.new=e.b:=fun e he=>by rw [aR,Qs hk he];rfl
 have tA:∀ e∈M,((nu M e.new).bind fun e=>e.src.bind β)=e.src.bind β:=fun e he=>by rw [Qs hk he];rfl
 have au:∀ k,((⟨t',M.map fun e=>(e.new,e.b)⟩:ah).ob k).ao≠.dead→∃ e∈M,e.new=k:=fun k hl=>by
  rw [aR] at hl;cases hm:nu M k with
  | none => rw [hm] at hl; exact absurd rfl hl
  | some e => exact ⟨e, ziE hm⟩
 have hold:∀ e∈M,∀ i,e.src=some i→∃ du,(⟨t,ob⟩:ah).ob i=⟨e.vo,e.b.ao,e.b.E,e.b.sz,du⟩∧du.length=e.b.es.length∧((e.b.ao.plain=true∧du=e.b.es)∨(e.b.ao=.aj∧eU M e.b.sz du e.b.es)∨(e.b.ao=.bh∧sL M du e.b.es)):=fun e he i hi=>(hE e he).2.1 i hi;have hI:∀ b,aF J w β ⟨t,ob⟩ b→aF J w (fun k=>(nu M k).bind fun e=>e.src.bind β) ⟨t',M.map fun e=>(e.new,e.b)⟩ b∧w.heap[b]? = w.heap[b]?:=fun b hb=>by
  refine ⟨⟨hb.1,hb.2.1,fun id hl=>?_⟩,rfl⟩;obtain ⟨e,he,rfl⟩:=au id (Zn.bc hl);rw [cO e he] at hl;dsimp only;rw [tA e he];cases uL:e.src with
  | none => simp
  | some i =>
   obtain ⟨du,h1,_⟩:=hold e he i uL;exact hb.2.2 i (by rw [h1];exact hl)
 have jw:∀ e∈M,∀ i,e.src=some i→∀ v o n,fh w (β i) ((⟨t,ob⟩:ah).ob i) v o n→fh w ((nu M e.new).bind fun e=>e.src.bind β) ((⟨t',M.map fun e=>(e.new,e.b)⟩:ah).ob e.new) v o n:=fun e he i hi v o n h=>by
  rw [tA e he,hi,cO e he];obtain ⟨du,h1,h2,_⟩:=hold e he i hi;rw [h1] at h;obtain ⟨A,c,k1,k2,k3,k4,k5⟩:=h.ex;exact ⟨h.row,A,c,k1,k2,by rw [← h2];exact k3,k4,k5⟩
 have GO:∀ v f f',iI M f f'→oB w (aF J w β ⟨t,ob⟩) β ⟨t,ob⟩ v f→oB w (aF J w (fun k=>(nu M k).bind fun e=>e.src.bind β) ⟨t',M.map fun e=>(e.new,e.b)⟩) (fun k=>(nu M k).bind fun e=>e.src.bind β) ⟨t',M.map fun e=>(e.new,e.b)⟩ v f':=fun v f f' hc hv=>by
  cases hc with
  | plain hn e =>
   subst e;cases f <;> first|exact Rd.mono hI hv|(simp [FV.hand] at hn)
  | own hm aK eo e =>
   intro _ _;subst e;subst eo;obtain ⟨du,h1,_⟩:=hold _ hm _ rfl;exact jw _ hm _ rfl _ _ _ (hv (by rw [h1];exact (hE _ hm).1) (by rw [h1]))
  | @ptr i i' v v' j o b hm aK =>
   intro _ _;obtain ⟨du,h1,_⟩:=hold _ hm _ rfl;obtain ⟨bK,bb,hb,hp⟩:=hv (by rw [h1];exact (hE _ hm).1) (by rw [h1]);have h2:=cO _ hm;have h3:=tA _ hm;dsimp only at h2 h3;rw [h1] at bK hp;refine ⟨by rw [h2];exact bK,bb,?_,by rw [h2];exact hp⟩;dsimp only;rw [h3];exact hb
  | @nil i' vo v' b hm aK =>
   intro _ _;have h2:=cO _ hm;have h3:=tA _ hm;dsimp only at h2 h3;have nh : Rd w _ v .nil:=hv;have mz:v=.slice none 0 0:=by cases nh;rfl
   rw [mz];dsimp only;rw [h2,h3];exact ⟨by have:=((hE _ hm).2.2 rfl).1;dsimp only at this;rw [this];rfl,none,0,rfl,zg _,by omega,fun _=>⟨rfl,rfl⟩,fun b hb=>by simp at hb⟩
  | mQ hl bk => have nh : Rd w _ v (.wrap _ _) := hv; cases nh
  | fH =>
   have nh : Rd w _ v .nil:=hv;have mz:v=.slice none 0 0:=by cases nh;rfl
   rw [mz];exact Rd.list none 0 0 _ [] [] rfl (zg _) zc zc zc zc zc
  | @omap i i' v v' b hm aK =>
   intro _ _;obtain ⟨du,h1,_⟩:=hold _ hm _ rfl;obtain ⟨bK,bb,hb,hp⟩:=hv (by rw [h1];exact (hE _ hm).1) (by rw [h1]);have h2:=cO _ hm;have h3:=tA _ hm;dsimp only at h2 h3;rw [h1] at bK;refine ⟨by rw [h2];exact bK,bb,?_,hp⟩;dsimp only;rw [h3];exact hb
 have eF:∀ v f f',iI M f f'→VR w (aF J w β ⟨t,ob⟩) β ⟨t,ob⟩ v f→VR w (aF J w (fun k=>(nu M k).bind fun e=>e.src.bind β) ⟨t',M.map fun e=>(e.new,e.b)⟩) (fun k=>(nu M k).bind fun e=>e.src.bind β) ⟨t',M.map fun e=>(e.new,e.b)⟩ v f':=fun v f f' hc hv=>by
  by_cases hw:∃ k fs,f=.wrap k fs
  ·obtain ⟨k,fs,rfl⟩:=hw;cases hc with
   | plain hn e => cases hn
   | mQ hl bk =>
    obtain ⟨us,e,h1,h2⟩:=hv;refine ⟨us,e,h1.trans hl,fun j u g hu hg=>?_⟩;rename_i gQ;have hj:j<fs.length:=by rw [hl];exact (yq.1 hg).1
    exact GO u fs[j] g (bk j fs[j] g (by simp [hj]) hg) (h2 j u fs[j] hu (by simp [hj]))
  ·exact VR.wM (GO v f f' hc (hv.om fun k fs e=>hw ⟨k,fs,e⟩))
 have cU:∀ f f',iI M f f'→∀ id ae,(id,ae)∈f'.hands→ae≤((⟨t',M.map fun e=>(e.new,e.b)⟩:ah).ob id).ae:=fun f f' hc id ae hh=>by
  cases hc with
  | plain hn e => rw [← e] at hh; exact (FV.aV hn hh).elim
  | fH => cases hh
  | mQ hl bk=>
   obtain ⟨g,hg,e⟩:=yU.1 hh;obtain ⟨j,hj,rfl⟩:=zU hg;rename_i fs gQ;have gT:j<fs.length:=by rw [hl];exact hj
   have kP:=bk j fs[j] gQ[j] (by simp [gT]) zc;generalize fs[j]=f0 at kP;generalize gQ[j]=f1 at kP e;cases kP with
   | plain hn e1 => rw [← e1, hn] at e; cases e
   | fH => cases e
   | mQ _ _ => simp only [FV.hand, yw, xf] at e; omega
   | _ hm aK =>
    simp only [FV.hand,yw,xf] at e;obtain ⟨rfl,rfl⟩:=e;have h2:=cO _ hm;dsimp only at h2;rw [h2,aK];exact zg _
  | _ hm aK =>
   simp only [FV.hands,zq,xf] at hh;obtain ⟨e1,e2⟩:=hh;replace e1:=e1.symm;replace e2:=e2.symm;subst e1;subst e2;have h2:=cO _ hm;dsimp only at h2;rw [h2,aK];exact zg _
 refine { size:=hF.size,defers:=hF.defers,bB:=hF.bB,bP:=hF.bP,slot:=fun d=>?_,bE:=fun d id ae hh=>?_,obj:=fun id hl=>?_,inj:=fun id aL b hl bn e e'=>?_,kept:=fun b hb=>⟨(hF.kept b hb).1,fun id hl e=>?_,(hF.kept b hb).2.2⟩,gh:=fun v f hg=>?_ }
 ·show VR _ _ _ _ _ (look .undef t' d);rcases ht.get d with h|h
  ·rw [h];exact VR.aX (.undef _) rfl
  ·exact eF _ _ _ h.SP (hF.slot d)
 ·have vU : (id,ae)∈(look FV.undef t' d).hands:=hh;rcases ht.get d with h|h
  ·rw [h] at vU;cases vU
  ·exact cU _ _ h.SP id ae vU
 ·obtain ⟨e,he,rfl⟩:=au id hl;rw [cO e he,tA e he];cases uL:e.src with
  | none =>
   obtain ⟨h1,h2⟩:=(hE e he).2.2 uL;refine .ofRow ?_ (.own h1) (by rw [h1];rfl);refine ⟨by rw [h2];simp,by rw [h2];simp,.slice none 0 0,[],?_,rfl,?_⟩
   ·rw [h2];exact Wj _ _ _ _
   ·rw [h2];exact aS.nil
  | some i=>
   obtain ⟨du,h1,hlen,dE⟩:=hold e he i uL;have h2:=hF.obj i (by rw [h1];exact (hE e he).1);rw [h1] at h2;rcases dE with ⟨gB,rfl⟩|⟨hh,aj⟩|⟨hh,hmg⟩
   ·cases hr:e.b.ao.row with
    | true =>
     have h4:=h2.bM hr;exact .ofRow ⟨h4.wide,h4.one,(h4.mono hI (fun _ _=>rfl)).row⟩ (h2.kA hr) hr
    | false=>
     have nc:e.b.ao.bC=false:=by
      cases bA:e.b.ao <;> rw [bA] at hr gB <;> first|rfl|(simp [Zn.row,Zn.plain] at hr gB;done)
     have wm:e.b.ao≠.bh:=by intro e2;rw [e2] at gB;cases gB
     have h4:=(h2.jZ nc wm).mono hI (fun _ _=>rfl);exact .ofMap ⟨h4.ex⟩ nc wm
   ·have h4:=h2.eB (by rw [hh];rfl) (by rw [hh];rfl);obtain ⟨l1,l2,l3,l4⟩:=aj;obtain ⟨v,us,r1,r2,r3,r4⟩:=h4.row;dsimp only at r1 r3 r4;refine .ld ⟨fun q hq=>l3 q hq,fun f hf id ae AZ=>?_,v,us,by rw [← l1];exact r1,r2,r3.trans l2,fun j u f' hu bS=>?_⟩ hh
    ·obtain ⟨j,hj,rfl⟩:=zU hf;have gT:j<du.flatten.length:=by rw [l2];exact hj
     exact cU _ _ (l4 j du.flatten[j] _ zc zc) id ae AZ
    ·have hj:j<du.flatten.length:=by rw [l2];exact (yq.1 bS).1
     exact eF _ _ _ (l4 j du.flatten[j] f' zc bS) (r4 j u _ hu zc)
   ·have h4:=h2.sb hh;obtain ⟨bb,clock,aw,r1,r2,r3,r4,r5,r6,r7⟩:=h4.ex;dsimp only at r5 r6 r7;obtain ⟨l1,l2⟩:=hmg;have jV:∀ (j:Nat) cz,e.b.es[j]? = some cz→∃ en k f f',aw[j]? = some en∧du[j]? = some [k,f]∧cz=[k,f']∧iI M f f'∧k.simple=true∧en.key=k.val:=fun j cz hr=>by
     obtain ⟨k,f,f',q1,q2,q3⟩:=l2 j cz hr;have hj:j<aw.size:=by rw [r5];exact (yq.1 q1).1
     obtain ⟨kf,vf,q4,q5,q6⟩:=r6 j aw[j] _ (by simp [hj]) q1;injection q4 with q4 _
     subst q4;exact ⟨aw[j],k,f,f',by simp [hj],q1,q2,q3,q5,q6⟩
    refine .uP ⟨fun f hf id ae AZ=>?_,bb,clock,aw,r1,r2,r3,r4,by rw [r5];exact l1,fun j en cz C3 hr=>?_,fun j en cz f2 C3 hr mj=>?_⟩ hh
    ·obtain ⟨cz,hr,hf⟩:=yJ.1 hf;obtain ⟨j,hj,rfl⟩:=zU hr;obtain ⟨en,k,f1,ME,q0,q1,q2,q3,q4,q5⟩:=jV j _ (xz hj);rw [q2] at hf;rcases zA.1 hf with rfl|hf
     ·exact (FV.aV (by cases f <;> first|rfl|(simp [FV.simple,FV.aW] at q4)) AZ).elim
     ·rw [zq.1 hf] at AZ;exact cU _ _ q3 id ae AZ
    ·obtain ⟨en2,k,f1,ME,q0,q1,q2,q3,q4,q5⟩:=jV j _ hr;rw [q0] at C3;injection C3 with C3
     subst C3;exact ⟨k,ME,q2,q4,q5⟩
    ·obtain ⟨en2,k,f1,ME,q0,q1,q2,q3,q4,q5⟩:=jV j _ hr;rw [q2] at mj;simp at mj;subst mj;exact eF _ _ _ q3 (r7 j en _ f1 C3 q1 rfl)
 ·obtain ⟨q,hq,rfl⟩:=au id hl;obtain ⟨q',ku,rfl⟩:=au aL bn;rw [tA q hq] at e;rw [tA q' ku] at e';cases kX:q.src with
  | none => rw [kX] at e; simp at e
  | some i=>
   cases wC:q'.src with
   | none => rw [wC] at e'; simp at e'
   | some i' =>
    rw [kX] at e;rw [wC] at e';obtain ⟨_,h1,_⟩:=hold q hq i kX;obtain ⟨_,h2,_⟩:=hold q' ku i' wC;have:=hF.inj i i' b (by rw [h1];exact (hE q hq).1) (by rw [h2];exact (hE q' ku).1) e e';subst this;rw [W7 hs hq ku kX wC]
 ·obtain ⟨q,hq,rfl⟩:=au id hl;rw [tA q hq] at e;cases kX:q.src with
  | none => rw [kX] at e; simp at e
  | some i =>
   rw [kX] at e;obtain ⟨_,h1,_⟩:=hold q hq i kX;exact (hF.kept b hb).2.1 i (by rw [h1];exact (hE q hq).1) e
 ·obtain ⟨g1,g2⟩:=hF.gh v f hg;refine ⟨g1.mono hI fun id ae hh hl eu=>?_,fun id ae hh=>⟨(g2 id ae hh).1,?_⟩⟩
  ·obtain ⟨q1,q2⟩:=g2 id ae hh;obtain ⟨e,he,rfl⟩:=au id hl;rw [cO e he] at eu;rcases Bb.get e he q1 with ⟨h1,h2⟩|h1
   ·obtain ⟨du,k1,k2,k3⟩:=hold e he _ h1;rw [k1,cO e he];refine ⟨(hE e he).1,by rw [← eu,h2],?_,rfl,rfl,fun v o n hv=>?_⟩
    ·rw [tA e he,h1];rfl
    ·rw [← cO e he];exact jw e he _ h1 v o n (by rw [k1];exact hv)
   ·exact absurd q2 (by have:(⟨t,ob⟩:ah).ob e.new=look {} ob e.new:=rfl;rw [this];omega)
  ·obtain ⟨q1,q2⟩:=g2 id ae hh;rcases zrR NG q1 with ⟨e,he,rfl⟩|bl
   ·rw [cO e he];rcases Bb.get e he q1 with ⟨h1,h2⟩|h1
    ·obtain ⟨du,k1,k2,k3⟩:=hold e he _ h1;rw [k1] at q2;rw [h2];exact q2
    ·have:(⟨t,ob⟩:ah).ob e.new=look {} ob e.new:=rfl;rw [this] at q2;omega
   ·have:(⟨t,ob⟩:ah).ob id=look {} ob id:=rfl;rw [this,bl] at q2;exact yc q2 (zp _)
theorem ar.cv {t t' : List (Nat×FV)} {ob:List (Nat×zE)} (M:List bJ) (ho:Zu ob M M) (ht:m5 t M t') (hk:(M.map bJ.new).Nodup:=by simp) (hs:(M.filterMap bJ.src).Nodup:=by simp) (NG:Ml ob M=true:=by rfl)
  (Bb:kj ob M:=by repeat (first|exact kj.nil|refine kj.low rfl ?_|refine kj.same rfl ?_|refine kj.EB (Wh _) ?_)):ar ⟨t,ob⟩ ⟨t',M.map fun e=>(e.new,e.b)⟩:=ar.conv M hk hs NG Bb ho ht
theorem ar.shut {t:List (Nat×FV)} {ob:List (Nat×zE)} {v sz:Nat} {es:List (List FV)} (h:look {} ob i=⟨v,.own,E,sz,es⟩):ar ⟨t,ob⟩ ⟨t,(i,⟨v,.shut,E,sz,es⟩)::ob⟩:=by
 intro N w0 J a w β hF;have fJ:(⟨t,ob⟩:ah).ob i=⟨v,.own,E,sz,es⟩:=h;refine ⟨β,hF.mK i .shut (fun h=>by cases h) (fun hd=>?_) (fun _=>by rw [fJ];rfl) (fun k=>?_) (fun k=>rfl) (fun _ ho=>?_)⟩;rotate_right
 ·rw [fJ] at ho ⊢;have:=ho.bM rfl;exact .ofRow ⟨this.wide,this.one,this.row⟩ (.shut rfl) rfl
 ·have hb:(⟨t,ob⟩:ah).ob i=⟨v,.own,E,sz,es⟩:=h;rw [hb] at hd;cases hd
 ·show look {} ((i,_)::ob) k=_;rw [zI];show _=if i=k then { (look {} ob i) with ao:=.shut } else _
  rw [h];rfl
theorem ar.list {t:List (Nat×FV)} {ob:List (Nat×zE)} {d v n sz:Nat} {es:List (List FV)} {f:FV} (h:look .undef t d=(.own i v o n)) (hb:look {} ob i=⟨v,.shut,E,sz,es⟩) (e:.list sz ((es.drop o).take n)=f):ar ⟨t,ob⟩ ⟨(d,f)::t,ob⟩:=by
 intro N w0 J a w β hF;subst e;have fJ:(⟨t,ob⟩:ah).ob i=⟨v,.shut,E,sz,es⟩:=hb;have hl:=yI fJ zd;have hg:=hF.cj (x:=.tmp d) (s:=⟨t,ob⟩) h hl.1 hl.2;have gC:Rd w (aF J w β ⟨t,ob⟩) (a.tmps.getD d undef) (.list sz ((es.drop o).take n)):=by
  have hc:∃ c:Nat,c=N:=⟨_,rfl⟩
  obtain ⟨A,cc,e1,e2,e3,e4,e5⟩:=hg.ex;have lv : a.tmps.getD d undef=.slice A n cc:=e1;rw [lv];rw [fJ] at e3 e5;dsimp only at e3 e5;have hO:=hF.obj i hl.1;rw [fJ] at hO;have rf:=hO.bM rfl;have hw:=rf.wide;have bQ:=rf.one;dsimp only at hw bQ;have k6:∀ e∈es.drop o,e.length=sz:=fun e he=>hw e (Zv he);have hlen:((es.drop o).take n).length=n:=by simp;omega
  have cu:((es.drop o).take n).flatten=(es.flatten.drop (o * sz)).take (n * sz):=by rw [Wq _ k6,Xl _ hw]
  have mA : ∀ f∈((es.drop o).take n).flatten,f.one=true:=fun f hf=>by rw [cu] at hf;exact bQ f (Zv (xn hf))
  cases ff:β i with
  | none =>
   obtain ⟨rfl,rfl⟩:=e4 ff;obtain rfl:n=0:=by omega
   exact .list none 0 0 _ _ [] zc (zg _) zc zc zc zc zc
  | some b=>
   obtain ⟨o',rfl,k2,k3⟩:=e5 b ff;obtain ⟨v',us,r1,r2,r3⟩:=rf.row;dsimp only at r1 r3;have aA:=hO.lt ff;have hR:aS w (aF J w β ⟨t,ob⟩) ((us.drop (o * sz)).take (n * sz)) ((es.drop o).take n).flatten:=by rw [cu];exact (r3.drop _).take _
   refine .list _ n cc sz _ _ hlen e2 (fun e he=>k6 e (xn he)) mA (fun h0=>⟨b,o',rfl,⟨aA.2,hF.fresh b aA.1 (.inr ⟨i,hl.1,ff⟩),fun aL bn e=>?_⟩,fun j u hu=>?_⟩) hR.1 hR.2
   ·have:=hF.inj i aL b hl.1 (Zn.bc bn) ff e;subst this;rw [fJ] at bn;cases bn
   ·have:=k2 (.inl za);subst this;rw [xG] at hu;split at hu
    ·rw [YE] at hu;have aI:=r1.cells (g:=b) (by rw [r2];exact ff) _ u hu;rwa [ZD,yh] at aI
    ·cases hu
 refine ⟨β,?_⟩;have aA:∃ q:ah,q=⟨(d,.list sz ((es.drop o).take n))::t,ob⟩:=⟨_,rfl⟩
 refine hF.step (C:=fun _=>False) hF.size hF.defers hF.bB (fun b hb=>⟨hb,rfl⟩) (fun k=>?_) (fun id _=>⟨rfl,rfl,fun _ _ _=>rfl⟩) (fun _ h=>h.elim) (fun _ h=>h.elim) (fun _ h=>h.elim) hF.inj (fun b _ hn=>⟨rfl,hn⟩);show (_∧look .undef ((d,_)::t) k=look .undef t k)∨_;by_cases fR:d=k
 ·subst fR;right;have:(⟨(d,.list sz ((es.drop o).take n))::t,ob⟩:ah).get d=.list sz ((es.drop o).take n):=by show look _ _ _=_;rw [zI,if_pos rfl]
  rw [this];exact ⟨VR.aX (gC.mono (fun b hb=>⟨hb,rfl⟩)) rfl,fun id ae e=>by cases e⟩
 ·left;exact ⟨rfl,by rw [zI,if_neg fR]⟩
theorem ar.ax {t:List (Nat×FV)} {ob:List (Nat×zE)} (d:Nat) {v j sz:Nat} {es:List (List FV)} (h:look .undef t d=(.ptr i v j o)) (hb:look {} ob i=⟨v,.shut,E,sz,es⟩):ar ⟨t,ob⟩ ⟨(d,.ax sz es j o)::t,ob⟩:=by
 intro N w0 J a w β hF;have fJ:(⟨t,ob⟩:ah).ob i=⟨v,.shut,E,sz,es⟩:=hb;have hl:=yI fJ zd;obtain ⟨_,b,ff,hv⟩:=hF.dA (x:=.tmp d) (s:=⟨t,ob⟩) h hl.1 hl.2;have gC:Rd w (aF J w β ⟨t,ob⟩) (a.tmps.getD d undef) (.ax sz es j o):=by
  have nh : a.tmps.getD d undef=.pointer (some ⟨b,j * ((⟨t,ob⟩:ah).ob i).sz+o,none⟩):=hv;rw [nh,fJ];have hO:=hF.obj i hl.1;rw [fJ] at hO;have rf:=hO.bM rfl;have aA:=hO.lt ff;obtain ⟨v',us,r1,r2,r3⟩:=rf.row;dsimp only at r1 r3;have e:j * sz+o=0+(j * sz+o):=by omega
  dsimp only;rw [e];refine .ax b 0 sz es j o us ⟨aA.2,hF.fresh b aA.1 (.inr ⟨i,hl.1,ff⟩),fun aL bn e=>?_⟩ rf.wide rf.one (fun k u hu=>?_) r3.1 r3.2
  ·have:=hF.inj i aL b hl.1 (Zn.bc bn) ff e;subst this;rw [fJ] at bn;cases bn
  ·have aI:=r1.cells (g:=b) (by rw [r2];exact ff) _ u hu;rwa [ZD] at aI
 refine ⟨β,?_⟩;refine hF.step (C:=fun _=>False) hF.size hF.defers hF.bB (fun b hb=>⟨hb,rfl⟩) (fun k=>?_) (fun id _=>⟨rfl,rfl,fun _ _ _=>rfl⟩) (fun _ h=>h.elim) (fun _ h=>h.elim) (fun _ h=>h.elim) hF.inj (fun b _ hn=>⟨rfl,hn⟩);show (_∧look .undef ((d,_)::t) k=look .undef t k)∨_;by_cases fR:d=k
 ·subst fR;right;have:(⟨(d,.ax sz es j o)::t,ob⟩:ah).get d=.ax sz es j o:=by show look _ _ _=_;rw [zI,if_pos rfl]
  rw [this];exact ⟨VR.aX (gC.mono (fun b hb=>⟨hb,rfl⟩)) rfl,fun id ae e=>by cases e⟩
 ·left;exact ⟨rfl,by rw [zI,if_neg fR]⟩
theorem ar.eC {t:List (Nat×FV)} {ob:List (Nat×zE)} (d:Nat) {v j sz:Nat} {es:List (List FV)} (h:look .undef t d=(.ptr i v j o)) (hb:look {} ob i=⟨v,.own,E,sz,es⟩) :
  ar ⟨t,ob⟩ ⟨(d,.ax sz es j o)::t,(i,⟨v,.shut,E,sz,es⟩)::ob⟩:=
 (ar.shut hb).trans (ar.ax (d:=d) h (by rw [zI,if_pos rfl]))
theorem ar.share {t:List (Nat×FV)} {ob:List (Nat×zE)} (d:Nat) {v n sz:Nat} {es:List (List FV)} (h:look .undef t d=.own i v 0 n) (hb:look {} ob i=⟨v,.own,E,sz,es⟩) (hn:n=es.length) :
  ar ⟨t,ob⟩ ⟨(d,.list sz es)::t,(i,⟨v,.shut,E,sz,es⟩)::ob⟩:=
 (ar.shut hb).trans (ar.list (d:=d) h (by rw [zI,if_pos rfl]) (by rw [hn,Yl,yy]))
theorem ar.mP {t:List (Nat×FV)} {ob:List (Nat×zE)} (d:Nat) {v sz:Nat} {es:List (List FV)} (h:look .undef t d=.omap i v) (hb:look {} ob i=⟨v,.aC,E,sz,es⟩) :
  ar ⟨t,ob⟩ ⟨(d,.smap es)::t,(i,⟨v,.maps,E,sz,es⟩)::ob⟩:=by
 have h1:ar ⟨t,ob⟩ ⟨t,(i,⟨v,.maps,E,sz,es⟩)::ob⟩:=by
  intro N w0 J a w β hF;have fJ:(⟨t,ob⟩:ah).ob i=⟨v,.aC,E,sz,es⟩:=hb;refine ⟨β,hF.mK i .maps (fun h=>by cases h) (fun hd=>by rw [fJ] at hd;cases hd) (fun _=>by rw [fJ];rfl) (fun k=>?_) (fun k=>rfl) (fun _ ho=>by rw [fJ] at ho ⊢;exact .ofMap ⟨(ho.jZ rfl (fun e=>by cases e)).ex⟩ rfl (fun e=>by cases e))⟩;show look {} ((i,_)::ob) k=_;rw [zI];show _=if i=k then { (look {} ob i) with ao:=.maps } else _
  rw [hb];rfl
 refine h1.trans ?_;intro N w0 J a w β hF;have fJ:(⟨t,(i,⟨v,.maps,E,sz,es⟩)::ob⟩:ah).ob i=⟨v,.maps,E,sz,es⟩:=by show look {} ((i,_)::ob) i=_;rw [zI,if_pos rfl]
 have hl:=yI fJ zd;have hg:=hF.iR (x:=.tmp d) (s:=⟨t,(i,⟨v,.maps,E,sz,es⟩)::ob⟩) h hl.1 hl.2;have hO:=(hF.obj i hl.1).jZ (by rw [fJ];rfl) (by rw [fJ];exact fun e=>by cases e);rw [fJ] at hO;obtain ⟨_,b,aU,hx⟩:=hg;obtain ⟨b',clock,aw,q1,q2,q3,q4,q5,q6,q7⟩:=hO.ex;rw [aU] at q1;injection q1 with q1
 subst q1;have aA:=(hF.obj i hl.1).lt aU;have gC:Rd w (aF J w β ⟨t,(i,⟨v,.maps,E,sz,es⟩)::ob⟩) (a.tmps.getD d undef) (.smap es):=by
  have je : a.tmps.getD d undef=.map (some b):=hx;rw [je];refine .smap b clock aw es ⟨aA.2,hF.fresh b aA.1 (.inr ⟨i,hl.1,aU⟩),fun aL bn e=>?_⟩ q3 q4 q5 q6 q7;have:=hF.inj i aL b hl.1 (Zn.bc bn) aU e;subst this;rw [fJ] at bn;cases bn
 refine ⟨β,?_⟩;refine hF.step (C:=fun _=>False) hF.size hF.defers hF.bB (fun b hb=>⟨hb,rfl⟩) (fun k=>?_) (fun id _=>⟨rfl,rfl,fun _ _ _=>rfl⟩) (fun _ h=>h.elim) (fun _ h=>h.elim) (fun _ h=>h.elim) hF.inj (fun b _ hn=>⟨rfl,hn⟩);show (_∧look .undef ((d,_)::t) k=look .undef t k)∨_;by_cases fR:d=k
 ·subst fR;right;have:(⟨(d,.smap es)::t,(i,⟨v,.maps,E,sz,es⟩)::ob⟩:ah).get d=.smap es:=by show look _ _ _=_;rw [zI,if_pos rfl]
  rw [this];exact ⟨VR.aX (gC.mono (fun b hb=>⟨hb,rfl⟩)) rfl,fun id ae e=>by cases e⟩
 ·left;exact ⟨rfl,by rw [zI,if_neg fR]⟩
theorem ar.ao {t:List (Nat×FV)} {ob:List (Nat×zE)} {v sz:Nat} {es:List (List FV)} {l l' : Zn} (h:look {} ob i=⟨v,l,E,sz,es⟩) (hl:l≠.dead) (hm:l'.cT=true→l.cT=true) (hs:l'≠.dead→l'.bC=l.bC)
  (ON:∀ (w:World) (base:Nat) (I:Nat→Prop) (β:Nat→Option Nat) (s:ah) (b:Option Nat),l'≠.dead→dL w base I β s b ⟨v,l,E,sz,es⟩→dL w base I β s b ⟨v,l',E,sz,es⟩):ar ⟨t,ob⟩ ⟨t,(i,⟨v,l',E,sz,es⟩)::ob⟩:=by
 intro N w0 J a w β hF;have fJ:(⟨t,ob⟩:ah).ob i=⟨v,l,E,sz,es⟩:=h;refine ⟨β,hF.mK i l' (fun e=>by rw [fJ];exact hm e) (fun hd=>by rw [fJ] at hd;exact absurd hd hl) (fun e=>by rw [fJ];exact hs e) (fun k=>?_) (fun k=>rfl) (fun e ho=>by rw [fJ] at ho ⊢;exact ON _ _ _ _ _ _ e ho)⟩;show look {} ((i,_)::ob) k=_;rw [zI];show _=if i=k then { (look {} ob i) with ao:=l' } else _
 rw [h];rfl
theorem ar.wR {t:List (Nat×FV)} {ob:List (Nat×zE)} {v sz:Nat} {es:List (List FV)} (h:look {} ob i=⟨v,.own,E,sz,es⟩):ar ⟨t,ob⟩ ⟨t,(i,⟨v,.aj,E,sz,es⟩)::ob⟩:=by
 refine ar.ao h zd (fun _=>rfl) (fun _=>rfl) fun w base I β s b _ ho=>?_;have hr:=ho.bM rfl;obtain ⟨v1,us,r1,r2,r3⟩:=hr.row;have bl:∀ f∈es.flatten,f.hand=none:=fun f hf=>by have:=hr.one f hf;cases f <;> first|rfl|(simp [FV.one] at this)
 exact .ld ⟨hr.wide,(fun f hf id ae e=>(FV.aV (bl f hf) e).elim),v1,us,r1,r2,r3.1,fun j u f hu hf=>VR.aX (r3.2 j u f hu hf) (bl f (zG hf))⟩ rfl
theorem ar.ld {t:List (Nat×FV)} {ob:List (Nat×zE)} (i:Nat) {v sz:Nat} {es:List (List FV)} (h:look {} ob i=⟨v,.aj,E,sz,es⟩) (cR:es.flatten.all FV.one=true):ar ⟨t,ob⟩ ⟨t,(i,⟨v,.own,E,sz,es⟩)::ob⟩:=by
 refine ar.ao h zd (fun _=>rfl) (fun _=>rfl) fun w base I β s b _ ho=>?_;have hr:=ho.eB rfl rfl;obtain ⟨v1,us,r1,r2,r3,r4⟩:=hr.row;have bQ:∀ f∈es.flatten,f.one=true:=fun f hf=>zL.1 cR f hf;exact .ofRow ⟨hr.wide,bQ,v1,us,r1,r2,r3,fun j u f hu hf=>by
  have h1:=bQ f (zG hf);have h2:=r4 j u f hu hf;cases f <;> first|exact h2|(simp [FV.one] at h1)⟩ (.own rfl) rfl
theorem FW.split {Q:Exit→ah→Prop} {t:List (Nat×FV)} {ob:List (Nat×zE)} (i:Nat) {v sz:Nat} {es:List (List FV)} (h:look {} ob i=⟨v,.own,E,sz,es⟩)
  (h1:FW c code Q ⟨t,(i,⟨v,.roomy,E,sz,es⟩)::ob⟩) (h2:FW c code Q ⟨t,(i,⟨v,.full,E,sz,es⟩)::ob⟩):FW c code Q ⟨t,ob⟩:=by
 intro w0 J a w β hF;have fJ:(⟨t,ob⟩:ah).ob i=⟨v,.own,E,sz,es⟩:=h;have au:((⟨t,ob⟩:ah).ob i).ao≠.dead:=by rw [fJ];exact (by decide:Zn.own≠.dead)
 have key:∀ l' : Zn,l'.cT=true→l'.row=true→nn w (β i) ⟨v,l',E,sz,es⟩→FR c.N w0 J ⟨t,(i,⟨v,l',E,sz,es⟩)::ob⟩ a w β:=by
  intro l' q1 q2 q3;refine hF.mK i l' (fun _=>by rw [fJ];rfl) (fun hd=>absurd hd au) (fun _=>by rw [fJ];exact Zn.jE q2) (fun k=>?_) (fun k=>rfl) (fun _ ho=>?_)
  ·show look {} ((i,_)::ob) k=_;rw [zI];show _=if i=k then { (look {} ob i) with ao:=l' } else _
   rw [h];rfl
  ·rw [fJ] at ho ⊢;have hr:=ho.bM rfl;exact .ofRow ⟨hr.wide,hr.one,hr.row⟩ q3 q2
 have hO:=hF.obj i au;rw [fJ] at hO;obtain ⟨v1,h9,r1,r2,r3⟩:=(hO.bM rfl).row;dsimp only at r1 r3;rcases r1.2 with ⟨rfl,h0⟩|⟨b,cap,cur,rfl,_,ec,hn,vN,bk,fz⟩
 ·refine h2 w0 J a w β (key .full rfl rfl ?_);show ∀ b cur,β i=some b→_;intro b cur hb;rw [hb] at r2;simp [Value.ownBlock] at r2
 ·have hb:β i=some b:=by rw [← r2];rfl
  rcases yg es.length cap with aA|il
  ·refine h1 w0 J a w β (key .roomy rfl rfl ⟨b,cur,hb,ec,?_⟩);show (es.length+1) * sz≤cur.size;rw [bk];exact ZG _ aA
  ·refine h2 w0 J a w β (key .full rfl rfl ?_);show ∀ b' dG,β i=some b'→w.heap[b']? = some (.cells dG E (0,0))→dG.size=es.length * sz;intro b' dG cb fK;rw [hb] at cb;injection cb with cb
   subst cb;rw [ec] at fK;injection fK with fK
   injection fK with fK _ _
   rw [← fK,bk,show cap=es.length by omega]
def FV.jD (g:Nat→Nat):FV→FV
 | .own id v o n => .own (g id) v o n
 | .ptr id v j o => .ptr (g id) v j o
 | .omap id v => .omap (g id) v
 | f => f
def FV.ren (g:Nat→Nat):FV→FV
 | .wrap k fs => .wrap k (fs.map (FV.jD g))
 | .own id v o n => .own (g id) v o n
 | .ptr id v j o => .ptr (g id) v j o
 | .omap id v => .omap (g id) v
 | f => f
def zE.ren (g:Nat→Nat) (b:zE):zE:=
 match b.ao with
 | .aj => ⟨b.ae, b.ao, b.E, b.sz, b.es.map fun r => r.map (FV.ren g)⟩
 | _ => b
theorem FV.bW {f:FV} (hw:∀ k fs,f≠.wrap k fs) {p:Nat×Nat} (h:f.hand=some p):p∈f.hands:=by
 cases f with
 | wrap k fs => exact absurd rfl (hw k fs)
 | own|ptr|omap => injection h with h; rw [← h]; exact zq.2 rfl
 | _ => cases h
section
variable {g:Nat→Nat} {b:zE}
theorem zE.ky (h:b.ao≠.aj):b.ren g=b:=by
 obtain ⟨v,l,E,sz,es⟩:=b;cases l <;> first|rfl|exact absurd rfl h
theorem zE.bz:(b.ren g).ao=b.ao:=by obtain ⟨v,l,E,sz,es⟩:=b;cases l <;> rfl
theorem zE.gI:(b.ren g).ae=b.ae:=by obtain ⟨v,l,E,sz,es⟩:=b;cases l <;> rfl
theorem zE.wO:(b.ren g).E=b.E:=by obtain ⟨v,l,E,sz,es⟩:=b;cases l <;> rfl
theorem zE.gY:(b.ren g).sz=b.sz:=by obtain ⟨v,l,E,sz,es⟩:=b;cases l <;> rfl
theorem zE.oW:(b.ren g).es.length=b.es.length:=by obtain ⟨v,l,E,sz,es⟩:=b;cases l <;> simp [zE.ren]
theorem zE.sr (h:b.ao=.aj):b.ren g=⟨b.ae,.aj,b.E,b.sz,b.es.map fun r=>r.map (FV.ren g)⟩:=by obtain ⟨v,l,E,sz,es⟩:=b;cases h;rfl
end
theorem fh.ren {aZ:Option Nat} {b:zE} {n:Nat} (g:Nat→Nat):fh w aZ (b.ren g) v o n↔fh w aZ b v o n:=by
 constructor
 ·rintro ⟨h1,A,c,h2,h3,h4,h5,h6⟩;rw [zE.bz] at h1;rw [zE.oW] at h4;refine ⟨h1,A,c,h2,h3,h4,h5,fun q hq=>?_⟩;obtain ⟨o',k1,k2,k3⟩:=h6 q hq;rw [zE.gY] at k2 k3;rw [zE.wO] at k3;exact ⟨o',k1,k2,k3⟩
 ·rintro ⟨h1,A,c,h2,h3,h4,h5,h6⟩;refine ⟨by rw [zE.bz];exact h1,A,c,h2,h3,by rw [zE.oW];exact h4,h5,fun q hq=>?_⟩;obtain ⟨o',k1,k2,k3⟩:=h6 q hq;exact ⟨o',k1,by rw [zE.gY];exact k2,by rw [zE.wO,zE.gY];exact k3⟩
structure jM (g:Nat→Nat) (D:Nat→Prop) (iK iL:Nat→Option Nat) (s1 s2:ah):Prop where
 ob:∀ k,D k→s2.ob (g k)=(s1.ob k).ren g
 b:∀ k,D k→iL (g k)=iK k
section
variable {g:Nat→Nat} {D:Nat→Prop} {iK iL:Nat→Option Nat} {s1 s2:ah} {w:World} {I1 I2:Nat→Prop}
theorem jM.own (S:jM g D iK iL s1 s2) {id:Nat} (hd:D id) {v:Value} {o n:Nat}:fh w (iL (g id)) (s2.ob (g id)) v o n↔fh w (iK id) (s1.ob id) v o n:=by
 rw [S.ob id hd,S.b id hd];exact fh.ren g
theorem jM.ao (S:jM g D iK iL s1 s2) {id:Nat} (hd:D id):(s2.ob (g id)).ao=(s1.ob id).ao:=by rw [S.ob id hd,zE.bz]
theorem jM.ae (S:jM g D iK iL s1 s2) {id:Nat} (hd:D id):(s2.ob (g id)).ae=(s1.ob id).ae:=by rw [S.ob id hd,zE.gI]
theorem jM.sz (S:jM g D iK iL s1 s2) {id:Nat} (hd:D id):(s2.ob (g id)).sz=(s1.ob id).sz:=by rw [S.ob id hd,zE.gY]
theorem jM.EK (S:jM g D iK iL s1 s2) (hI:∀ b,I1 b→I2 b) {f:FV} (hd:∀ id ae,f.hand=some (id,ae)→D id) (h:oB w I1 iK s1 v f) (hw:∀ k fs,f≠.wrap k fs):oB w I2 iL s2 v (f.jD g):=by
 cases f with
 | own id ae o n =>
  have hD:=hd id ae rfl;exact fun h1 h2=>(S.own hD).2 (h (by rw [← S.ao hD];exact h1) (by rw [← S.ae hD];exact h2))
 | ptr id ae j o =>
  have hD:=hd id ae rfl;intro h1 h2;obtain ⟨k1,b,k2,k3⟩:=h (by rw [← S.ao hD];exact h1) (by rw [← S.ae hD];exact h2);exact ⟨by rw [S.ao hD];exact k1,b,by rw [S.b _ hD];exact k2,by rw [S.sz hD];exact k3⟩
 | omap id ae =>
  have hD:=hd id ae rfl;intro h1 h2;obtain ⟨k1,b,k2,k3⟩:=h (by rw [← S.ao hD];exact h1) (by rw [← S.ae hD];exact h2);exact ⟨by rw [S.ao hD];exact k1,b,by rw [S.b _ hD];exact k2,k3⟩
 | wrap k fs => exact absurd rfl (hw k fs)
 | _ => exact Rd.mono (fun b hb => ⟨hI b hb, rfl⟩) h
theorem jM.fwd (S:jM g D iK iL s1 s2) (hI:∀ b,I1 b→I2 b) {f:FV} (hd:∀ id ae,(id,ae)∈f.hands→D id) (h:VR w I1 iK s1 v f):VR w I2 iL s2 v (f.ren g):=by
 by_cases hx:∃ k fs,f=.wrap k fs
 ·obtain ⟨k,fs,rfl⟩:=hx;obtain ⟨us,e,h1,h2⟩:=h;refine ⟨us,e,by simpa using h1,fun j u f hu hf=>?_⟩;rw [ye] at hf;cases hj:fs[j]? with
  | none => rw [hj] at hf; cases hf
  | some q =>
   rw [hj] at hf;injection hf with hf
   subst hf;have hq:=h2 j u q hu hj;have hw:∀ k fs,q≠.wrap k fs:=fun k' gQ e=>by subst e;have ku : Rd w I1 u (.wrap k' gQ):=hq;cases ku
   exact S.EK hI (fun id ae e=>hd id ae (yU.2 ⟨q,zG hj,e⟩)) hq hw
 ·have hw:∀ k fs,f≠.wrap k fs:=fun k fs e=>hx ⟨k,fs,e⟩;have e1:f.ren g=f.jD g:=by cases f <;> first|rfl|exact absurd rfl (hw _ _)
  rw [e1];exact VR.wM (S.EK hI (fun id ae e=>hd id ae (FV.bW hw e)) (h.om hw) hw)
theorem jM.EC (S:jM g D iK iL s1 s2) (hI:∀ b,I2 b→I1 b) {f:FV} (hd:∀ id ae,f.hand=some (id,ae)→D id) (h:oB w I2 iL s2 v (f.jD g)) (hw:∀ k fs,f≠.wrap k fs):oB w I1 iK s1 v f:=by
 cases f with
 | own id ae o n =>
  have hD:=hd id ae rfl;exact fun h1 h2=>(S.own hD).1 (h (by rw [S.ao hD];exact h1) (by rw [S.ae hD];exact h2))
 | ptr id ae j o =>
  have hD:=hd id ae rfl;intro h1 h2;obtain ⟨k1,b,k2,k3⟩:=h (by rw [S.ao hD];exact h1) (by rw [S.ae hD];exact h2);exact ⟨by rw [← S.ao hD];exact k1,b,by rw [← S.b _ hD];exact k2,by rw [← S.sz hD];exact k3⟩
 | omap id ae =>
  have hD:=hd id ae rfl;intro h1 h2;obtain ⟨k1,b,k2,k3⟩:=h (by rw [S.ao hD];exact h1) (by rw [S.ae hD];exact h2);exact ⟨by rw [← S.ao hD];exact k1,b,by rw [← S.b _ hD];exact k2,k3⟩
 | wrap k fs => exact absurd rfl (hw k fs)
 | _ => exact Rd.mono (fun b hb => ⟨hI b hb, rfl⟩) h
theorem jM.bwd (S:jM g D iK iL s1 s2) (hI:∀ b,I2 b→I1 b) {f:FV} (hd:∀ id ae,(id,ae)∈f.hands→D id) (h:VR w I2 iL s2 v (f.ren g)):VR w I1 iK s1 v f:=by
 by_cases hx:∃ k fs,f=.wrap k fs
 ·obtain ⟨k,fs,rfl⟩:=hx;obtain ⟨us,e,h1,h2⟩:=h;refine ⟨us,e,by simpa using h1,fun j u q hu hj=>?_⟩;have hq:=h2 j u (q.jD g) hu (by rw [ye,hj];rfl);have hw:∀ k fs,q≠.wrap k fs:=fun k' gQ e=>by subst e;have ku : Rd w I2 u (.wrap k' gQ):=hq;cases ku
  exact S.EC hI (fun id ae e=>hd id ae (yU.2 ⟨q,zG hj,e⟩)) hq hw
 ·have hw:∀ k fs,f≠.wrap k fs:=fun k fs e=>hx ⟨k,fs,e⟩;have e1:f.ren g=f.jD g:=by cases f <;> first|rfl|exact absurd rfl (hw _ _)
  rw [e1] at h;have eK:∀ k fs,f.jD g≠.wrap k fs:=fun k fs e=>by cases f <;> first|exact absurd rfl (hw _ _)|(simp [FV.jD] at e)
  exact VR.wM (S.EC hI (fun id ae e=>hd id ae (FV.bW hw e)) (h.om eK) hw)
theorem Wp (es:List (List FV)):(es.map fun r=>r.map (FV.ren g)).flatten=es.flatten.map (FV.ren g):=by
 rw [List.map_flatten]
theorem zlu {f:FV} {id ae:Nat} (h:(id,ae)∈(f.ren g).hands):(∃ k,(k,ae)∈f.hands∧id=g k)∨ae=0:=by
 cases f with
 | wrap k fs =>
  obtain ⟨q,hq,e⟩:=yU.1 h;obtain ⟨q0,JO,rfl⟩:=zi.1 hq;cases q0 <;> simp only [FV.jD,FV.hand] at e <;> first|(injection e with e;injection e with e1 e2;subst e1;subst e2;first|exact .inl ⟨_,yU.2 ⟨_,JO,rfl⟩,rfl⟩|exact .inr rfl)|(cases e;done)
 | own|ptr|omap =>
  have h':=zq.1 h;injection h' with e1 e2
  subst e1;subst e2;exact .inl ⟨_,zq.2 rfl,rfl⟩
 | _ => exact (FV.aV rfl h).elim
theorem jM.obF (S:jM g D iK iL s1 s2) (hI:∀ b,I1 b→I2 b) {id:Nat} (hd:D id) (kW:(s1.ob id).ao≠.bh) (hc:(s1.ob id).ao=.aj→∀ f∈(s1.ob id).es.flatten,∀ i ae,(i,ae)∈f.hands→D i) (h:dL w base I1 iK s1 (iK id) (s1.ob id)) :
  dL w base I2 iL s2 (iL (g id)) (s2.ob (g id)):=by
 rw [S.ob id hd,S.b id hd];by_cases hh:(s1.ob id).ao=.aj
 ·have hr:=h.eB (by rw [hh];rfl) (by rw [hh];rfl);rw [zE.sr hh];obtain ⟨v,us,r1,r2,r3,r4⟩:=hr.row;refine .ld ⟨fun e he=>?_,fun f hf i ae e=>?_,v,us,?_,r2,?_,fun j u f hu hf=>?_⟩ rfl
  ·obtain ⟨e0,Fz,rfl⟩:=zi.1 he;simpa using hr.wide e0 Fz
  ·dsimp only at hf;rw [Wp] at hf;obtain ⟨f0,TA,rfl⟩:=zi.1 hf;rcases zlu e with ⟨k,hk,rfl⟩|h0
   ·rw [S.ae (hc hh f0 TA k ae hk)];exact hr.bE f0 TA k ae hk
   ·rw [h0];exact zp _
  ·rw [zj];exact r1
  ·dsimp only;rw [Wp,zj];exact r3
  ·dsimp only at hf;rw [Wp,ye] at hf;cases hj:(s1.ob id).es.flatten[j]? with
   | none => rw [hj] at hf; cases hf
   | some q =>
    rw [hj] at hf;injection hf with hf
    subst hf;exact S.fwd hI (fun i ae e=>hc hh q (zG hj) i ae e) (r4 j u q hu hj)
 ·rw [zE.ky hh];have hm:∀ b,I1 b→I2 b∧w.heap[b]? = w.heap[b]?:=fun b hb=>⟨hI b hb,rfl⟩
  cases hr:(s1.ob id).ao.row with
  | true => exact .ofRow ((h.bM hr).mono hm (fun _ _ => rfl)) ((h.kA hr).mono (fun _ _ => rfl)) hr
  | false =>
   cases hs:(s1.ob id).ao.bC with
   | true => exact absurd (by cases hl:(s1.ob id).ao <;> rw [hl] at hr hs <;> first|rfl|(simp [Zn.row, Zn.bC] at hr hs; done)) hh
   | false => exact .ofMap ((h.jZ hs kW).mono hm (fun _ _ => rfl)) hs kW
theorem jM.Pb (S:jM g D iK iL s1 s2) (hI:∀ b,I2 b→I1 b) {id:Nat} (hd:D id) (kW:(s1.ob id).ao≠.bh) (hc:(s1.ob id).ao=.aj→∀ f∈(s1.ob id).es.flatten,∀ i ae,(i,ae)∈f.hands→D i)
  (hv:(s1.ob id).ao=.aj→∀ f∈(s1.ob id).es.flatten,∀ i ae,(i,ae)∈f.hands→ae≤(s1.ob i).ae) (h:dL w base I2 iL s2 (iL (g id)) (s2.ob (g id))):dL w base I1 iK s1 (iK id) (s1.ob id):=by
 rw [S.ob id hd,S.b id hd] at h;by_cases hh:(s1.ob id).ao=.aj
 ·rw [zE.sr hh] at h;have hr:=h.eB rfl rfl;obtain ⟨v,us,r1,r2,r3,r4⟩:=hr.row;dsimp only at r1 r3 r4;rw [Wp] at r3 r4;refine .ld ⟨fun e he=>?_,hv hh,v,us,?_,r2,?_,fun j u f hu hf=>?_⟩ hh
  ·have:=hr.wide (e.map (FV.ren g)) (zi.2 ⟨e,he,rfl⟩);simpa using this
  ·rw [zj] at r1;exact r1
  ·rw [zj] at r3;exact r3
  ·exact S.bwd hI (fun i ae e=>hc hh f (zG hf) i ae e) (r4 j u (f.ren g) hu (by rw [ye,hf];rfl))
 ·rw [zE.ky hh] at h;have hm:∀ b,I2 b→I1 b∧w.heap[b]? = w.heap[b]?:=fun b hb=>⟨hI b hb,rfl⟩
  cases hr:(s1.ob id).ao.row with
  | true => exact .ofRow ((h.bM hr).mono hm (fun _ _ => rfl)) ((h.kA hr).mono (fun _ _ => rfl)) hr
  | false =>
   cases hs:(s1.ob id).ao.bC with
   | true => exact absurd (by cases hl:(s1.ob id).ao <;> rw [hl] at hr hs <;> first|rfl|(simp [Zn.row, Zn.bC] at hr hs; done)) hh
   | false => exact .ofMap ((h.jZ hs kW).mono hm (fun _ _ => rfl)) hs kW
end
def FV.cl (ks:List Nat) (f:FV):Bool:=f.hands.all fun p=>ks.any fun k=>Nat.beq k p.1
def zE.cl (ks:List Nat) (b:zE):Bool:=
 match b.ao with
 | .aj => b.es.all fun r => r.all fun f => f.cl ks
 | .bh => false
 | _ => true
theorem zE.oD {b:zE} (h:b.cl ks=true):b.ao≠.bh:=by
 obtain ⟨v,l,E,sz,es⟩:=b;rintro rfl;cases h
theorem FV.dM {f:FV} (h:f.cl ks=true) {id ae:Nat} (hm:(id,ae)∈f.hands):id∈ks:=by
 obtain ⟨k,hk,e⟩:=Yk.1 (zL.1 h _ hm);have e' : k=id:=ZF e;rw [← e'];exact hk
theorem zE.dM {b:zE} (h:b.cl ks=true) (hl:b.ao=.aj) {f:FV} (hf:f∈b.es.flatten) {id ae:Nat} (hm:(id,ae)∈f.hands):id∈ks:=by
 obtain ⟨v,l,E,sz,es⟩:=b;cases hl;obtain ⟨r,hr,iC⟩:=yJ.1 hf;exact FV.dM (zL.1 (zL.1 h r hr) f iC) hm
theorem zr6 {f:FV} {id ae:Nat} (hw:∀ k fs,f≠.wrap k fs) (h:f.hand=some (id,ae)):(f.jD g).hand=some (g id,ae):=by
 cases f with
 | wrap k fs => exact absurd rfl (hw k fs)
 | own|ptr|omap => injection h with h; injection h with e1 e2; subst e1; subst e2; rfl
 | _ => cases h
theorem zlt {u:Value} {f:FV} (hv:VR w I β s u (f.ren g)) {id ae:Nat} (hm:(id,ae)∈f.hands):(g id,ae)∈(f.ren g).hands:=by
 cases f with
 | wrap q fs=>
  obtain ⟨x,hx,e⟩:=yU.1 hm;by_cases Dm:∃ k fs,x=.wrap k fs
  ·exfalso;obtain ⟨k',gQ,rfl⟩:=Dm;obtain ⟨oo,e1,e2,e3⟩:=hv;obtain ⟨i',jU,ei'⟩:=zU hx;have aA:i'<oo.length:=by rw [e2,zj];exact jU
   have:=e3 i' oo[i'] (FV.wrap k' gQ) zc (by rw [ye,xz jU,ei'];rfl);have h' : Rd w I oo[i'] (.wrap k' gQ):=this;generalize oo[i']=u0 at h';cases h'
  ·exact yU.2 ⟨x.jD g,zi.2 ⟨x,hx,rfl⟩,zr6 (fun k fs e=>Dm ⟨k,fs,e⟩) e⟩
 | own|ptr|omap =>
  have nO:=zq.1 hm;injection nO with e1 e2
  subst e1;subst e2;exact zq.2 rfl
 | _ => exact (FV.aV rfl hm).elim
def kC (g:Nat→Nat) (ks:List Nat) (aM : List (Nat×zE)):List (Nat×zE):=ks.map fun k=>(g k,(look {} aM k).ren g)
theorem znY {g:Nat→Nat} {aM o:List (Nat×zE)}:∀ {ks:List Nat},(ks.map g).Nodup→∀ k∈ks,look {} (kC g ks aM++o) (g k)=(look {} aM k).ren g
 | [], _, _, h => by cases h
 | q::ks,hn,k,hk=>by
  rw [zZ,yp] at hn;show look {} ((g q,_)::(kC g ks aM++o)) (g k)=_;rw [zI];rcases zA.1 hk with rfl|hk
  ·rw [if_pos rfl]
  ·rw [if_neg (fun e=>hn.1 (zi.2 ⟨k,hk,e.symm⟩))];exact znY hn.2 k hk
theorem znZ {g:Nat→Nat} {aM o:List (Nat×zE)}:∀ {ks:List Nat} {id:Nat},(∀ k∈ks,g k≠id)→look {} (kC g ks aM++o) id=look {} o id
 | [], _, _ => rfl
 | q :: ks, id, h => by
  show look {} ((g q,_)::(kC g ks aM++o)) id=_;rw [zI,if_neg (h q zc)];exact znZ fun k hk=>h k (by simp [hk])
def z8 (g:Nat→Nat) (ks:List Nat) (β aJ : Nat→Option Nat) (id:Nat):Option Nat:=match ks.find? (fun k=>g k == id) with|some k=>aJ k|none=>β id
theorem YU {aJ : Nat→Option Nat} (hn:(ks.map g).Nodup) (hk:k∈ks):z8 g ks β aJ (g k)=aJ k:=by
 unfold z8;cases hf:ks.find? (fun q=>g q == g k) with
 | none => exact absurd (xq.1 hf k hk) zc
 | some q=>
  have h1:=WF hf;have h2:=YP hf;have e:g q=g k:=by simpa using h1
  have:q=k:=by
   have key:∀ (l:List Nat),(l.map g).Nodup→q∈l→k∈l→g q=g k→q=k:=by
    intro l
    induction l with
    | nil => intro _ h; cases h
    | cons x l ih=>
     intro hn hq hk e;rw [zZ,yp] at hn;rcases zA.1 hq with h1|h1
     ·rcases zA.1 hk with h2|h2
      ·rw [h1,h2]
      ·exact absurd (zi.2 ⟨k,h2,by rw [← e,h1]⟩) hn.1
     ·rcases zA.1 hk with h2|h2
      ·exact absurd (zi.2 ⟨q,h1,by rw [e,h2]⟩) hn.1
      ·exact ih hn.2 h1 h2 e
   exact key ks hn h2 hk e
  rw [this]
theorem Vi {aJ : Nat→Option Nat} {id:Nat} (h:∀ k∈ks,g k≠id):z8 g ks β aJ id=β id:=by
 unfold z8;cases hf:ks.find? (fun q=>g q == id) with
 | none => rfl
 | some q => exact absurd (by simpa using WF hf) (h q (YP hf))
def xT (args:List FV) (ob:List (Nat×zE)):ah:=⟨args.zipIdx.map fun p=>(p.2,p.1),ob⟩
theorem XK (args:List FV) (ob:List (Nat×zE)) (d:Nat):(xT args ob).get d=args.getD d .undef:=PY args d
theorem FR.O5 (h:FR N w0 J s a w β) {args:List FV} {ob:List (Nat×zE)} {kl:List Nat}
  (Da:ob.map Prod.fst=kl) (aR:∀ k∈kl,s.ob (g k)=(look {} ob k).ren g) (eS:∀ k∈kl,(look {} ob k).ao.cT=true) (il:∀ k∈kl,zm≤k) (dP:((kl++ex).map g).Nodup)
  (ch:∀ k∈kl,(look {} ob k).cl kl=true) (lA:∀ x∈args,x.cl kl=true) (eu:∀ x∈args,∀ id ae,(id,ae)∈(x.ren g).hands→ae≤(s.ob id).ae)
(mH : vs.length=args.length) (hv:∀ (j:Nat) u x,vs[j]? = some u→args[j]? = some x→VR w (aF J w β s) β s u (x.ren g)) :
  ∃ J' jo,FR args.length w0 J' (xT args ob) ⟨vs.toArray,[]⟩ w jo∧
   ∀ w' res aM aJ v,FR 1 w0 J' ⟨[(0,res)],aM⟩ ⟨#[v],[]⟩ w' aJ→
    (∀ k∈kl,(look {} aM k).ao≠.dead→(look {} aM k).ao.cT=true∧(look {} aM k).sz=(look {} ob k).sz∧(look {} aM k).ao.bC=(look {} ob k).ao.bC)→
    (∀ k∈ex,(s.ob (g k)).ae<(look {} aM k).ae∧((look {} aM k).ao≠.dead→(look {} aM k).ao.cT=true))→
    (∀ k∈kl++ex,(look {} aM k).cl (kl++ex)=true)→res.cl (kl++ex)=true→
    ∃ jL,FR N w0 J ⟨s.t,kC g (kl++ex) aM++s.o⟩ a w' jL∧VR w' (aF J w' jL ⟨s.t,kC g (kl++ex) aM++s.o⟩) jL ⟨s.t,kC g (kl++ex) aM++s.o⟩ v (res.ren g)∧
     ∀ id ae,(id,ae)∈(res.ren g).hands→ae≤((⟨s.t,kC g (kl++ex) aM++s.o⟩:ah).ob id).ae:=by
 have Gc:(kl.map g).Nodup:=by
  rw [zF] at dP;exact (xX.1 dP).1
 obtain ⟨jo,G1⟩:∃ jo:Nat→Option Nat,∀ k,jo k=if k∈kl then β (g k) else none:=⟨fun k=>if k∈kl then β (g k) else none,fun _=>rfl⟩
 have n4:∀ k∈kl,jo k=β (g k):=fun k hk=>by rw [G1,if_pos hk]
 have hβo:∀ k,k∉kl→jo k=none:=fun k hk=>by rw [G1,if_neg hk]
 have Fx:∀ k,k∉kl→look {} ob k=({}:zE):=fun k hk=>Ld fun p hp e=>hk (by rw [← Da,← e];exact zi.2 ⟨p,hp,rfl⟩);have mo:∀ k,((xT args ob).ob k).ao≠.dead→k∈kl:=fun k hl=>by
  by_cases hk:k∈kl
  ·exact hk
  ·exact absurd (by show (look {} ob k).ao=.dead;rw [Fx k hk]) hl
 have au:∀ k∈kl,(s.ob (g k)).ao≠.dead:=fun k hk=>by rw [aR k hk,zE.bz];exact Zn.bc (eS k hk)
 have wg:∀ k∈kl,(s.ob (g k)).ao.cT=true:=fun k hk=>by rw [aR k hk,zE.bz];exact eS k hk
 have S:jM g (fun k=>k∈kl) jo β (xT args ob) s:=⟨fun k hk=>aR k hk,fun k hk=>(n4 k hk).symm⟩
 obtain ⟨ok,e9⟩:∃ ok:Nat→Prop,ok=fun b=>w.heap.size≤b∨aF J w β s b∨∃ k∈kl,β (g k)=some b:=⟨_,rfl⟩
 obtain ⟨I0,EV⟩:∃ I0:Nat→Prop,I0=aF { ok:=ok } w jo (xT args ob):=⟨_,rfl⟩
 have uA:∀ b,aF J w β s b→I0 b:=fun b hb=>by
  subst EV;refine ⟨hb.1,by rw [e9];exact .inr (.inl hb),fun id hl e=>?_⟩;have hk:=mo id (Zn.bc hl);rw [n4 id hk] at e;exact hb.2.2 (g id) (wg id hk) e
 have TD:∀ b,I0 b→aF J w β s b:=fun b hb=>by
  subst EV;obtain ⟨h1,h2,h3⟩:=hb;have eG : ok b:=h2;rw [e9] at eG;rcases eG with eG|eG|⟨k,hk,e⟩
  ·omega
  ·exact eG
  ·exact absurd ((n4 k hk).trans e) (h3 k (eS k hk))
 let J' : JJ:={ ok:=ok,K:=fun b=>b<w.heap.size∧∀ k∈kl,β (g k)≠some b,h0:=fun b=>w.heap[b]?,gh:=fun v f=>VR w I0 jo (xT args ob) v f∧∀ id ae,(id,ae)∈f.hands→zm≤id∧ae≤((xT args ob).ob id).ae }
 have hJ:aF J' w jo (xT args ob)=I0:=by rw [EV];rfl
 have BC:∀ k∈kl,(look {} ob k).ao=.aj→∀ f∈(look {} ob k).es.flatten,∀ i ae,(i,ae)∈f.hands→ae≤((xT args ob).ob i).ae:=fun k hk hl f hf i ae hm=>by
  have hO:=(h.obj (g k) (au k hk)).eB (by rw [aR k hk,zE.bz,hl];rfl) (by rw [aR k hk,zE.bz,hl];rfl);have hi:=zE.dM (ch k hk) hl hf hm;rw [← S.ae hi];have bS : f.ren g∈(s.ob (g k)).es.flatten:=by
   rw [aR k hk,zE.sr hl];show f.ren g∈((look {} ob k).es.map fun r=>r.map (FV.ren g)).flatten;rw [Wp];exact zi.2 ⟨f,hf,rfl⟩
  refine hO.bE _ bS (g i) ae ?_;obtain ⟨v,us,r1,r2,r3,r4⟩:=hO.row;obtain ⟨j,hj,ej⟩:=zU bS;have vW:j<us.length:=by rw [r3];exact hj
  exact zlt (r4 j us[j] _ (by simp [vW]) (by rw [xz hj,ej])) hm
 refine ⟨J',jo,?_,?_⟩
 ·refine { size:=?_,defers:=rfl,bB:=h.bB,bP:=fun b hb=>?_,slot:=fun d=>?_,bE:=fun d id ae hm=>?_,obj:=fun id hl=>?_,inj:=fun id aL b hl bn e e'=>?_,kept:=fun b hb=>⟨hb.1,fun id hl e=>?_,rfl⟩,gh:=fun v f hg=>by rw [hJ];exact hg }
  ·simpa using mH
  ·show ok b∨(b<w.heap.size∧∀ k∈kl,β (g k)≠some b)
   rw [e9];by_cases h1:w.heap.size≤b
   ·exact .inl (.inl h1)
   ·by_cases h2:∃ k∈kl,β (g k)=some b
    ·exact .inl (.inr (.inr h2))
    ·exact .inr ⟨by omega,fun k hk e=>h2 ⟨k,hk,e⟩⟩
  ·rw [XK,hJ];rcases yg d args.length with hd|hd
   ·have vO : d<vs.length:=by rw [mH];exact hd
    have e1:args.getD d .undef=args[d]:=by simp [hd]
    have e2:vs.toArray.getD d undef=vs[d]:=by simp [vO]
    rw [e1];show VR w I0 jo _ (vs.toArray.getD d undef) _;rw [e2];exact S.bwd uA (fun id ae hm=>FV.dM (lA _ (xH hd)) hm) (hv d _ _ (by simp [vO]) (by simp [hd]))
   ·have e1:args.getD d .undef=.undef:=by simp [hd]
    rw [e1];exact VR.aX (.undef _) rfl
  ·rw [XK] at hm;rcases yg d args.length with hd|hd
   ·have e1:args.getD d .undef=args[d]:=by simp [hd]
    rw [e1] at hm;have hi:=FV.dM (lA _ (xH hd)) hm;rw [← S.ae hi];exact eu _ (xH hd) (g id) ae (zlt (hv d (vs[d]'(by rw [mH];exact hd)) _ zc (by simp [hd])) hm)
   ·have e1:args.getD d .undef=.undef:=by simp [hd]
    rw [e1] at hm;cases hm
  ·rw [hJ];have hk:=mo id hl;exact S.Pb uA hk (zE.oD (ch id hk)) (fun hh f hf i ae hm=>zE.dM (ch id hk) hh hf hm) (fun hh=>BC id hk hh) (h.obj (g id) (au id hk))
  ·have hk:=mo id hl;have ee:=mo aL bn;rw [n4 id hk] at e;rw [n4 aL ee] at e';have h1:=h.inj (g id) (g aL) b (au id hk) (au aL ee) e e';have q1:=YU (β:=β) (aJ:=fun k=>some k) Gc hk;have q2:=YU (β:=β) (aJ:=fun k=>some k) Gc ee;rw [h1] at q1;rw [q1] at q2;injection q2
  ·have hk:=mo id hl;rw [n4 id hk] at e;exact hb.2 id hk e
 ·intro w' res aM aJ v F p1 p2 p3 p4;have hS:∀ k,(⟨[(0,res)],aM⟩:ah).ob k=look {} aM k:=fun _=>rfl;have dw:∀ k∈kl++ex,(⟨s.t,kC g (kl++ex) aM++s.o⟩:ah).ob (g k)=(look {} aM k).ren g:=fun k hk=>znY dP k hk;have rT:∀ id,(∀ k∈kl++ex,g k≠id)→(⟨s.t,kC g (kl++ex) aM++s.o⟩:ah).ob id=s.ob id:=fun id hk=>znZ hk;have S2:jM g (fun k=>k∈kl++ex) aJ (z8 g (kl++ex) β aJ) ⟨[(0,res)],aM⟩ ⟨s.t,kC g (kl++ex) aM++s.o⟩:=⟨dw,fun k hk=>YU dP hk⟩
  have N6 : ∀ k∈kl++ex,(look {} aM k).ao≠.dead→(look {} aM k).ao.cT=true:=fun k hk hl=>by
   rcases zC.1 hk with hk|hk
   ·exact (p1 k hk hl).1
   ·exact (p2 k hk).2 hl
  have vV:∀ b,aF J' w' aJ ⟨[(0,res)],aM⟩ b→aF J w' (z8 g (kl++ex) β aJ) ⟨s.t,kC g (kl++ex) aM++s.o⟩ b:=fun b hb=>by
   obtain ⟨h1,h2,h3⟩:=hb;have eG : ok b:=h2;rw [e9] at eG;have rm:J b:=by
    rcases eG with eG|eG|⟨k,hk,e⟩
    ·exact h.fresh b (yc h.bB.size eG) (.inl eG)
    ·exact eG.2.1
    ·exact h.fresh b ((h.obj _ (au k hk)).lt e).1 (.inr ⟨_,au k hk,e⟩)
   refine ⟨h1,rm,fun id hl e=>?_⟩;by_cases hx:∃ k∈kl++ex,g k=id
   ·obtain ⟨k,hk,rfl⟩:=hx;rw [dw k hk,zE.bz] at hl;rw [YU dP hk] at e;exact h3 k hl e
   ·have je : ∀ k∈kl++ex,g k≠id:=fun k hk e=>hx ⟨k,hk,e⟩;rw [rT id je] at hl;rw [Vi je] at e;rcases eG with eG|eG|⟨k,hk,e2⟩
    ·have:=((h.obj id (Zn.bc hl)).lt e).2;omega
    ·exact eG.2.2 id hl e
    ·exact je k (by simp [hk]) (h.inj _ _ b (au k hk) (Zn.bc hl) e2 e)
  have hK:∀ b,b<w.heap.size→(∀ k∈kl,β (g k)≠some b)→w'.heap[b]? = w.heap[b]?∧b<w'.heap.size∧∀ k,(look {} aM k).ao≠.dead→aJ k≠some b:=fun b h1 h2=>by
   obtain ⟨k1,k2,k3⟩:=F.kept b ⟨h1,h2⟩;exact ⟨k3,k1,fun k hl=>k2 k hl⟩
  have hI:∀ b,aF J w β s b→aF J w' (z8 g (kl++ex) β aJ) ⟨s.t,kC g (kl++ex) aM++s.o⟩ b∧w'.heap[b]? = w.heap[b]?:=fun b hb=>by
   obtain ⟨k1,k2,k3⟩:=hK b hb.1 fun k hk=>hb.2.2 (g k) (wg k hk);refine ⟨⟨k2,hb.2.1,fun id hl e=>?_⟩,k1⟩;by_cases hx:∃ k∈kl++ex,g k=id
   ·obtain ⟨k,hk,rfl⟩:=hx;rw [dw k hk,zE.bz] at hl;rw [YU dP hk] at e;exact k3 k (Zn.bc hl) e
   ·have je : ∀ k∈kl++ex,g k≠id:=fun k hk e=>hx ⟨k,hk,e⟩;rw [rT id je] at hl;rw [Vi je] at e;exact hb.2.2 id hl e
  have Ba:∀ v f,VR w I0 jo (xT args ob) v f→(∀ id ae,(id,ae)∈f.hands→zm≤id∧ae≤((xT args ob).ob id).ae)→VR w' (aF J' w' aJ ⟨[(0,res)],aM⟩) aJ ⟨[(0,res)],aM⟩ v f∧∀ id ae,(id,ae)∈f.hands→ae≤(look {} aM id).ae:=fun v f h1 h2=>by
   obtain ⟨k1,k2⟩:=F.gh v f ⟨h1,h2⟩;exact ⟨k1,fun id ae hm=>(k2 id ae hm).2⟩
  have bQ:∀ k∈kl,∃ v f,VR w I0 jo (xT args ob) v f∧f.hands=[(k,(look {} ob k).ae)]:=fun k hk=>by
   have hO:=S.Pb (I1:=I0) (I2:=aF J w β s) uA hk (zE.oD (ch k hk)) (fun hh f hf i ae hm=>zE.dM (ch k hk) hh hf hm) (fun hh=>BC k hk hh) (h.obj (g k) (au k hk));have rf : dL w w0.heap.size I0 jo (xT args ob) (jo k) (look {} ob k):=hO;cases hs:(look {} ob k).ao.bC with
   | false =>
    obtain ⟨b,clock,aw,e1,_⟩:=rf.BK hs;exact ⟨.map (some b),.omap k (look {} ob k).ae,fun _ _=>⟨hs,b,e1,rfl⟩,rfl⟩
   | true=>
    cases hb:jo k with
    | some b => exact ⟨.pointer (some ⟨b, 0 * (look {} ob k).sz+0, none⟩), .ptr k (look {} ob k).ae 0 0, fun _ _ => ⟨hs, b, hb, rfl⟩, rfl⟩
    | none =>
     refine ⟨.slice none 0 0,.own k (look {} ob k).ae 0 0,fun _ _=>⟨hs,none,0,rfl,zg _,by simp,fun _=>⟨rfl,rfl⟩,fun b e=>?_⟩,rfl⟩;rw [hb] at e;cases e
  have GM:∀ k∈kl,(look {} ob k).ae≤(look {} aM k).ae:=fun k hk=>by
   obtain ⟨v,f,h1,h2⟩:=bQ k hk;refine (Ba v f h1 fun id ae hm=>?_).2 k _ (by rw [h2];simp);rw [h2] at hm;have nO:=zq.1 hm;injection nO with e1 e2
   subst e1;subst e2;exact ⟨il _ hk,zg _⟩
  have Tu:∀ k∈kl,(look {} aM k).ao≠.dead→(look {} aM k).ae=(look {} ob k).ae→aJ k=jo k:=fun k hk hl eF=>by
   have hO:=S.Pb (I1:=I0) (I2:=aF J w β s) uA hk (zE.oD (ch k hk)) (fun hh f hf i ae hm=>zE.dM (ch k hk) hh hf hm) (fun hh=>BC k hk hh) (h.obj (g k) (au k hk));have rf : dL w w0.heap.size I0 jo (xT args ob) (jo k) (look {} ob k):=hO;have A7 : ∀ f:FV,f.hands=[(k,(look {} ob k).ae)]→∀ id ae,(id,ae)∈f.hands→zm≤id∧ae≤((xT args ob).ob id).ae:=fun f e id ae hm=>by
    rw [e] at hm;have nO:=zq.1 hm;injection nO with e1 e2
    subst e1;subst e2;exact ⟨il _ hk,zg _⟩
   cases hs:(look {} ob k).ao.bC with
   | false =>
    obtain ⟨b,clock,aw,e1,_⟩:=rf.BK hs;obtain ⟨_,b',k2,k3⟩:=(Ba (.map (some b)) (.omap k (look ({}:zE) ob k).ae) (fun _ _=>⟨hs,b,e1,rfl⟩) (A7 _ rfl)).1 hl eF;injection k3 with k3
    injection k3 with k3
    rw [k2,e1,k3]
   | true=>
    cases hb:jo k with
    | some b =>
     obtain ⟨_,b',k2,k3⟩:=(Ba (.pointer (some ⟨b,0 * (look {} ob k).sz+0,none⟩)) (.ptr k (look ({}:zE) ob k).ae 0 0) (fun _ _=>⟨hs,b,hb,rfl⟩) (A7 _ rfl)).1 hl eF;injection k3 with k3
     injection k3 with k3
     injection k3 with k3 _ _
     rw [k2,k3]
    | none=>
     have:=(Ba (.slice none 0 0) (.own k (look ({}:zE) ob k).ae 0 0) (fun _ _=>⟨hs,none,0,rfl,zg _,by simp,fun _=>⟨rfl,rfl⟩,fun b e=>by
      have e' : jo k=some b:=e;rw [hb] at e';cases e'⟩) (A7 _ rfl)).1 hl eF
     obtain ⟨A,c,e1,e2,e3,e4,e5⟩:=this.ex;cases cb : aJ k with
     | none => rfl
     | some b =>
      obtain ⟨o',e6,_⟩:=e5 b cb;injection e1 with e1 _ _
      rw [e6] at e1;cases e1
  have hdis:∀ k∈ex,k∉kl:=fun k hk ee=>by
   rw [zF] at dP;exact (xX.1 dP).2.2 (g k) (zi.2 ⟨k,ee,rfl⟩) (g k) (zi.2 ⟨k,hk,rfl⟩) rfl
  have fa:∀ id,¬ (∃ k∈kl++ex,g k=id)→(s.ob id).ao≠.dead→∀ b,β id=some b→w'.heap[b]? = w.heap[b]?∧∀ k,(look {} aM k).ao≠.dead→aJ k≠some b:=fun id hx hl b e=>by
   have je : ∀ k∈kl++ex,g k≠id:=fun k hk e=>hx ⟨k,hk,e⟩;obtain ⟨k1,k2,k3⟩:=hK b ((h.obj id hl).lt e).2 fun k hk e2=>je k (by simp [hk]) (h.inj _ _ b (au k hk) hl e2 e);exact ⟨k1,k3⟩
  refine ⟨z8 g (kl++ex) β aJ,?_,?_,fun id ae hm=>?_⟩
  ·refine h.step (C:=fun id=>∃ k∈kl++ex,g k=id) h.size h.defers F.bB hI (fun k=>.inl ⟨rfl,rfl⟩) (fun id hC=>?_) (fun id hC=>?_) (fun id hC hl eF=>?_) (fun id hC hl T=>?_) (fun id aL b hl bn e e'=>?_) (fun b aA hn=>?_)
   ·have je : ∀ k∈kl++ex,g k≠id:=fun k hk e=>hC ⟨k,hk,e⟩;exact ⟨rT id je,Vi je,fun hl b e=>(fa id hC hl b e).1⟩
   ·obtain ⟨k,hk,rfl⟩:=hC;rw [dw k hk,zE.gI];rcases zC.1 hk with hk|hk
    ·rw [aR k hk,zE.gI];exact GM k hk
    ·exact KD (p2 k hk).1
   ·obtain ⟨k,hk,rfl⟩:=hC;rw [dw k hk,zE.bz] at hl;rw [dw k hk,zE.gI] at eF;rcases zC.1 hk with dI|dI
    ·have GN : (look {} aM k).ae=(look {} ob k).ae:=by rw [eF,aR k dI,zE.gI]
     have hb:=Tu k dI hl GN;obtain ⟨q1,q2,q3⟩:=p1 k dI hl;refine ⟨au k dI,by rw [YU dP hk,hb,n4 k dI],?_,?_,fun v o n hv=>?_⟩
     ·rw [dw k hk,zE.gY,q2,aR k dI,zE.gY]
     ·rw [dw k hk,zE.bz,q3,aR k dI,zE.bz]
     ·have h1:=(S.own dI).1 hv;have h2:=(Ba v (.own k (look ({}:zE) ob k).ae o n) (fun _ _=>h1) (fun id ae hm=>by
       have nO:=zq.1 hm;injection nO with e1 e2
       subst e1;subst e2;exact ⟨il _ dI,zg _⟩)).1 hl GN
      exact (S2.own hk).2 h2
    ·have:=(p2 k dI).1;omega
   ·obtain ⟨k,hk,rfl⟩:=hC;rw [dw k hk,zE.bz] at hl;exact S2.obF vV hk (zE.oD (p3 k hk)) (fun hh f hf i ae hm=>zE.dM (p3 k hk) hh hf hm) (F.obj k hl)
   ·by_cases hx:∃ k∈kl++ex,g k=id
    ·obtain ⟨k,hk,rfl⟩:=hx;rw [dw k hk,zE.bz] at hl;rw [YU dP hk] at e;by_cases je : ∃ k∈kl++ex,g k=aL
     ·obtain ⟨k',ee,rfl⟩:=je;rw [dw k' ee,zE.bz] at bn;rw [YU dP ee] at e';rw [F.inj k k' b hl bn e e']
     ·have oR:∀ k∈kl++ex,g k≠aL:=fun k hk e=>je ⟨k,hk,e⟩;rw [rT aL oR] at bn;rw [Vi oR] at e';exact absurd e ((fa aL je bn b e').2 k hl)
    ·have BG:∀ k∈kl++ex,g k≠id:=fun k hk e=>hx ⟨k,hk,e⟩;rw [rT id BG] at hl;rw [Vi BG] at e;by_cases je : ∃ k∈kl++ex,g k=aL
     ·obtain ⟨k',ee,rfl⟩:=je;rw [dw k' ee,zE.bz] at bn;rw [YU dP ee] at e';exact absurd e' ((fa id hx hl b e).2 k' bn)
     ·have oR:∀ k∈kl++ex,g k≠aL:=fun k hk e=>je ⟨k,hk,e⟩;rw [rT aL oR] at bn;rw [Vi oR] at e';exact h.inj id aL b hl bn e e'
   ·obtain ⟨k1,k2,k3⟩:=hK b aA fun k hk=>hn (g k) (au k hk);refine ⟨k1,fun id hl e=>?_⟩;by_cases hx:∃ k∈kl++ex,g k=id
    ·obtain ⟨k,hk,rfl⟩:=hx;rw [dw k hk,zE.bz] at hl;rw [YU dP hk] at e;exact k3 k hl e
    ·have BG:∀ k∈kl++ex,g k≠id:=fun k hk e=>hx ⟨k,hk,e⟩;rw [rT id BG] at hl;rw [Vi BG] at e;exact hn id hl e
  ·exact S2.fwd vV (fun id ae hm=>FV.dM p4 hm) (F.slot 0)
  ·rcases zlu hm with ⟨k,hk,rfl⟩|h0
   ·have:=F.bE 0 k ae hk;rw [S2.ae (FV.dM p4 hk)];exact this
   ·rw [h0];exact zp _
structure VK (ob:List (Nat×zE)) (ex:List Nat) (res:FV) (o:Nat→zE):Prop where
 bL:∀ k∈ob.map Prod.fst,(o k).ao≠.dead→(o k).ao.cT=true∧(o k).sz=(look {} ob k).sz∧(o k).ao.bC=(look {} ob k).ao.bC
 new:∀ k∈ex,0<(o k).ae∧((o k).ao≠.dead→(o k).ao.cT=true)
 cl:∀ k∈ob.map Prod.fst++ex,(o k).cl (ob.map Prod.fst++ex)=true
 res:res.cl (ob.map Prod.fst++ex)=true
structure xN (P:Program) (f:Nat) (args:List FV) (ob:List (Nat×zE)) (ex:List Nat) (Q:FV→(Nat→zE)→Prop):Prop where
 go:tX P f=true
 post:∀ res o,Q res o→VK ob ex res o
 calls:∀ (w0:World) (J:JJ) (w:World) (β:Nat→Option Nat) (vs:List Value),FR args.length w0 J (xT args ob) ⟨vs.toArray,[]⟩ w β→
  Calls P f vs.toArray w fun e w'=>∃ v res aM aJ,e=.returned v∧Q res (look {} aM)∧FR 1 w0 J ⟨[(0,res)],aM⟩ ⟨#[v],[]⟩ w' aJ
inductive Ad (c:Ctx) (fn:Func) (s:ah):FV→Prop where
 | tmp {t:Nat} {res:FV} (hr:fn.results.toList=[.tmp t]) (h:s.get t=res):Ad c fn s res
 | plain {fs:List FV} {f:FV} (h:sF c s fn.results.toList fs) (he:Eg fs=f) (hf:f.hand=none):Ad c fn s f
 | pair {t u:Nat} {f g:FV} (hr:fn.results.toList=[.tmp t, .tmp u]) (h1:s.get t=f) (h2:s.get u=g) (hf:∀ k fs, f ≠ .wrap k fs) (hg:∀ k fs, g ≠ .wrap k fs):Ad c fn s (.wrap .bd [f, g])
 | run {res:FV} (h:∀ (w0:World) (J:JJ) (a:Act) (w:World) (β:Nat → Option Nat), FR c.N w0 J s a w β → ∃ v, (results fn a.tmps).run c.P w=.ok v w ∧ VR w (aF J w β s) β s v res ∧ ∀ id ae, (id, ae) ∈ res.hands → ae ≤ (s.ob id).ae):Ad c fn s res
theorem VR.t {t t2:List (Nat×FV)} {ob:List (Nat×zE)} {f:FV} (h:VR w I β ⟨t,ob⟩ v f):VR w I β ⟨t2,ob⟩ v f:=
 h.mono (fun b hb=>⟨hb,rfl⟩) (fun _ _ _ h1 h2=>⟨h1,h2,rfl,rfl,rfl,fun _ _ _ h=>h⟩)
theorem FR.slots {N2:Nat} {t t2:List (Nat×FV)} {ob:List (Nat×zE)} {a2:Act} (h:FR N w0 J ⟨t,ob⟩ a w β) (hs:a2.tmps.size=N2) (hd:a2.defers=J.ds)
  (jy:∀ d,VR w (aF J w β ⟨t,ob⟩) β ⟨t,ob⟩ (a2.tmps.getD d undef) ((⟨t2,ob⟩:ah).get d)∧∀ id ae,(id,ae)∈((⟨t2,ob⟩:ah).get d).hands→ae≤((⟨t,ob⟩:ah).ob id).ae):FR N2 w0 J ⟨t2,ob⟩ a2 w β where
 size:=hs
 defers:=hd
 bB:=h.bB
 bP:=h.bP
 slot d:=(jy d).1.t
 bE d id ae hm:=(jy d).2 id ae hm
 obj id hl:=(h.obj id hl).mono (fun b hb=>⟨hb,rfl⟩) (fun _ _=>rfl) (fun _ _ hv _=>hv.t) (fun _=>zg _)
 inj:=h.inj
 kept:=h.kept
 gh v f hg:=⟨(h.gh v f hg).1.t,(h.gh v f hg).2⟩
theorem VR.plain {f:FV} (h:Rd w I v f) (hf:f.hand=none) {s2:ah}:VR w I β s2 v f∧∀ id ae,(id,ae)∈f.hands→ae≤(s.ob id).ae:=
 ⟨VR.aX h hf,fun _ _ hm=>(FV.aV hf hm).elim⟩
theorem xN.bH {fn:Func} (hf:Mo c f fn code) {args:List FV} {ob:List (Nat×zE)} {Q:FV→(Nat→zE)→Prop} (hl:args.length≤c.N) (hp:∀ res o,Q res o→VK ob ex res o)
  (h:FW c code (fun e s=>(e=.ret∨e=.normal)∧∃ res,Ad c fn s res∧Q res (look {} s.o)) (xT args ob)):xN c.P f args ob ex Q where
 go:=hf.g
 post:=hp
 calls w0 J w β vs hF:=by
  have mH:vs.length=args.length:=by simpa using hF.size
  refine calls_of_wp hf.at_ hf.b ?_;rw [hf.n];have hE:FR c.N w0 J (xT args ob) { tmps:=vs.toArray++Array.replicate (c.N - vs.toArray.size) undef,defers:=[] } w β:=by
   refine hF.slots (t2:=(xT args ob).t) zM hF.defers fun d=>?_;rcases yg d args.length with hd|hd
   ·have e2:(vs.toArray++Array.replicate (c.N - vs.toArray.size) undef).getD d undef=vs.toArray.getD d undef:=by
     rw [Xo,RV zM,← Xo]
    refine ⟨?_,fun id ae hm=>hF.bE d id ae hm⟩;dsimp only;rw [e2];exact hF.slot d
   ·have e1:(⟨(xT args ob).t,ob⟩:ah).get d=.undef:=by
     have:=XK args ob d;have e3:args.getD d .undef=.undef:=by simp [hd]
     rw [e3] at this;exact this
    rw [e1];exact VR.plain (.undef _) rfl
  refine wp_mono (Uz c.mixed (h w0 J _ w β hE)) ?_;rintro e a' w' ⟨⟨t',aM⟩,aJ,⟨he,res,hr,hq⟩,eW⟩;have Bu:∃ v,(results fn a'.tmps).run c.P w'=.ok v w'∧VR w' (aF J w' aJ ⟨t',aM⟩) aJ ⟨t',aM⟩ v res∧∀ id ae,(id,ae)∈res.hands→ae≤((⟨t',aM⟩:ah).ob id).ae:=by
   cases hr with
   | @tmp t res hr h =>
    have rO:fn.results=#[.tmp t]:=by apply xU;simpa using hr
    subst h;exact ⟨_,results_tmp rO _ _ _,eW.slot t,eW.bE t⟩
   | run h => exact h _ _ _ _ _ eW
   | plain h he cu =>
    obtain ⟨v,h1,h2⟩:=Vx eW fn h;rw [he] at h2;exact ⟨v,h1,VR.plain h2 cu⟩
   | @pair t u f g hr h1 h2 hf hg=>
    subst h1;subst h2;have rO:fn.results=#[.tmp t,.tmp u]:=by apply xU;simpa using hr
    refine ⟨.tuple #[a'.tmps.getD t undef,a'.tmps.getD u undef],?_,⟨[a'.tmps.getD t undef,a'.tmps.getD u undef],rfl,rfl,fun j x y hx hy=>?_⟩,fun id ae hm=>?_⟩
    ·unfold results;rw [rO];simp
    ·match j with
     | 0 => injection hx with hx; injection hy with hy; subst hx; subst hy; exact (eW.slot t).om hf
     | 1 => injection hx with hx; injection hy with hy; subst hx; subst hy; exact (eW.slot u).om hg
     | j+2 => simp at hx
    ·obtain ⟨q,hq,e⟩:=yU.1 hm;simp only [zA,Ky,or_false] at hq;rcases hq with rfl|rfl
     ·exact eW.bE t id ae (FV.bW hf e)
     ·exact eW.bE u id ae (FV.bW hg e)
  obtain ⟨v,h1,h2,h3⟩:=Bu;have key:a'.defers=[]∧∃ v,(results fn a'.tmps).run c.P w'=.ok v w'∧∃ v' res aM aJ,Ending.returned v=.returned v'∧Q res (look {} aM)∧FR 1 w0 J ⟨[(0,res)],aM⟩ ⟨#[v'],[]⟩ w' aJ:=by
   refine ⟨eW.defers.trans hF.defers.symm,v,h1,v,res,aM,aJ,rfl,hq,eW.slots rfl hF.defers fun d=>?_⟩;cases d with
   | zero => exact ⟨h2, h3⟩
   | succ d => exact VR.plain (.undef _) rfl
  rcases he with rfl|rfl
  ·exact key
  ·exact key
def cM (π:List (Nat×Nat)) (k:Nat):Nat:=look 0 π k
inductive zQ (o:List (Nat×zE)) (g:Nat→Nat):List (Nat×zE)→Prop where
 | nil:zQ o g []
 | cons {k:Nat} {b:zE} {l:List (Nat × zE)} (h:look {} o (g k)=b.ren g) (hm:b.ao.cT=true) (hg:Nat.ble zm k=true) (hs:zQ o g l):zQ o g ((k, b) :: l)
theorem zQ.get {o:List (Nat×zE)} {l:List (Nat×zE)} (h:zQ o g l):∀ k∈l.map Prod.fst,look {} o (g k)=(look {} l k).ren g∧(look {} l k).ao.cT=true∧zm≤k:=by
 induction h with
 | nil => intro k hk; cases hk
 | @cons k b l h hm hg hs ih=>
  intro q hq;rw [zI];by_cases bX:k=q
  ·subst bX;rw [if_pos rfl];exact ⟨h,hm,zO hg⟩
  ·rw [if_neg bX];rcases zA.1 hq with e|e
   ·exact absurd e.symm bX
   ·exact ih q e
section
variable {c:Ctx} {w0 w:World} {J:JJ} {a:Act} {β:Nat→Option Nat} {t:List (Nat×FV)} {ob:List (Nat×zE)}
theorem Lm (h:FR c.N w0 J ⟨t,ob⟩ a w β) {args:List FV} {cp:List (Nat×zE)} {Q:FV→(Nat→zE)→Prop} (hs:xN c.P f args cp ex Q) (g:Nat→Nat) (aR:zQ ob g cp)
  (dP:((cp.map Prod.fst++ex).map g).Nodup) (ch:cp.all (fun p=>(look {} cp p.1).cl (cp.map Prod.fst))=true) (lA:args.all (FV.cl (cp.map Prod.fst))=true) (hex:∀ k∈ex,((⟨t,ob⟩:ah).ob (g k)).ae=0)
  (mH:vs.length=args.length) (hv:∀ (j:Nat) u x,vs[j]? = some u→args[j]? = some x→VR w (aF J w β ⟨t,ob⟩) β ⟨t,ob⟩ u (x.ren g)) (eu:∀ x∈args,∀ id ae,(id,ae)∈(x.ren g).hands→ae≤((⟨t,ob⟩:ah).ob id).ae) :
  Calls c.P f vs.toArray w fun e w'=>∃ v res aM aJ,e=.returned v∧Q res (look {} aM)∧FR c.N w0 J ⟨t,kC g (cp.map Prod.fst++ex) aM++ob⟩ a w' aJ∧
   VR w' (aF J w' aJ ⟨t,kC g (cp.map Prod.fst++ex) aM++ob⟩) aJ ⟨t,kC g (cp.map Prod.fst++ex) aM++ob⟩ v (res.ren g)∧∀ id ae,(id,ae)∈(res.ren g).hands→ae≤((⟨t,kC g (cp.map Prod.fst++ex) aM++ob⟩:ah).ob id).ae:=by
 have hG:=aR.get;obtain ⟨J',jo,hE,hB⟩:=h.O5 (args:=args) (ob:=cp) (g:=g) (kl:=cp.map Prod.fst) (ex:=ex) rfl (fun k hk=>(hG k hk).1) (fun k hk=>(hG k hk).2.1) (fun k hk=>(hG k hk).2.2) dP
  (fun k hk=>by obtain ⟨p,hp,rfl⟩:=zi.1 hk;exact zL.1 ch p hp) (fun x hx=>zL.1 lA x hx) eu mH hv
 refine (hs.calls w0 J' w jo vs hE).mono ?_;rintro e w' ⟨v,res,aM,aJ,rfl,hq,hF⟩;have hp:=hs.post res _ hq;obtain ⟨jL,k1,k2,k3⟩:=hB w' res aM aJ v hF hp.bL (fun k hk=>⟨by rw [hex k hk];exact (hp.new k hk).1,(hp.new k hk).2⟩) hp.cl hp.res;exact ⟨v,res,aM,jL,rfl,hq,k1,k2,k3⟩
theorem zq5 (h:FR c.N w0 J ⟨t,ob⟩ a w β) {args:List FV} (hx:xs.map (⟨t,ob⟩:ah).ev=args.map (FV.ren g)):(xs.map a.eval).length=args.length∧
  (∀ (j:Nat) u x,(xs.map a.eval)[j]? = some u→args[j]? = some x→VR w (aF J w β ⟨t,ob⟩) β ⟨t,ob⟩ u (x.ren g))∧∀ x∈args,∀ id ae,(id,ae)∈(x.ren g).hands→ae≤((⟨t,ob⟩:ah).ob id).ae:=by
 have hl:xs.length=args.length:=by have:=congrArg List.length hx;simpa using this
 have hj:∀ (j:Nat) y x,xs[j]? = some y→args[j]? = some x→(⟨t,ob⟩:ah).ev y=x.ren g:=fun j y x hy GY=>by
  have:=congrArg (fun l=>l[j]?) hx;simp only [ye,hy,GY,Za,yw] at this;exact this
 refine ⟨by simpa using hl,fun j u x hu GY=>?_,fun x GY id ae hm=>?_⟩
 ·rw [ye] at hu;cases hy:xs[j]? with
  | none => rw [hy] at hu; cases hu
  | some y =>
   rw [hy] at hu;injection hu with hu
   subst hu;rw [← hj j y x hy GY];exact h.ev y
 ·obtain ⟨j,cN,rfl⟩:=zU GY;have hjx:j<xs.length:=by rw [hl];exact cN
  rw [← hj j xs[j] args[j] (by simp [hjx]) zc] at hm;exact h.cg _ hm
end
theorem FR.lg (h:FR N w0 J s a w β) {dst:Option Nat} {f:FV} (hd:∀ d,dst=some d→d<N) (hv:VR w (aF J w β s) β s v f) (aK:∀ id ae,(id,ae)∈f.hands→ae≤(s.ob id).ae) :
  FR N w0 J (s.lg dst f) (a.put dst v) w β:=by
 cases dst with
 | none => exact h
 | some d => exact h.put (hd d rfl) hv aK
section
variable {c:Ctx} {ops:Array Oper} {rest:List Oper} {t:List (Nat×FV)} {ob:List (Nat×zE)} {dst:Option Nat} {ty:TypeId} {pos:String} {af:Array Edge} {gd:Option (Nat×Bool)} {QS:ah→Prop}
def tB:List Nat→Bool
 | [] => true
 | x :: l => (l.all fun y => !Nat.beq x y) && tB l
theorem Hp:∀ {l:List Nat},tB l=true→l.Nodup
 | [], _ => Ul
 | x :: l, h => by
  simp only [tB,zx] at h;refine yp.2 ⟨fun hx=>?_,Hp h.2⟩;have:=zL.1 h.1 x hx;simp at this
def ZQ (c:Ctx) (ops:Array Oper) (rest:List Oper) (dst:Option Nat) (t:List (Nat×FV)) (ob:List (Nat×zE)) (π:List (Nat×Nat)) (ks:List Nat) (QS:ah→Prop) (res:FV) (aM : List (Nat×zE)):Prop:=
 ∃ r l,res.ren (cM π)=r∧kC (cM π) ks aM=l∧zt c ops rest (ah.lg ⟨t,l++ob⟩ dst r) QS
theorem ZQ.one {d:Nat} {π:List (Nat×Nat)} {ks:List Nat} {res:FV} {aM : List (Nat×zE)} (l:List (Nat×zE)) (r:FV) (h1:res.ren (cM π)=r) (h2:kC (cM π) ks aM=l) (h:zt c ops rest ⟨(d,r)::t,l++ob⟩ QS):ZQ c ops rest (some d) t ob π ks QS res aM:=⟨r,l,h1,h2,h⟩
def Ct (N:Nat):Option Nat→Bool
 | some d => Nat.blt d N
 | none => true
theorem Q6 {dst:Option Nat} (h:Ct N dst=true):∀ d,dst=some d→d<N:=by rintro d rfl;exact zO h
theorem Yq {args:List FV} {cp:List (Nat×zE)} {Q:FV→(Nat→zE)→Prop} (hs:xN c.P f args cp ex Q) (π:List (Nat×Nat)) (hx:xs.map (⟨t,ob⟩:ah).ev=args.map (FV.ren (cM π)))
  (aR:zQ ob (cM π) cp) (dP:tB ((cp.map Prod.fst++ex).map (cM π))=true) (ch:cp.all (fun p=>(look {} cp p.1).cl (cp.map Prod.fst))=true) (lA:args.all (FV.cl (cp.map Prod.fst))=true) (hex:ex.all (fun k=>Nat.beq ((⟨t,ob⟩:ah).ob (cM π k)).ae 0)=true)
  (hd:Ct c.N dst=true) (hw:ZB ops ⟨t,ob⟩ (⟨dst,.call { callee:=.value (.func f),args:=xs.toArray,argTypes:=ts },ty,pos,af,gd⟩:Oper) true)
  (k:∀ res aM,Q res (look {} aM)→ZQ c ops rest dst t ob π (cp.map Prod.fst++ex) QS res aM) :
  zt c ops ((⟨dst,.call { callee:=.value (.func f),args:=xs.toArray,argTypes:=ts },ty,pos,af,gd⟩:Oper)::rest) ⟨t,ob⟩ QS:=fun QQ w0 J a w β hQ hF=>by
 unfold wpList;rw [if_pos (hw.model hF)];refine .inl ?_;obtain ⟨h1,h2,h3⟩:=zq5 hF hx;have hc:=Lm hF hs (cM π) aR (Hp dP) ch lA (fun k hk=>ZF (zL.1 hex k hk)) h1 h2 h3;have bh:(xs.map a.eval).toArray=xs.toArray.map a.eval:=by apply xU;simp
 rw [bh] at hc;unfold Oper.wp;have bg:(execOp a.eval ⟨dst,.call { callee:=.value (.func f),args:=xs.toArray,argTypes:=ts },ty,pos,af,gd⟩).run c.P w=.ok (.enter f (xs.toArray.map a.eval)) w:=by
  have:=xh (P:=c.P) hs.go (xs.toArray.map a.eval) w;simp [execOp,resolve,Act.eval,Deferred.ofValue,invoke] at this ⊢;exact this
 rw [bg,Oper.upon_enter];refine hc.mono ?_;rintro e w' ⟨v,res,aM,aJ,rfl,hq,k1,k2,k3⟩;obtain ⟨r,l,e1,e2,hk⟩:=k res aM hq;subst e1;subst e2;exact hk QQ w0 J _ w' aJ hQ (k1.lg (Q6 hd) k2 k3)
theorem zl7 {x:Operand} {args aH:List FV} {cp:List (Nat×zE)} {Q:FV→(Nat→zE)→Prop} (wJ:(⟨t,ob⟩:ah).ev x=.wrap (.fn f) aH) (hs:xN c.P f args cp ex Q) (π:List (Nat×Nat)) (hx:xs.map (⟨t,ob⟩:ah).ev++aH=args.map (FV.ren (cM π)))
  (aR:zQ ob (cM π) cp) (dP:tB ((cp.map Prod.fst++ex).map (cM π))=true) (ch:cp.all (fun p=>(look {} cp p.1).cl (cp.map Prod.fst))=true) (lA:args.all (FV.cl (cp.map Prod.fst))=true) (hex:ex.all (fun k=>Nat.beq ((⟨t,ob⟩:ah).ob (cM π k)).ae 0)=true)
  (hd:Ct c.N dst=true) (hw:ZB ops ⟨t,ob⟩ (⟨dst,.call { callee:=.value x,args:=xs.toArray,argTypes:=ts },ty,pos,af,gd⟩:Oper) true)
  (k:∀ res aM,Q res (look {} aM)→ZQ c ops rest dst t ob π (cp.map Prod.fst++ex) QS res aM) :
  zt c ops ((⟨dst,.call { callee:=.value x,args:=xs.toArray,argTypes:=ts },ty,pos,af,gd⟩:Oper)::rest) ⟨t,ob⟩ QS:=fun QQ w0 J a w β hQ hF=>by
 unfold wpList;rw [if_pos (hw.model hF)];refine .inl ?_;have hv:=hF.ev x;rw [wJ] at hv;obtain ⟨us,ev,im,iq⟩:=hv;have uj : a.eval x=.func (.func f) #[] us.toArray:=ev;have hl:(xs.map a.eval++us).length=args.length:=by
  have:=congrArg List.length hx;simp only [zN,zj] at this ⊢;omega
 have GU:(xs.map (⟨t,ob⟩:ah).ev).length=xs.length:=by simp
 have key:∀ (j:Nat) u y,(xs.map a.eval++us)[j]? = some u→args[j]? = some y→VR w (aF J w β ⟨t,ob⟩) β ⟨t,ob⟩ u (y.ren (cM π))∧∀ id ae,(id,ae)∈(y.ren (cM π)).hands→ae≤((⟨t,ob⟩:ah).ob id).ae:=fun j u y hu hy=>by
  have hj:=congrArg (fun l=>l[j]?) hx;simp only [ye,hy,Za] at hj;rcases yg j xs.length with aA|il
  ·rw [xO (by simpa using aA)] at hu;rw [xO (by simpa using aA)] at hj;simp only [ye,xz aA,Za,yw] at hu hj;rw [← hj,← hu];exact ⟨hF.ev _,fun id ae hm=>hF.cg _ hm⟩
  ·rw [Zd (by simpa using il)] at hu;rw [Zd (by simpa using il)] at hj;simp only [zj] at hu hj;have h1:=iq _ u _ hu hj;refine ⟨VR.wM h1,fun id ae hm=>?_⟩;have eK:∀ k fs,y.ren (cM π)≠.wrap k fs:=fun k fs e=>by rw [e] at h1;have h2:Rd w (aF J w β ⟨t,ob⟩) u (.wrap k fs):=h1;cases h2
   have cO:y.ren (cM π)∈aH:=zG hj;refine hF.cg x (id:=id) (ae:=ae) ?_;rw [wJ];refine yU.2 ⟨_,cO,?_⟩;generalize y.ren (cM π)=q at hm eK;cases q with
   | own|ptr|omap => rw [zq.1 hm]; rfl
   | wrap k fs => exact absurd rfl (eK k fs)
   | _ => exact (FV.aV rfl hm).elim
 have hc:=Lm hF hs (cM π) aR (Hp dP) ch lA (fun k hk=>ZF (zL.1 hex k hk)) hl (fun j u y hu hy=>(key j u y hu hy).1) (fun y hy id ae hm=>by
  obtain ⟨j,hj,rfl⟩:=zU hy;have gT:j<(xs.map a.eval++us).length:=by rw [hl];exact hj
  exact (key j (xs.map a.eval++us)[j] args[j] zc zc).2 id ae hm)
 have bh:(xs.map a.eval++us).toArray=xs.toArray.map a.eval++us.toArray:=by apply xU;simp
 rw [bh] at hc;unfold Oper.wp;have bg:(execOp a.eval ⟨dst,.call { callee:=.value x,args:=xs.toArray,argTypes:=ts },ty,pos,af,gd⟩).run c.P w=.ok (.enter f (xs.toArray.map a.eval++us.toArray)) w:=by
  have:=xh (P:=c.P) hs.go (xs.toArray.map a.eval++us.toArray) w;simp [execOp,resolve,uj,Deferred.ofValue,invoke] at this ⊢;exact this
 rw [bg,Oper.upon_enter];refine hc.mono ?_;rintro e w' ⟨v,res,aM,aJ,rfl,hq,k1,k2,k3⟩;obtain ⟨r,l,e1,e2,hk⟩:=k res aM hq;subst e1;subst e2;exact hk QQ w0 J _ w' aJ hQ (k1.lg (Q6 hd) k2 k3)
end
end Go.Proofs.YtphidhljdcledaaGreat
