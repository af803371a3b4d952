/-
  Some texts as one: FmN, FmP, FmQ, FmR.
-/
import Derived.Test.YtlnehfplfoikaaaZFmM
namespace Go.Proofs.Ytlnehfplfoikaaa
set_option linter.unusedVariables false
set_option maxHeartbeats 16000000
open Go.RowKit
structure Ent where
 new:Nat
 src:Option Nat
 vo:Nat
 b:zn
inductive WG (M:List Ent):FV→FV→Prop where
 | plain {f f' : FV} (hn:f.hand=none) (e:f=f'):WG M f f'
 | own {i i' v v' o o' n n' : Nat} {b:zn} (hm:(⟨i', some i, v, b⟩:Ent) ∈ M) (hv:b.ver=v') (eo:o=o') (e:n=n'):WG M (.own i v o n) (.own i' v' o' n')
 | ptr {i i' v v' j o:Nat} {b:zn} (hm:(⟨i', some i, v, b⟩:Ent) ∈ M) (hv:b.ver=v'):WG M (.ptr i v j o) (.ptr i' v' j o)
 | nil {i' vo v' : Nat} {b:zn} (hm:(⟨i', none, vo, b⟩:Ent) ∈ M) (hv:b.ver=v'):WG M .nil (.own i' v' 0 0)
 | nilList {sz:Nat}:WG M .nil (.list sz [])
 | omap {i i' v v' : Nat} {b:zn} (hm:(⟨i', some i, v, b⟩:Ent) ∈ M) (hv:b.ver=v'):WG M (.omap i v) (.omap i' v')
 | wrapL {k:Wk} {fs fs' : List FV} (hl:fs.length=fs'.length) (h:∀ (j:Nat) f f', fs[j]? = some f → fs'[j]? = some f' → WG M f f'):WG M (.wrap k fs) (.wrap k fs')
inductive yV (M:List Ent):List FV→List FV→Prop where
 | nil:yV M [] []
 | cons {f f' : FV} {fs fs' : List FV} (h:WG M f f') (hs:yV M fs fs'):yV M (f :: fs) (f' :: fs')
theorem yV.get {M:List Ent} {fs fs' : List FV} (h:yV M fs fs'):fs.length=fs'.length∧∀ (j:Nat) f f',fs[j]? = some f→fs'[j]? = some f'→WG M f f':=by
 induction h with
 | nil => exact ⟨rfl, by simp⟩
 | cons h hs ih =>
  refine ⟨by simp [ih.1],fun j f f' hf hf'=>?_⟩;cases j with
  | zero => simp at hf hf'; subst hf; subst hf'; exact h
  | succ j => exact ih.2 j f f' (by simpa using hf) (by simpa using hf')
theorem WG.wrap {M:List Ent} {k:Wk} {fs fs' : List FV} (h:yV M fs fs'):WG M (.wrap k fs) (.wrap k fs'):=.wrapL h.get.1 h.get.2
inductive zcw (M:List Ent):List (List FV)→List (List FV)→Prop where
 | nil:zcw M [] []
 | cons {f f' : FV} {es es' : List (List FV)} (h:WG M f f') (hs:zcw M es es'):zcw M ([f] :: es) ([f'] :: es')
theorem zcw.len {M:List Ent} {es es' : List (List FV)} (h:zcw M es es'):es.length=es'.length∧es.flatten.length=es'.flatten.length∧(∀ e∈es',e.length=1)∧∀ (j:Nat) f f',es.flatten[j]? = some f→es'.flatten[j]? = some f'→WG M f f':=by
 induction h with
 | nil => exact ⟨rfl, rfl, by simp, by simp⟩
 | cons h hs ih=>
  obtain ⟨h1,h2,h3,h4⟩:=ih;refine ⟨by simp [h1],by simpa using h2,fun e he=>?_,fun j f f' hf hf'=>?_⟩
  ·rcases List.mem_cons.1 he with rfl|he
   ·rfl
   ·exact h3 e he
  ·cases j with
   | zero => simp at hf hf'; subst hf; subst hf'; exact h
   | succ j => simp at hf hf'; exact h4 j f f' (by simpa using hf) (by simpa using hf')
def zgQ (M:List Ent) (sz:Nat) (es es' : List (List FV)):Prop:=es.length=es'.length∧es.flatten.length=es'.flatten.length∧(∀ e∈es',e.length=sz)∧∀ (j:Nat) f f',es.flatten[j]? = some f→es'.flatten[j]? = some f'→WG M f f'
theorem zgQ.nil {M:List Ent} {sz:Nat}:zgQ M sz [] []:=⟨rfl,rfl,by simp,by simp⟩
theorem zgQ.cons {M:List Ent} {sz:Nat} {r r' : List FV} {es es' : List (List FV)} (h:yV M r r') (hl:r'.length=sz) (hs:zgQ M sz es es'):zgQ M sz (r::es) (r'::es'):=by
 obtain ⟨h1,h2,h3,h4⟩:=hs;obtain ⟨g1,g2⟩:=h.get;refine ⟨by simp [h1],by simp [h2,g1],fun e he=>?_,fun j f f' hf hf'=>?_⟩
 ·rcases List.mem_cons.1 he with rfl|he
  ·exact hl
  ·exact h3 e he
 ·rw [List.flatten_cons] at hf hf';rcases Nat.lt_or_ge j r.length with hj|hj
  ·rw [List.getElem?_append_left hj] at hf;rw [List.getElem?_append_left (by rw [← g1];exact hj)] at hf';exact g2 j f f' hf hf'
  ·rw [List.getElem?_append_right hj] at hf;rw [List.getElem?_append_right (by rw [← g1];exact hj),← g1] at hf';exact h4 _ f f' hf hf'
def zjf (M:List Ent) (es es' : List (List FV)):Prop:=es.length=es'.length∧∀ (j:Nat) row',es'[j]? = some row'→∃ k f f',es[j]? = some [k,f]∧row'=[k,f']∧WG M f f'
def zX.plain:zX→Bool
 | .dead|.hrow|.hmap => false
 | _ => true
theorem zX.plain_ne {l:zX} (h:l.plain=true):l≠.dead:=by rintro rfl;cases h
inductive yC (ob:List (Nat×zn)) (M0:List Ent):List Ent→Prop where
 | nil:yC ob M0 []
 | old {i' i vo v E sz:Nat} {lf:zX} {es es' : List (List FV)} {M:List Ent} (h:look {} ob i=⟨vo, lf, E, sz, es⟩) (hl:lf.plain=true) (e:es=es') (hM:yC ob M0 M):yC ob M0 (⟨i', some i, vo, ⟨v, lf, E, sz, es'⟩⟩ :: M)
 | new {i' vo v E sz:Nat} {M:List Ent} (hM:yC ob M0 M):yC ob M0 (⟨i', none, vo, ⟨v, .own, E, sz, []⟩⟩ :: M)
 | oldH {i' i vo v E:Nat} {es es' : List (List FV)} {M:List Ent} (h:look {} ob i=⟨vo, .hrow, E, 1, es⟩) (e:zcw M0 es es') (hM:yC ob M0 M):yC ob M0 (⟨i', some i, vo, ⟨v, .hrow, E, 1, es'⟩⟩ :: M)
 | oldK {i' i vo v E sz:Nat} {es es' : List (List FV)} {M:List Ent} (h:look {} ob i=⟨vo, .hrow, E, sz, es⟩) (e:zgQ M0 sz es es') (hM:yC ob M0 M):yC ob M0 (⟨i', some i, vo, ⟨v, .hrow, E, sz, es'⟩⟩ :: M)
 | oldM {i' i vo v E sz:Nat} {es es' : List (List FV)} {M:List Ent} (h:look {} ob i=⟨vo, .hmap, E, sz, es⟩) (e:zjf M0 es es') (hM:yC ob M0 M):yC ob M0 (⟨i', some i, vo, ⟨v, .hmap, E, sz, es'⟩⟩ :: M)
theorem yC.get {ob:List (Nat×zn)} {M0 M:List Ent} (h:yC ob M0 M):∀ e∈M,e.b.life≠.dead∧(∀ i,e.src=some i→∃ es0,look {} ob i=⟨e.vo,e.b.life,e.b.E,e.b.sz,es0⟩∧es0.length=e.b.es.length∧((e.b.life.plain=true∧es0=e.b.es)∨(e.b.life=.hrow∧zgQ M0 e.b.sz es0 e.b.es)∨(e.b.life=.hmap∧zjf M0 es0 e.b.es)))∧(e.src=none→e.b.life=.own∧e.b.es=[]):=by
 induction h with
 | nil => intro e he; simp at he
 | old h hl e hM ih=>
  intro q hq;rcases List.mem_cons.1 hq with rfl|hq
  ·refine ⟨zX.plain_ne hl,fun i hi=>?_,fun hi=>by cases hi⟩;injection hi with hi
   subst hi;subst e;exact ⟨_,h,rfl,.inl ⟨hl,rfl⟩⟩
  ·exact ih q hq
 | new hM ih =>
  intro q hq;rcases List.mem_cons.1 hq with rfl|hq
  ·exact ⟨by simp,(fun i hi=>by cases hi),fun _=>⟨rfl,rfl⟩⟩
  ·exact ih q hq
 | oldH h e hM ih=>
  intro q hq;rcases List.mem_cons.1 hq with rfl|hq
  ·refine ⟨by simp,fun i hi=>?_,fun hi=>by cases hi⟩;injection hi with hi
   subst hi;exact ⟨_,h,e.len.1,.inr (.inl ⟨rfl,e.len⟩)⟩
  ·exact ih q hq
 | oldK h e hM ih=>
  intro q hq;rcases List.mem_cons.1 hq with rfl|hq
  ·refine ⟨by simp,fun i hi=>?_,fun hi=>by cases hi⟩;injection hi with hi
   subst hi;exact ⟨_,h,e.1,.inr (.inl ⟨rfl,e⟩)⟩
  ·exact ih q hq
 | oldM h e hM ih=>
  intro q hq;rcases List.mem_cons.1 hq with rfl|hq
  ·refine ⟨by simp,fun i hi=>?_,fun hi=>by cases hi⟩;injection hi with hi
   subst hi;exact ⟨_,h,e.1,.inr (.inr ⟨rfl,e⟩)⟩
  ·exact ih q hq
inductive SlE (t:List (Nat×FV)) (M:List Ent):Nat→FV→Prop where
 | plain {d:Nat} {f f' : FV} (h:look .undef t d=f) (hn:f.hand=none) (e:f=f'):SlE t M d f'
 | own {d i i' v v' o n n' : Nat} {b:zn} (h:look .undef t d=(.own i v o n)) (hm:(⟨i', some i, v, b⟩:Ent) ∈ M) (hv:b.ver=v') (e:n=n'):SlE t M d (.own i' v' o n')
 | ptr {d i i' v v' j o:Nat} {b:zn} (h:look .undef t d=(.ptr i v j o)) (hm:(⟨i', some i, v, b⟩:Ent) ∈ M) (hv:b.ver=v'):SlE t M d (.ptr i' v' j o)
 | nil {d i' vo v' : Nat} {b:zn} (h:look .undef t d=.nil) (hm:(⟨i', none, vo, b⟩:Ent) ∈ M) (hv:b.ver=v'):SlE t M d (.own i' v' 0 0)
 | nilList {d sz:Nat} (h:look .undef t d=.nil):SlE t M d (.list sz [])
 | omap {d i i' v v' : Nat} {b:zn} (h:look .undef t d=(.omap i v)) (hm:(⟨i', some i, v, b⟩:Ent) ∈ M) (hv:b.ver=v'):SlE t M d (.omap i' v')
 | wrap {d:Nat} {k:Wk} {fs fs' : List FV} (h:look .undef t d=.wrap k fs) (hc:yV M fs fs'):SlE t M d (.wrap k fs')
inductive SlC (t:List (Nat×FV)) (M:List Ent):List (Nat×FV)→Prop where
 | nil:SlC t M []
 | cons {d:Nat} {f:FV} {t' : List (Nat × FV)} (h:SlE t M d f) (hs:SlC t M t'):SlC t M ((d, f) :: t')
theorem SlE.cel {t:List (Nat×FV)} {M:List Ent} {d:Nat} {f:FV} (h:SlE t M d f):WG M (look .undef t d) f:=by
 cases h with
 | plain h hn e => rw [h]; exact .plain hn e
 | own h hm hv e => rw [h]; exact .own hm hv rfl e
 | ptr h hm hv => rw [h]; exact .ptr hm hv
 | nil h hm hv => rw [h]; exact .nil hm hv
 | nilList h => rw [h]; exact .nilList
 | omap h hm hv => rw [h]; exact .omap hm hv
 | wrap h hc => rw [h]; exact .wrap hc
theorem SlC.get {t:List (Nat×FV)} {M:List Ent} {t' : List (Nat×FV)} (h:SlC t M t') (d:Nat):look .undef t' d=.undef∨SlE t M d (look .undef t' d):=by
 induction h with
 | nil => exact .inl rfl
 | cons h hs ih =>
  rw [zE];split
  ·rename_i e;subst e;exact .inr h
  ·exact ih
def YB (M:List Ent) (k:Nat):Option Ent:=look none (M.map fun e=>(e.new,some e)) k
theorem UN:∀ {M:List Ent} {k:Nat} {e:Ent},YB M k=some e→e∈M∧e.new=k
 | [], _, _, h => by cases h
 | q :: M, k, e, h => by
  unfold YB at h;rw [List.map_cons,zE] at h;split at h
  ·rename_i hk;injection h with h;subst h;exact ⟨by simp,hk⟩
  ·have:=UN (M:=M) h;exact ⟨by simp [this.1],this.2⟩
theorem Vp:∀ {M:List Ent} (_:(M.map Ent.new).Nodup) {e:Ent},e∈M→YB M e.new=some e
 | [], _, _, h => by simp at h
 | q::M,hn,e,h=>by
  unfold YB;rw [List.map_cons,zE];rw [List.map_cons,List.nodup_cons] at hn;rcases List.mem_cons.1 h with rfl|h
  ·rw [if_pos rfl]
  ·rw [if_neg (fun hq=>hn.1 (List.mem_map.2 ⟨e,h,hq.symm⟩))];exact Vp hn.2 h
theorem zdH:∀ (M:List Ent) (k:Nat),look {} (M.map fun e=>(e.new,e.b)) k=((YB M k).map Ent.b).getD {}
 | [], _ => rfl
 | q :: M, k => by
  unfold YB;rw [List.map_cons,List.map_cons,zE,zE];split
  ·rfl
  ·exact zdH M k
theorem Xe:∀ {M:List Ent} (_:(M.filterMap Ent.src).Nodup) {e q:Ent} {i:Nat},e∈M→q∈M→e.src=some i→q.src=some i→e=q
 | [], _, _, _, _, h, _, _, _ => by simp at h
 | p::M,hn,e,q,i,he,hq,h1,h2=>by
  have key:∀ x∈M,x.src=some i→p.src=some i→False:=fun x hx hxs hps=>by
   rw [List.filterMap_cons,hps] at hn;exact (List.nodup_cons.1 hn).1 (List.mem_filterMap.2 ⟨x,hx,hxs⟩)
  have hn' : (M.filterMap Ent.src).Nodup:=by
   rw [List.filterMap_cons] at hn;cases hp:p.src with
   | none => rw [hp] at hn; exact hn
   | some j => rw [hp] at hn; exact (List.nodup_cons.1 hn).2
  rcases List.mem_cons.1 he with rfl|he
  ·rcases List.mem_cons.1 hq with rfl|hq'
   ·rfl
   ·exact (key q hq' h2 h1).elim
  ·rcases List.mem_cons.1 hq with rfl|hq'
   ·exact (key e (by assumption) h1 h2).elim
   ·exact Xe hn' (by assumption) hq' h1 h2
inductive zal (ob:List (Nat×zn)):List Ent→Prop where
 | nil:zal ob []
 | low {q:Ent} {M:List Ent} (h:Nat.ble zB q.new=false) (hs:zal ob M):zal ob (q :: M)
 | same {i v:Nat} {b:zn} {M:List Ent} (e:b.ver=v) (hs:zal ob M):zal ob (⟨i, some i, v, b⟩ :: M)
 | bump {q:Ent} {M:List Ent} (e:(look {} ob q.new).ver<q.b.ver) (hs:zal ob M):zal ob (q :: M)
theorem zal.get {ob:List (Nat×zn)} {M:List Ent} (h:zal ob M):∀ q∈M,zB≤q.new→(q.src=some q.new∧q.b.ver=q.vo)∨(look {} ob q.new).ver<q.b.ver:=by
 induction h with
 | nil => intro q hq; cases hq
 | low h hs ih =>
  intro q hq hge;rcases List.mem_cons.1 hq with rfl|hq
  ·rw [Nat.ble_eq_true_of_le hge] at h;cases h
  ·exact ih q hq hge
 | same e hs ih =>
  intro q hq hge;rcases List.mem_cons.1 hq with rfl|hq
  ·exact .inl ⟨rfl,e⟩
  ·exact ih q hq hge
 | bump e hs ih =>
  intro q hq hge;rcases List.mem_cons.1 hq with rfl|hq
  ·exact .inr e
  ·exact ih q hq hge
def zg8 (ob:List (Nat×zn)) (M:List Ent):Bool:=ob.all fun p=>!Nat.ble zB p.1 || M.any fun q=>Nat.beq q.new p.1
def ziS (ob:List (Nat×zn)):Bool:=ob.all fun p=>!Nat.ble zB p.1
theorem zfQ {ob:List (Nat×zn)} (h:ziS ob=true) (M:List Ent):zg8 ob M=true:=
 List.all_eq_true.2 fun p hp=>by rw [List.all_eq_true.1 h p hp];rfl
theorem Vq {α:Type} {d:α}:∀ {l:List (Nat×α)} {k:Nat},(∀ p∈l,p.1≠k)→look d l k=d
 | [], _, _ => rfl
 | p :: l, k, h => by
  obtain ⟨i,x⟩:=p;rw [zE,if_neg (h (i,x) zc)];exact Vq fun p hp=>h p (List.mem_cons_of_mem _ hp)
theorem zfP {ob:List (Nat×zn)} {M:List Ent} (h:zg8 ob M=true) {k:Nat} (hk:zB≤k):(∃ q∈M,q.new=k)∨look {} ob k={}:=by
 by_cases hx:∃ p∈ob,p.1=k
 ·obtain ⟨p,hp,rfl⟩:=hx;have h1:=List.all_eq_true.1 h p hp;rw [Nat.ble_eq_true_of_le hk] at h1;simp only [Bool.not_true,Bool.false_or] at h1;obtain ⟨q,hq,e⟩:=List.any_eq_true.1 h1;exact .inl ⟨q,hq,Nat.eq_of_beq_eq_true e⟩
 ·exact .inr (Vq fun p hp e=>hx ⟨p,hp,e⟩)
theorem FLe.conv {t t' : List (Nat×FV)} {ob:List (Nat×zn)} (M:List Ent) (hk:(M.map Ent.new).Nodup) (hs:(M.filterMap Ent.src).Nodup) (hga:zg8 ob M=true) (hgo:zal ob M) (ho:yC ob M M) (ht:SlC t M t'):FLe ⟨t,ob⟩ ⟨t',M.map fun e=>(e.new,e.b)⟩:=by
 intro N w0 J a w β hF;refine ⟨fun k=>(YB M k).bind fun e=>e.src.bind β,?_⟩;have hE:=ho.get;have hob:∀ k,(⟨t',M.map fun e=>(e.new,e.b)⟩:FSt).ob k=((YB M k).map Ent.b).getD {}:=fun k=>zdH M k;have hmem:∀ e∈M,(⟨t',M.map fun e=>(e.new,e.b)⟩:FSt).ob e.new=e.b:=fun e he=>by rw [hob,Vp hk he];rfl
 have hβ:∀ e∈M,((YB M e.new).bind fun e=>e.src.bind β)=e.src.bind β:=fun e he=>by rw [Vp hk he];rfl
 have hlive:∀ k,((⟨t',M.map fun e=>(e.new,e.b)⟩:FSt).ob k).life≠.dead→∃ e∈M,e.new=k:=fun k hl=>by
  rw [hob] at hl;cases hm:YB M k with
  | none => rw [hm] at hl; exact absurd rfl hl
  | some e => exact ⟨e, UN hm⟩
 have hold:∀ e∈M,∀ i,e.src=some i→∃ es0,(⟨t,ob⟩:FSt).ob i=⟨e.vo,e.b.life,e.b.E,e.b.sz,es0⟩∧es0.length=e.b.es.length∧((e.b.life.plain=true∧es0=e.b.es)∨(e.b.life=.hrow∧zgQ M e.b.sz es0 e.b.es)∨(e.b.life=.hmap∧zjf M es0 e.b.es)):=fun e he i hi=>(hE e he).2.1 i hi;have hI:∀ b,Imm J w β ⟨t,ob⟩ b→Imm J w (fun k=>(YB M k).bind fun e=>e.src.bind β) ⟨t',M.map fun e=>(e.new,e.b)⟩ b∧w.heap[b]? = w.heap[b]?:=fun b hb=>by
  refine ⟨⟨hb.1,hb.2.1,fun id hl=>?_⟩,rfl⟩;obtain ⟨e,he,rfl⟩:=hlive id (zX.mine_ne hl);rw [hmem e he] at hl;dsimp only;rw [hβ e he];cases hsrc:e.src with
  | none => simp
  | some i =>
   obtain ⟨es0,h1,_⟩:=hold e he i hsrc;exact hb.2.2 i (by rw [h1];exact hl)
 have hown:∀ e∈M,∀ i,e.src=some i→∀ v o n,YC w (β i) ((⟨t,ob⟩:FSt).ob i) v o n→YC w ((YB M e.new).bind fun e=>e.src.bind β) ((⟨t',M.map fun e=>(e.new,e.b)⟩:FSt).ob e.new) v o n:=fun e he i hi v o n h=>by
  rw [hβ e he,hi,hmem e he];obtain ⟨es0,h1,h2,_⟩:=hold e he i hi;rw [h1] at h;obtain ⟨A,c,k1,k2,k3,k4,k5⟩:=h.ex;exact ⟨h.row,A,c,k1,k2,by rw [← h2];exact k3,k4,k5⟩
 have hvr1:∀ v f f',WG M f f'→VR1 w (Imm J w β ⟨t,ob⟩) β ⟨t,ob⟩ v f→VR1 w (Imm J w (fun k=>(YB M k).bind fun e=>e.src.bind β) ⟨t',M.map fun e=>(e.new,e.b)⟩) (fun k=>(YB M k).bind fun e=>e.src.bind β) ⟨t',M.map fun e=>(e.new,e.b)⟩ v f':=fun v f f' hc hv=>by
  cases hc with
  | plain hn e =>
   subst e;cases f <;> first|exact Rd.mono hI hv|(simp [FV.hand] at hn)
  | own hm hver eo e =>
   intro _ _;subst e;subst eo;obtain ⟨es0,h1,_⟩:=hold _ hm _ rfl;exact hown _ hm _ rfl _ _ _ (hv (by rw [h1];exact (hE _ hm).1) (by rw [h1]))
  | @ptr i i' v v' j o b hm hver =>
   intro _ _;obtain ⟨es0,h1,_⟩:=hold _ hm _ rfl;obtain ⟨hrl,bb,hb,hp⟩:=hv (by rw [h1];exact (hE _ hm).1) (by rw [h1]);have h2:=hmem _ hm;have h3:=hβ _ hm;dsimp only at h2 h3;rw [h1] at hrl hp;refine ⟨by rw [h2];exact hrl,bb,?_,by rw [h2];exact hp⟩;dsimp only;rw [h3];exact hb
  | @nil i' vo v' b hm hver =>
   intro _ _;have h2:=hmem _ hm;have h3:=hβ _ hm;dsimp only at h2 h3;have hv' : Rd w _ v .nil:=hv;have hnil:v=.slice none 0 0:=by cases hv';rfl
   rw [hnil];dsimp only;rw [h2,h3];exact ⟨by have:=((hE _ hm).2.2 rfl).1;dsimp only at this;rw [this];rfl,none,0,rfl,Nat.le_refl _,by omega,fun _=>⟨rfl,rfl⟩,fun b hb=>by simp at hb⟩
  | wrapL hl hcs => have hv' : Rd w _ v (.wrap _ _) := hv; cases hv'
  | nilList =>
   have hv' : Rd w _ v .nil:=hv;have hnil:v=.slice none 0 0:=by cases hv';rfl
   rw [hnil];exact Rd.list none 0 0 _ [] [] rfl (Nat.le_refl _) zc zc zc zc zc
  | @omap i i' v v' b hm hver =>
   intro _ _;obtain ⟨es0,h1,_⟩:=hold _ hm _ rfl;obtain ⟨hrl,bb,hb,hp⟩:=hv (by rw [h1];exact (hE _ hm).1) (by rw [h1]);have h2:=hmem _ hm;have h3:=hβ _ hm;dsimp only at h2 h3;rw [h1] at hrl;refine ⟨by rw [h2];exact hrl,bb,?_,hp⟩;dsimp only;rw [h3];exact hb
 have hvr:∀ v f f',WG M f f'→VR w (Imm J w β ⟨t,ob⟩) β ⟨t,ob⟩ v f→VR w (Imm J w (fun k=>(YB M k).bind fun e=>e.src.bind β) ⟨t',M.map fun e=>(e.new,e.b)⟩) (fun k=>(YB M k).bind fun e=>e.src.bind β) ⟨t',M.map fun e=>(e.new,e.b)⟩ v f':=fun v f f' hc hv=>by
  by_cases hw:∃ k fs,f=.wrap k fs
  ·obtain ⟨k,fs,rfl⟩:=hw;cases hc with
   | plain hn e => cases hn
   | wrapL hl hcs =>
    obtain ⟨us,e,h1,h2⟩:=hv;refine ⟨us,e,h1.trans hl,fun j u g hu hg=>?_⟩;rename_i fs';have hj:j<fs.length:=by rw [hl];exact (List.getElem?_eq_some_iff.1 hg).1
    exact hvr1 u fs[j] g (hcs j fs[j] g (by simp [hj]) hg) (h2 j u fs[j] hu (by simp [hj]))
  ·exact VR.of1 (hvr1 v f f' hc (hv.to1 fun k fs e=>hw ⟨k,fs,e⟩))
 have hvers:∀ f f',WG M f f'→∀ id ver,(id,ver)∈f'.hands→ver≤((⟨t',M.map fun e=>(e.new,e.b)⟩:FSt).ob id).ver:=fun f f' hc id ver hh=>by
  cases hc with
  | plain hn e => rw [← e] at hh; exact (FV.no_hands hn hh).elim
  | nilList => cases hh
  | wrapL hl hcs=>
   obtain ⟨g,hg,e⟩:=List.mem_filterMap.1 hh;obtain ⟨j,hj,rfl⟩:=List.getElem_of_mem hg;rename_i fs fs';have hj2:j<fs.length:=by rw [hl];exact hj
   have hc1:=hcs j fs[j] fs'[j] (by simp [hj2]) zc;generalize fs[j]=f0 at hc1;generalize fs'[j]=f1 at hc1 e;cases hc1 with
   | plain hn e1 => rw [← e1, hn] at e; cases e
   | nilList => cases e
   | wrapL _ _ => simp only [FV.hand, Option.some.injEq, Prod.mk.injEq] at e; omega
   | _ hm hver =>
    simp only [FV.hand,Option.some.injEq,Prod.mk.injEq] at e;obtain ⟨rfl,rfl⟩:=e;have h2:=hmem _ hm;dsimp only at h2;rw [h2,hver];exact Nat.le_refl _
  | _ hm hver =>
   simp only [FV.hands,List.mem_singleton,Prod.mk.injEq] at hh;obtain ⟨e1,e2⟩:=hh;replace e1:=e1.symm;replace e2:=e2.symm;subst e1;subst e2;have h2:=hmem _ hm;dsimp only at h2;rw [h2,hver];exact Nat.le_refl _
 refine { size:=hF.size,defers:=hF.defers,bel:=hF.bel,fresh0:=hF.fresh0,slot:=fun d=>?_,vers:=fun d id ver hh=>?_,obj:=fun id hl=>?_,inj:=fun id id' b hl hl' e e'=>?_,kept:=fun b hb=>⟨(hF.kept b hb).1,fun id hl e=>?_,(hF.kept b hb).2.2⟩,gh:=fun v f hg=>?_ }
 ·show VR _ _ _ _ _ (look .undef t' d);rcases ht.get d with h|h
  ·rw [h];exact VR.of_rd (.undef _) rfl
  ·exact hvr _ _ _ h.cel (hF.slot d)
 ·have hh' : (id,ver)∈(look FV.undef t' d).hands:=hh;rcases ht.get d with h|h
  ·rw [h] at hh';cases hh'
  ·exact hvers _ _ h.cel id ver hh'
 ·obtain ⟨e,he,rfl⟩:=hlive id hl;rw [hmem e he,hβ e he];cases hsrc:e.src with
  | none =>
   obtain ⟨h1,h2⟩:=(hE e he).2.2 hsrc;refine .ofRow ?_ (.own h1) (by rw [h1];rfl);refine ⟨by rw [h2];simp,by rw [h2];simp,.slice none 0 0,[],?_,rfl,?_⟩
   ·rw [h2];exact World.ownsRow_nil _ _ _ _
   ·rw [h2];exact RdL.nil
  | some i=>
   obtain ⟨es0,h1,hlen,hcase⟩:=hold e he i hsrc;have h2:=hF.obj i (by rw [h1];exact (hE e he).1);rw [h1] at h2;rcases hcase with ⟨hpl,rfl⟩|⟨hh,hrow⟩|⟨hh,hmg⟩
   ·cases hr:e.b.life.row with
    | true =>
     have h4:=h2.rowR hr;exact .ofRow ⟨h4.wide,h4.one,(h4.mono hI (fun _ _=>rfl)).row⟩ (h2.roomR hr) hr
    | false=>
     have hsl:e.b.life.slic=false:=by
      cases hl2:e.b.life <;> rw [hl2] at hr hpl <;> first|rfl|(simp [zX.row,zX.plain] at hr hpl;done)
     have hnh:e.b.life≠.hmap:=by intro e2;rw [e2] at hpl;cases hpl
     have h4:=(h2.mapR hsl hnh).mono hI (fun _ _=>rfl);exact .ofMap ⟨h4.ex⟩ hsl hnh
   ·have h4:=h2.rowH (by rw [hh];rfl) (by rw [hh];rfl);obtain ⟨l1,l2,l3,l4⟩:=hrow;obtain ⟨v,us,r1,r2,r3,r4⟩:=h4.row;dsimp only at r1 r3 r4;refine .ofH ⟨fun q hq=>l3 q hq,fun f hf id ver hfh=>?_,v,us,by rw [← l1];exact r1,r2,r3.trans l2,fun j u f' hu hf'=>?_⟩ hh
    ·obtain ⟨j,hj,rfl⟩:=List.getElem_of_mem hf;have hj2:j<es0.flatten.length:=by rw [l2];exact hj
     exact hvers _ _ (l4 j es0.flatten[j] _ zc zc) id ver hfh
    ·have hj:j<es0.flatten.length:=by rw [l2];exact (List.getElem?_eq_some_iff.1 hf').1
     exact hvr _ _ _ (l4 j es0.flatten[j] f' zc hf') (r4 j u _ hu zc)
   ·have h4:=h2.mapH hh;obtain ⟨bb,clock,ents,r1,r2,r3,r4,r5,r6,r7⟩:=h4.ex;dsimp only at r5 r6 r7;obtain ⟨l1,l2⟩:=hmg;have hkey:∀ (j:Nat) row',e.b.es[j]? = some row'→∃ en k f f',ents[j]? = some en∧es0[j]? = some [k,f]∧row'=[k,f']∧WG M f f'∧k.simple=true∧en.key=k.val:=fun j row' hr=>by
     obtain ⟨k,f,f',q1,q2,q3⟩:=l2 j row' hr;have hj:j<ents.size:=by rw [r5];exact (List.getElem?_eq_some_iff.1 q1).1
     obtain ⟨kf,vf,q4,q5,q6⟩:=r6 j ents[j] _ (by simp [hj]) q1;injection q4 with q4 _
     subst q4;exact ⟨ents[j],k,f,f',by simp [hj],q1,q2,q3,q5,q6⟩
    refine .ofMH ⟨fun f hf id ver hfh=>?_,bb,clock,ents,r1,r2,r3,r4,by rw [r5];exact l1,fun j en row' he2 hr=>?_,fun j en row' f2 he2 hr hf2=>?_⟩ hh
    ·obtain ⟨row',hr,hf⟩:=List.mem_flatten.1 hf;obtain ⟨j,hj,rfl⟩:=List.getElem_of_mem hr;obtain ⟨en,k,f1,f1',q0,q1,q2,q3,q4,q5⟩:=hkey j _ (List.getElem?_eq_getElem hj);rw [q2] at hf;rcases List.mem_cons.1 hf with rfl|hf
     ·exact (FV.no_hands (by cases f <;> first|rfl|(simp [FV.simple,FV.simple1] at q4)) hfh).elim
     ·rw [List.mem_singleton.1 hf] at hfh;exact hvers _ _ q3 id ver hfh
    ·obtain ⟨en2,k,f1,f1',q0,q1,q2,q3,q4,q5⟩:=hkey j _ hr;rw [q0] at he2;injection he2 with he2
     subst he2;exact ⟨k,f1',q2,q4,q5⟩
    ·obtain ⟨en2,k,f1,f1',q0,q1,q2,q3,q4,q5⟩:=hkey j _ hr;rw [q2] at hf2;simp at hf2;subst hf2;exact hvr _ _ _ q3 (r7 j en _ f1 he2 q1 rfl)
 ·obtain ⟨q,hq,rfl⟩:=hlive id hl;obtain ⟨q',hq',rfl⟩:=hlive id' hl';rw [hβ q hq] at e;rw [hβ q' hq'] at e';cases hs1:q.src with
  | none => rw [hs1] at e; simp at e
  | some i=>
   cases hs2:q'.src with
   | none => rw [hs2] at e'; simp at e'
   | some i' =>
    rw [hs1] at e;rw [hs2] at e';obtain ⟨_,h1,_⟩:=hold q hq i hs1;obtain ⟨_,h2,_⟩:=hold q' hq' i' hs2;have:=hF.inj i i' b (by rw [h1];exact (hE q hq).1) (by rw [h2];exact (hE q' hq').1) e e';subst this;rw [Xe hs hq hq' hs1 hs2]
 ·obtain ⟨q,hq,rfl⟩:=hlive id hl;rw [hβ q hq] at e;cases hs1:q.src with
  | none => rw [hs1] at e; simp at e
  | some i =>
   rw [hs1] at e;obtain ⟨_,h1,_⟩:=hold q hq i hs1;exact (hF.kept b hb).2.1 i (by rw [h1];exact (hE q hq).1) e
 ·obtain ⟨g1,g2⟩:=hF.gh v f hg;refine ⟨g1.mono hI fun id ver hh hl hvv=>?_,fun id ver hh=>⟨(g2 id ver hh).1,?_⟩⟩
  ·obtain ⟨q1,q2⟩:=g2 id ver hh;obtain ⟨e,he,rfl⟩:=hlive id hl;rw [hmem e he] at hvv;rcases hgo.get e he q1 with ⟨h1,h2⟩|h1
   ·obtain ⟨es0,k1,k2,k3⟩:=hold e he _ h1;rw [k1,hmem e he];refine ⟨(hE e he).1,by rw [← hvv,h2],?_,rfl,rfl,fun v o n hv=>?_⟩
    ·rw [hβ e he,h1];rfl
    ·rw [← hmem e he];exact hown e he _ h1 v o n (by rw [k1];exact hv)
   ·exact absurd q2 (by have:(⟨t,ob⟩:FSt).ob e.new=look {} ob e.new:=rfl;rw [this];omega)
  ·obtain ⟨q1,q2⟩:=g2 id ver hh;rcases zfP hga q1 with ⟨e,he,rfl⟩|hno
   ·rw [hmem e he];rcases hgo.get e he q1 with ⟨h1,h2⟩|h1
    ·obtain ⟨es0,k1,k2,k3⟩:=hold e he _ h1;rw [k1] at q2;rw [h2];exact q2
    ·have:(⟨t,ob⟩:FSt).ob e.new=look {} ob e.new:=rfl;rw [this] at q2;omega
   ·have:(⟨t,ob⟩:FSt).ob id=look {} ob id:=rfl;rw [this,hno] at q2;exact Nat.le_trans q2 (Nat.zero_le _)
theorem FLe.cv {t t' : List (Nat×FV)} {ob:List (Nat×zn)} (M:List Ent) (ho:yC ob M M) (ht:SlC t M t') (hk:(M.map Ent.new).Nodup:=by simp) (hs:(M.filterMap Ent.src).Nodup:=by simp) (hga:zg8 ob M=true:=by rfl)
  (hgo:zal ob M:=by repeat (first|exact zal.nil|refine zal.low rfl ?_|refine zal.same rfl ?_|refine zal.bump (Nat.lt_succ_self _) ?_)):FLe ⟨t,ob⟩ ⟨t',M.map fun e=>(e.new,e.b)⟩:=FLe.conv M hk hs hga hgo ho ht
theorem FLe.shut {t:List (Nat×FV)} {ob:List (Nat×zn)} {i v E sz:Nat} {es:List (List FV)} (h:look {} ob i=⟨v,.own,E,sz,es⟩):FLe ⟨t,ob⟩ ⟨t,(i,⟨v,.shut,E,sz,es⟩)::ob⟩:=by
 intro N w0 J a w β hF;have hbo:(⟨t,ob⟩:FSt).ob i=⟨v,.own,E,sz,es⟩:=h;refine ⟨β,hF.lives i .shut (fun h=>by cases h) (fun hd=>?_) (fun _=>by rw [hbo];rfl) (fun k=>?_) (fun k=>rfl) (fun _ ho=>?_)⟩;rotate_right
 ·rw [hbo] at ho ⊢;have:=ho.rowR rfl;exact .ofRow ⟨this.wide,this.one,this.row⟩ (.shut rfl) rfl
 ·have hb:(⟨t,ob⟩:FSt).ob i=⟨v,.own,E,sz,es⟩:=h;rw [hb] at hd;cases hd
 ·show look {} ((i,_)::ob) k=_;rw [zE];show _=if i=k then { (look {} ob i) with life:=.shut } else _
  rw [h];rfl
theorem FLe.list {t:List (Nat×FV)} {ob:List (Nat×zn)} {d i v o n E sz:Nat} {es:List (List FV)} {f:FV} (h:look .undef t d=(.own i v o n)) (hb:look {} ob i=⟨v,.shut,E,sz,es⟩) (e:.list sz ((es.drop o).take n)=f):FLe ⟨t,ob⟩ ⟨(d,f)::t,ob⟩:=by
 intro N w0 J a w β hF;subst e;have hbo:(⟨t,ob⟩:FSt).ob i=⟨v,.shut,E,sz,es⟩:=hb;have hl:=zN hbo zg;have hg:=hF.ev_own (x:=.tmp d) (s:=⟨t,ob⟩) h hl.1 hl.2;have hrd:Rd w (Imm J w β ⟨t,ob⟩) (a.tmps.getD d undef) (.list sz ((es.drop o).take n)):=by
  have hc:∃ c:Nat,c=N:=⟨_,rfl⟩
  obtain ⟨A,cc,e1,e2,e3,e4,e5⟩:=hg.ex;have e1' : a.tmps.getD d undef=.slice A n cc:=e1;rw [e1'];rw [hbo] at e3 e5;dsimp only at e3 e5;have hO:=hF.obj i hl.1;rw [hbo] at hO;have hO':=hO.rowR rfl;have hw:=hO'.wide;have hone:=hO'.one;dsimp only at hw hone;have hwd:∀ e∈es.drop o,e.length=sz:=fun e he=>hw e (List.mem_of_mem_drop he);have hlen:((es.drop o).take n).length=n:=by simp;omega
  have hfl:((es.drop o).take n).flatten=(es.flatten.drop (o * sz)).take (n * sz):=by rw [xL _ hwd,xj _ hw]
  have hone' : ∀ f∈((es.drop o).take n).flatten,f.one=true:=fun f hf=>by rw [hfl] at hf;exact hone f (List.mem_of_mem_drop (List.mem_of_mem_take hf))
  cases hbi:β i with
  | none =>
   obtain ⟨rfl,rfl⟩:=e4 hbi;obtain rfl:n=0:=by omega
   exact .list none 0 0 _ _ [] zc (Nat.le_refl _) zc zc zc zc zc
  | some b=>
   obtain ⟨o',rfl,k2,k3⟩:=e5 b hbi;obtain ⟨v',us,r1,r2,r3⟩:=hO'.row;dsimp only at r1 r3;have hlt:=hO.lt hbi;have hR:RdL w (Imm J w β ⟨t,ob⟩) ((us.drop (o * sz)).take (n * sz)) ((es.drop o).take n).flatten:=by rw [hfl];exact (r3.drop _).take _
   refine .list _ n cc sz _ _ hlen e2 (fun e he=>hwd e (List.mem_of_mem_take he)) hone' (fun h0=>⟨b,o',rfl,⟨hlt.2,hF.fresh b hlt.1 (.inr ⟨i,hl.1,hbi⟩),fun id' hl' e=>?_⟩,fun j u hu=>?_⟩) hR.1 hR.2
   ·have:=hF.inj i id' b hl.1 (zX.mine_ne hl') hbi e;subst this;rw [hbo] at hl';cases hl'
   ·have:=k2 (.inl zb);subst this;rw [List.getElem?_take] at hu;split at hu
    ·rw [List.getElem?_drop] at hu;have hcell:=r1.cells (g:=b) (by rw [r2];exact hbi) _ u hu;rwa [yM,Nat.zero_add] at hcell
    ·cases hu
 refine ⟨β,?_⟩;have hlt:∃ q:FSt,q=⟨(d,.list sz ((es.drop o).take n))::t,ob⟩:=⟨_,rfl⟩
 refine hF.step (C:=fun _=>False) hF.size hF.defers hF.bel (fun b hb=>⟨hb,rfl⟩) (fun k=>?_) (fun id _=>⟨rfl,rfl,fun _ _ _=>rfl⟩) (fun _ h=>h.elim) (fun _ h=>h.elim) (fun _ h=>h.elim) hF.inj (fun b _ hn=>⟨rfl,hn⟩);show (_∧look .undef ((d,_)::t) k=look .undef t k)∨_;by_cases hdk:d=k
 ·subst hdk;right;have:(⟨(d,.list sz ((es.drop o).take n))::t,ob⟩:FSt).get d=.list sz ((es.drop o).take n):=by show look _ _ _=_;rw [zE,if_pos rfl]
  rw [this];exact ⟨VR.of_rd (hrd.mono (fun b hb=>⟨hb,rfl⟩)) rfl,fun id ver e=>by cases e⟩
 ·left;exact ⟨rfl,by rw [zE,if_neg hdk]⟩
theorem FLe.eptr {t:List (Nat×FV)} {ob:List (Nat×zn)} (d:Nat) {i v j o E sz:Nat} {es:List (List FV)} (h:look .undef t d=(.ptr i v j o)) (hb:look {} ob i=⟨v,.shut,E,sz,es⟩):FLe ⟨t,ob⟩ ⟨(d,.eptr sz es j o)::t,ob⟩:=by
 intro N w0 J a w β hF;have hbo:(⟨t,ob⟩:FSt).ob i=⟨v,.shut,E,sz,es⟩:=hb;have hl:=zN hbo zg;obtain ⟨_,b,hbi,hv⟩:=hF.ev_ptr (x:=.tmp d) (s:=⟨t,ob⟩) h hl.1 hl.2;have hrd:Rd w (Imm J w β ⟨t,ob⟩) (a.tmps.getD d undef) (.eptr sz es j o):=by
  have hv' : a.tmps.getD d undef=.pointer (some ⟨b,j * ((⟨t,ob⟩:FSt).ob i).sz+o,none⟩):=hv;rw [hv',hbo];have hO:=hF.obj i hl.1;rw [hbo] at hO;have hO':=hO.rowR rfl;have hlt:=hO.lt hbi;obtain ⟨v',us,r1,r2,r3⟩:=hO'.row;dsimp only at r1 r3;have e:j * sz+o=0+(j * sz+o):=by omega
  dsimp only;rw [e];refine .eptr b 0 sz es j o us ⟨hlt.2,hF.fresh b hlt.1 (.inr ⟨i,hl.1,hbi⟩),fun id' hl' e=>?_⟩ hO'.wide hO'.one (fun k u hu=>?_) r3.1 r3.2
  ·have:=hF.inj i id' b hl.1 (zX.mine_ne hl') hbi e;subst this;rw [hbo] at hl';cases hl'
  ·have hcell:=r1.cells (g:=b) (by rw [r2];exact hbi) _ u hu;rwa [yM] at hcell
 refine ⟨β,?_⟩;refine hF.step (C:=fun _=>False) hF.size hF.defers hF.bel (fun b hb=>⟨hb,rfl⟩) (fun k=>?_) (fun id _=>⟨rfl,rfl,fun _ _ _=>rfl⟩) (fun _ h=>h.elim) (fun _ h=>h.elim) (fun _ h=>h.elim) hF.inj (fun b _ hn=>⟨rfl,hn⟩);show (_∧look .undef ((d,_)::t) k=look .undef t k)∨_;by_cases hdk:d=k
 ·subst hdk;right;have:(⟨(d,.eptr sz es j o)::t,ob⟩:FSt).get d=.eptr sz es j o:=by show look _ _ _=_;rw [zE,if_pos rfl]
  rw [this];exact ⟨VR.of_rd (hrd.mono (fun b hb=>⟨hb,rfl⟩)) rfl,fun id ver e=>by cases e⟩
 ·left;exact ⟨rfl,by rw [zE,if_neg hdk]⟩
theorem FLe.shareP {t:List (Nat×FV)} {ob:List (Nat×zn)} (d:Nat) {i v j o E sz:Nat} {es:List (List FV)} (h:look .undef t d=(.ptr i v j o)) (hb:look {} ob i=⟨v,.own,E,sz,es⟩) :
  FLe ⟨t,ob⟩ ⟨(d,.eptr sz es j o)::t,(i,⟨v,.shut,E,sz,es⟩)::ob⟩:=
 (FLe.shut hb).trans (FLe.eptr (d:=d) h (by rw [zE,if_pos rfl]))
theorem FLe.share {t:List (Nat×FV)} {ob:List (Nat×zn)} (d:Nat) {i v n E sz:Nat} {es:List (List FV)} (h:look .undef t d=.own i v 0 n) (hb:look {} ob i=⟨v,.own,E,sz,es⟩) (hn:n=es.length) :
  FLe ⟨t,ob⟩ ⟨(d,.list sz es)::t,(i,⟨v,.shut,E,sz,es⟩)::ob⟩:=
 (FLe.shut hb).trans (FLe.list (d:=d) h (by rw [zE,if_pos rfl]) (by rw [hn,List.drop_zero,List.take_length]))
theorem FLe.shareMap {t:List (Nat×FV)} {ob:List (Nat×zn)} (d:Nat) {i v E sz:Nat} {es:List (List FV)} (h:look .undef t d=.omap i v) (hb:look {} ob i=⟨v,.mapo,E,sz,es⟩) :
  FLe ⟨t,ob⟩ ⟨(d,.smap es)::t,(i,⟨v,.maps,E,sz,es⟩)::ob⟩:=by
 have h1:FLe ⟨t,ob⟩ ⟨t,(i,⟨v,.maps,E,sz,es⟩)::ob⟩:=by
  intro N w0 J a w β hF;have hbo:(⟨t,ob⟩:FSt).ob i=⟨v,.mapo,E,sz,es⟩:=hb;refine ⟨β,hF.lives i .maps (fun h=>by cases h) (fun hd=>by rw [hbo] at hd;cases hd) (fun _=>by rw [hbo];rfl) (fun k=>?_) (fun k=>rfl) (fun _ ho=>by rw [hbo] at ho ⊢;exact .ofMap ⟨(ho.mapR rfl (fun e=>by cases e)).ex⟩ rfl (fun e=>by cases e))⟩;show look {} ((i,_)::ob) k=_;rw [zE];show _=if i=k then { (look {} ob i) with life:=.maps } else _
  rw [hb];rfl
 refine h1.trans ?_;intro N w0 J a w β hF;have hbo:(⟨t,(i,⟨v,.maps,E,sz,es⟩)::ob⟩:FSt).ob i=⟨v,.maps,E,sz,es⟩:=by show look {} ((i,_)::ob) i=_;rw [zE,if_pos rfl]
 have hl:=zN hbo zg;have hg:=hF.ev_omap (x:=.tmp d) (s:=⟨t,(i,⟨v,.maps,E,sz,es⟩)::ob⟩) h hl.1 hl.2;have hO:=(hF.obj i hl.1).mapR (by rw [hbo];rfl) (by rw [hbo];exact fun e=>by cases e);rw [hbo] at hO;obtain ⟨_,b,hbb,hx⟩:=hg;obtain ⟨b',clock,ents,q1,q2,q3,q4,q5,q6,q7⟩:=hO.ex;rw [hbb] at q1;injection q1 with q1
 subst q1;have hlt:=(hF.obj i hl.1).lt hbb;have hrd:Rd w (Imm J w β ⟨t,(i,⟨v,.maps,E,sz,es⟩)::ob⟩) (a.tmps.getD d undef) (.smap es):=by
  have hx' : a.tmps.getD d undef=.map (some b):=hx;rw [hx'];refine .smap b clock ents es ⟨hlt.2,hF.fresh b hlt.1 (.inr ⟨i,hl.1,hbb⟩),fun id' hl' e=>?_⟩ q3 q4 q5 q6 q7;have:=hF.inj i id' b hl.1 (zX.mine_ne hl') hbb e;subst this;rw [hbo] at hl';cases hl'
 refine ⟨β,?_⟩;refine hF.step (C:=fun _=>False) hF.size hF.defers hF.bel (fun b hb=>⟨hb,rfl⟩) (fun k=>?_) (fun id _=>⟨rfl,rfl,fun _ _ _=>rfl⟩) (fun _ h=>h.elim) (fun _ h=>h.elim) (fun _ h=>h.elim) hF.inj (fun b _ hn=>⟨rfl,hn⟩);show (_∧look .undef ((d,_)::t) k=look .undef t k)∨_;by_cases hdk:d=k
 ·subst hdk;right;have:(⟨(d,.smap es)::t,(i,⟨v,.maps,E,sz,es⟩)::ob⟩:FSt).get d=.smap es:=by show look _ _ _=_;rw [zE,if_pos rfl]
  rw [this];exact ⟨VR.of_rd (hrd.mono (fun b hb=>⟨hb,rfl⟩)) rfl,fun id ver e=>by cases e⟩
 ·left;exact ⟨rfl,by rw [zE,if_neg hdk]⟩
theorem FLe.life {t:List (Nat×FV)} {ob:List (Nat×zn)} {i v E sz:Nat} {es:List (List FV)} {l l' : zX} (h:look {} ob i=⟨v,l,E,sz,es⟩) (hl:l≠.dead) (hm:l'.mine=true→l.mine=true) (hs:l'≠.dead→l'.slic=l.slic)
  (htr:∀ (w:World) (base:Nat) (I:Nat→Prop) (β:Nat→Option Nat) (s:FSt) (b:Option Nat),l'≠.dead→ObR w base I β s b ⟨v,l,E,sz,es⟩→ObR w base I β s b ⟨v,l',E,sz,es⟩):FLe ⟨t,ob⟩ ⟨t,(i,⟨v,l',E,sz,es⟩)::ob⟩:=by
 intro N w0 J a w β hF;have hbo:(⟨t,ob⟩:FSt).ob i=⟨v,l,E,sz,es⟩:=h;refine ⟨β,hF.lives i l' (fun e=>by rw [hbo];exact hm e) (fun hd=>by rw [hbo] at hd;exact absurd hd hl) (fun e=>by rw [hbo];exact hs e) (fun k=>?_) (fun k=>rfl) (fun e ho=>by rw [hbo] at ho ⊢;exact htr _ _ _ _ _ _ e ho)⟩;show look {} ((i,_)::ob) k=_;rw [zE];show _=if i=k then { (look {} ob i) with life:=l' } else _
 rw [h];rfl
theorem FLe.toH {t:List (Nat×FV)} {ob:List (Nat×zn)} {i v E sz:Nat} {es:List (List FV)} (h:look {} ob i=⟨v,.own,E,sz,es⟩):FLe ⟨t,ob⟩ ⟨t,(i,⟨v,.hrow,E,sz,es⟩)::ob⟩:=by
 refine FLe.life h zg (fun _=>rfl) (fun _=>rfl) fun w base I β s b _ ho=>?_;have hr:=ho.rowR rfl;obtain ⟨v1,us,r1,r2,r3⟩:=hr.row;have hno:∀ f∈es.flatten,f.hand=none:=fun f hf=>by have:=hr.one f hf;cases f <;> first|rfl|(simp [FV.one] at this)
 exact .ofH ⟨hr.wide,(fun f hf id ver e=>(FV.no_hands (hno f hf) e).elim),v1,us,r1,r2,r3.1,fun j u f hu hf=>VR.of_rd (r3.2 j u f hu hf) (hno f (List.mem_of_getElem? hf))⟩ rfl
theorem FLe.ofH {t:List (Nat×FV)} {ob:List (Nat×zn)} (i:Nat) {v E sz:Nat} {es:List (List FV)} (h:look {} ob i=⟨v,.hrow,E,sz,es⟩) (hall:es.flatten.all FV.one=true):FLe ⟨t,ob⟩ ⟨t,(i,⟨v,.own,E,sz,es⟩)::ob⟩:=by
 refine FLe.life h zg (fun _=>rfl) (fun _=>rfl) fun w base I β s b _ ho=>?_;have hr:=ho.rowH rfl rfl;obtain ⟨v1,us,r1,r2,r3,r4⟩:=hr.row;have hone:∀ f∈es.flatten,f.one=true:=fun f hf=>List.all_eq_true.1 hall f hf;exact .ofRow ⟨hr.wide,hone,v1,us,r1,r2,r3,fun j u f hu hf=>by
  have h1:=hone f (List.mem_of_getElem? hf);have h2:=r4 j u f hu hf;cases f <;> first|exact h2|(simp [FV.one] at h1)⟩ (.own rfl) rfl
theorem FW.split {c:Ctx} {code:Code} {Q:Exit→FSt→Prop} {t:List (Nat×FV)} {ob:List (Nat×zn)} (i:Nat) {v E sz:Nat} {es:List (List FV)} (h:look {} ob i=⟨v,.own,E,sz,es⟩)
  (h1:FW c code Q ⟨t,(i,⟨v,.roomy,E,sz,es⟩)::ob⟩) (h2:FW c code Q ⟨t,(i,⟨v,.full,E,sz,es⟩)::ob⟩):FW c code Q ⟨t,ob⟩:=by
 intro w0 J a w β hF;have hbo:(⟨t,ob⟩:FSt).ob i=⟨v,.own,E,sz,es⟩:=h;have hlive:((⟨t,ob⟩:FSt).ob i).life≠.dead:=by rw [hbo];exact (by decide:zX.own≠.dead)
 have key:∀ l' : zX,l'.mine=true→l'.row=true→ZQ w (β i) ⟨v,l',E,sz,es⟩→FR c.N w0 J ⟨t,(i,⟨v,l',E,sz,es⟩)::ob⟩ a w β:=by
  intro l' q1 q2 q3;refine hF.lives i l' (fun _=>by rw [hbo];rfl) (fun hd=>absurd hd hlive) (fun _=>by rw [hbo];exact zX.row_slic q2) (fun k=>?_) (fun k=>rfl) (fun _ ho=>?_)
  ·show look {} ((i,_)::ob) k=_;rw [zE];show _=if i=k then { (look {} ob i) with life:=l' } else _
   rw [h];rfl
  ·rw [hbo] at ho ⊢;have hr:=ho.rowR rfl;exact .ofRow ⟨hr.wide,hr.one,hr.row⟩ q3 q2
 have hO:=hF.obj i hlive;rw [hbo] at hO;obtain ⟨v1,us1,r1,r2,r3⟩:=(hO.rowR rfl).row;dsimp only at r1 r3;rcases r1.2 with ⟨rfl,h0⟩|⟨b,cap,cur,rfl,_,hgg,hn,hcm,hcs,htk⟩
 ·refine h2 w0 J a w β (key .full rfl rfl ?_);show ∀ b cur,β i=some b→_;intro b cur hb;rw [hb] at r2;simp [Value.ownBlock] at r2
 ·have hb:β i=some b:=by rw [← r2];rfl
  rcases Nat.lt_or_ge es.length cap with hlt|hge
  ·refine h1 w0 J a w β (key .roomy rfl rfl ⟨b,cur,hb,hgg,?_⟩);show (es.length+1) * sz≤cur.size;rw [hcs];exact Nat.mul_le_mul_right _ hlt
  ·refine h2 w0 J a w β (key .full rfl rfl ?_);show ∀ b' cur',β i=some b'→w.heap[b']? = some (.cells cur' E (0,0))→cur'.size=es.length * sz;intro b' cur' hb' hc';rw [hb] at hb';injection hb' with hb'
   subst hb';rw [hgg] at hc';injection hc' with hc'
   injection hc' with hc' _ _
   rw [← hc',hcs,show cap=es.length by omega]
def FV.ren1 (g:Nat→Nat):FV→FV
 | .own id v o n => .own (g id) v o n
 | .ptr id v j o => .ptr (g id) v j o
 | .omap id v => .omap (g id) v
 | f => f
def FV.ren (g:Nat→Nat):FV→FV
 | .wrap k fs => .wrap k (fs.map (FV.ren1 g))
 | .own id v o n => .own (g id) v o n
 | .ptr id v j o => .ptr (g id) v j o
 | .omap id v => .omap (g id) v
 | f => f
def zn.ren (g:Nat→Nat) (b:zn):zn:=
 match b.life with
 | .hrow => ⟨b.ver, b.life, b.E, b.sz, b.es.map fun r => r.map (FV.ren g)⟩
 | _ => b
theorem FV.hand_hands {f:FV} (hw:∀ k fs,f≠.wrap k fs) {p:Nat×Nat} (h:f.hand=some p):p∈f.hands:=by
 cases f with
 | wrap k fs => exact absurd rfl (hw k fs)
 | own|ptr|omap => injection h with h; rw [← h]; exact List.mem_singleton.2 rfl
 | _ => cases h
section
variable {g:Nat→Nat} {b:zn}
theorem zn.ren_plain (h:b.life≠.hrow):b.ren g=b:=by
 obtain ⟨v,l,E,sz,es⟩:=b;cases l <;> first|rfl|exact absurd rfl h
theorem zn.ren_life:(b.ren g).life=b.life:=by obtain ⟨v,l,E,sz,es⟩:=b;cases l <;> rfl
theorem zn.ren_ver:(b.ren g).ver=b.ver:=by obtain ⟨v,l,E,sz,es⟩:=b;cases l <;> rfl
theorem zn.ren_E:(b.ren g).E=b.E:=by obtain ⟨v,l,E,sz,es⟩:=b;cases l <;> rfl
theorem zn.ren_sz:(b.ren g).sz=b.sz:=by obtain ⟨v,l,E,sz,es⟩:=b;cases l <;> rfl
theorem zn.ren_len:(b.ren g).es.length=b.es.length:=by obtain ⟨v,l,E,sz,es⟩:=b;cases l <;> simp [zn.ren]
theorem zn.ren_h (h:b.life=.hrow):b.ren g=⟨b.ver,.hrow,b.E,b.sz,b.es.map fun r=>r.map (FV.ren g)⟩:=by obtain ⟨v,l,E,sz,es⟩:=b;cases h;rfl
end
theorem YC.ren {w:World} {βid:Option Nat} {b:zn} {v:Value} {o n:Nat} (g:Nat→Nat):YC w βid (b.ren g) v o n↔YC w βid b v o n:=by
 constructor
 ·rintro ⟨h1,A,c,h2,h3,h4,h5,h6⟩;rw [zn.ren_life] at h1;rw [zn.ren_len] at h4;refine ⟨h1,A,c,h2,h3,h4,h5,fun q hq=>?_⟩;obtain ⟨o',k1,k2,k3⟩:=h6 q hq;rw [zn.ren_sz] at k2 k3;rw [zn.ren_E] at k3;exact ⟨o',k1,k2,k3⟩
 ·rintro ⟨h1,A,c,h2,h3,h4,h5,h6⟩;refine ⟨by rw [zn.ren_life];exact h1,A,c,h2,h3,by rw [zn.ren_len];exact h4,h5,fun q hq=>?_⟩;obtain ⟨o',k1,k2,k3⟩:=h6 q hq;exact ⟨o',k1,by rw [zn.ren_sz];exact k2,by rw [zn.ren_E,zn.ren_sz];exact k3⟩
structure Shr (g:Nat→Nat) (D:Nat→Prop) (β1 β2:Nat→Option Nat) (s1 s2:FSt):Prop where
 ob:∀ k,D k→s2.ob (g k)=(s1.ob k).ren g
 b:∀ k,D k→β2 (g k)=β1 k
section
variable {g:Nat→Nat} {D:Nat→Prop} {β1 β2:Nat→Option Nat} {s1 s2:FSt} {w:World} {I1 I2:Nat→Prop}
theorem Shr.own (S:Shr g D β1 β2 s1 s2) {id:Nat} (hd:D id) {v:Value} {o n:Nat}:YC w (β2 (g id)) (s2.ob (g id)) v o n↔YC w (β1 id) (s1.ob id) v o n:=by
 rw [S.ob id hd,S.b id hd];exact YC.ren g
theorem Shr.life (S:Shr g D β1 β2 s1 s2) {id:Nat} (hd:D id):(s2.ob (g id)).life=(s1.ob id).life:=by rw [S.ob id hd,zn.ren_life]
theorem Shr.ver (S:Shr g D β1 β2 s1 s2) {id:Nat} (hd:D id):(s2.ob (g id)).ver=(s1.ob id).ver:=by rw [S.ob id hd,zn.ren_ver]
theorem Shr.sz (S:Shr g D β1 β2 s1 s2) {id:Nat} (hd:D id):(s2.ob (g id)).sz=(s1.ob id).sz:=by rw [S.ob id hd,zn.ren_sz]
theorem Shr.fwd1 (S:Shr g D β1 β2 s1 s2) (hI:∀ b,I1 b→I2 b) {v:Value} {f:FV} (hd:∀ id ver,f.hand=some (id,ver)→D id) (h:VR1 w I1 β1 s1 v f) (hw:∀ k fs,f≠.wrap k fs):VR1 w I2 β2 s2 v (f.ren1 g):=by
 cases f with
 | own id ver o n =>
  have hD:=hd id ver rfl;exact fun h1 h2=>(S.own hD).2 (h (by rw [← S.life hD];exact h1) (by rw [← S.ver hD];exact h2))
 | ptr id ver j o =>
  have hD:=hd id ver rfl;intro h1 h2;obtain ⟨k1,b,k2,k3⟩:=h (by rw [← S.life hD];exact h1) (by rw [← S.ver hD];exact h2);exact ⟨by rw [S.life hD];exact k1,b,by rw [S.b _ hD];exact k2,by rw [S.sz hD];exact k3⟩
 | omap id ver =>
  have hD:=hd id ver rfl;intro h1 h2;obtain ⟨k1,b,k2,k3⟩:=h (by rw [← S.life hD];exact h1) (by rw [← S.ver hD];exact h2);exact ⟨by rw [S.life hD];exact k1,b,by rw [S.b _ hD];exact k2,k3⟩
 | wrap k fs => exact absurd rfl (hw k fs)
 | _ => exact Rd.mono (fun b hb => ⟨hI b hb, rfl⟩) h
theorem Shr.fwd (S:Shr g D β1 β2 s1 s2) (hI:∀ b,I1 b→I2 b) {v:Value} {f:FV} (hd:∀ id ver,(id,ver)∈f.hands→D id) (h:VR w I1 β1 s1 v f):VR w I2 β2 s2 v (f.ren g):=by
 by_cases hx:∃ k fs,f=.wrap k fs
 ·obtain ⟨k,fs,rfl⟩:=hx;obtain ⟨us,e,h1,h2⟩:=h;refine ⟨us,e,by simpa using h1,fun j u f hu hf=>?_⟩;rw [List.getElem?_map] at hf;cases hj:fs[j]? with
  | none => rw [hj] at hf; cases hf
  | some q =>
   rw [hj] at hf;injection hf with hf
   subst hf;have hq:=h2 j u q hu hj;have hw:∀ k fs,q≠.wrap k fs:=fun k' fs' e=>by subst e;have hq' : Rd w I1 u (.wrap k' fs'):=hq;cases hq'
   exact S.fwd1 hI (fun id ver e=>hd id ver (List.mem_filterMap.2 ⟨q,List.mem_of_getElem? hj,e⟩)) hq hw
 ·have hw:∀ k fs,f≠.wrap k fs:=fun k fs e=>hx ⟨k,fs,e⟩;have e1:f.ren g=f.ren1 g:=by cases f <;> first|rfl|exact absurd rfl (hw _ _)
  rw [e1];exact VR.of1 (S.fwd1 hI (fun id ver e=>hd id ver (FV.hand_hands hw e)) (h.to1 hw) hw)
theorem Shr.bwd1 (S:Shr g D β1 β2 s1 s2) (hI:∀ b,I2 b→I1 b) {v:Value} {f:FV} (hd:∀ id ver,f.hand=some (id,ver)→D id) (h:VR1 w I2 β2 s2 v (f.ren1 g)) (hw:∀ k fs,f≠.wrap k fs):VR1 w I1 β1 s1 v f:=by
 cases f with
 | own id ver o n =>
  have hD:=hd id ver rfl;exact fun h1 h2=>(S.own hD).1 (h (by rw [S.life hD];exact h1) (by rw [S.ver hD];exact h2))
 | ptr id ver j o =>
  have hD:=hd id ver rfl;intro h1 h2;obtain ⟨k1,b,k2,k3⟩:=h (by rw [S.life hD];exact h1) (by rw [S.ver hD];exact h2);exact ⟨by rw [← S.life hD];exact k1,b,by rw [← S.b _ hD];exact k2,by rw [← S.sz hD];exact k3⟩
 | omap id ver =>
  have hD:=hd id ver rfl;intro h1 h2;obtain ⟨k1,b,k2,k3⟩:=h (by rw [S.life hD];exact h1) (by rw [S.ver hD];exact h2);exact ⟨by rw [← S.life hD];exact k1,b,by rw [← S.b _ hD];exact k2,k3⟩
 | wrap k fs => exact absurd rfl (hw k fs)
 | _ => exact Rd.mono (fun b hb => ⟨hI b hb, rfl⟩) h
theorem Shr.bwd (S:Shr g D β1 β2 s1 s2) (hI:∀ b,I2 b→I1 b) {v:Value} {f:FV} (hd:∀ id ver,(id,ver)∈f.hands→D id) (h:VR w I2 β2 s2 v (f.ren g)):VR w I1 β1 s1 v f:=by
 by_cases hx:∃ k fs,f=.wrap k fs
 ·obtain ⟨k,fs,rfl⟩:=hx;obtain ⟨us,e,h1,h2⟩:=h;refine ⟨us,e,by simpa using h1,fun j u q hu hj=>?_⟩;have hq:=h2 j u (q.ren1 g) hu (by rw [List.getElem?_map,hj];rfl);have hw:∀ k fs,q≠.wrap k fs:=fun k' fs' e=>by subst e;have hq' : Rd w I2 u (.wrap k' fs'):=hq;cases hq'
  exact S.bwd1 hI (fun id ver e=>hd id ver (List.mem_filterMap.2 ⟨q,List.mem_of_getElem? hj,e⟩)) hq hw
 ·have hw:∀ k fs,f≠.wrap k fs:=fun k fs e=>hx ⟨k,fs,e⟩;have e1:f.ren g=f.ren1 g:=by cases f <;> first|rfl|exact absurd rfl (hw _ _)
  rw [e1] at h;have hw1:∀ k fs,f.ren1 g≠.wrap k fs:=fun k fs e=>by cases f <;> first|exact absurd rfl (hw _ _)|(simp [FV.ren1] at e)
  exact VR.of1 (S.bwd1 hI (fun id ver e=>hd id ver (FV.hand_hands hw e)) (h.to1 hw1) hw)
theorem xo (es:List (List FV)):(es.map fun r=>r.map (FV.ren g)).flatten=es.flatten.map (FV.ren g):=by
 rw [List.map_flatten]
theorem zbG {f:FV} {id ver:Nat} (h:(id,ver)∈(f.ren g).hands):(∃ k,(k,ver)∈f.hands∧id=g k)∨ver=0:=by
 cases f with
 | wrap k fs =>
  obtain ⟨q,hq,e⟩:=List.mem_filterMap.1 h;obtain ⟨q0,hq0,rfl⟩:=List.mem_map.1 hq;cases q0 <;> simp only [FV.ren1,FV.hand] at e <;> first|(injection e with e;injection e with e1 e2;subst e1;subst e2;first|exact .inl ⟨_,List.mem_filterMap.2 ⟨_,hq0,rfl⟩,rfl⟩|exact .inr rfl)|(cases e;done)
 | own|ptr|omap =>
  have h':=List.mem_singleton.1 h;injection h' with e1 e2
  subst e1;subst e2;exact .inl ⟨_,List.mem_singleton.2 rfl,rfl⟩
 | _ => exact (FV.no_hands rfl h).elim
theorem Shr.obF (S:Shr g D β1 β2 s1 s2) (hI:∀ b,I1 b→I2 b) {base:Nat} {id:Nat} (hd:D id) (hnm:(s1.ob id).life≠.hmap) (hc:(s1.ob id).life=.hrow→∀ f∈(s1.ob id).es.flatten,∀ i ver,(i,ver)∈f.hands→D i) (h:ObR w base I1 β1 s1 (β1 id) (s1.ob id)) :
  ObR w base I2 β2 s2 (β2 (g id)) (s2.ob (g id)):=by
 rw [S.ob id hd,S.b id hd];by_cases hh:(s1.ob id).life=.hrow
 ·have hr:=h.rowH (by rw [hh];rfl) (by rw [hh];rfl);rw [zn.ren_h hh];obtain ⟨v,us,r1,r2,r3,r4⟩:=hr.row;refine .ofH ⟨fun e he=>?_,fun f hf i ver e=>?_,v,us,?_,r2,?_,fun j u f hu hf=>?_⟩ rfl
  ·obtain ⟨e0,he0,rfl⟩:=List.mem_map.1 he;simpa using hr.wide e0 he0
  ·dsimp only at hf;rw [xo] at hf;obtain ⟨f0,hf0,rfl⟩:=List.mem_map.1 hf;rcases zbG e with ⟨k,hk,rfl⟩|h0
   ·rw [S.ver (hc hh f0 hf0 k ver hk)];exact hr.vers f0 hf0 k ver hk
   ·rw [h0];exact Nat.zero_le _
  ·rw [List.length_map];exact r1
  ·dsimp only;rw [xo,List.length_map];exact r3
  ·dsimp only at hf;rw [xo,List.getElem?_map] at hf;cases hj:(s1.ob id).es.flatten[j]? with
   | none => rw [hj] at hf; cases hf
   | some q =>
    rw [hj] at hf;injection hf with hf
    subst hf;exact S.fwd hI (fun i ver e=>hc hh q (List.mem_of_getElem? hj) i ver e) (r4 j u q hu hj)
 ·rw [zn.ren_plain hh];have hm:∀ b,I1 b→I2 b∧w.heap[b]? = w.heap[b]?:=fun b hb=>⟨hI b hb,rfl⟩
  cases hr:(s1.ob id).life.row with
  | true => exact .ofRow ((h.rowR hr).mono hm (fun _ _ => rfl)) ((h.roomR hr).mono (fun _ _ => rfl)) hr
  | false =>
   cases hs:(s1.ob id).life.slic with
   | true => exact absurd (by cases hl:(s1.ob id).life <;> rw [hl] at hr hs <;> first|rfl|(simp [zX.row, zX.slic] at hr hs; done)) hh
   | false => exact .ofMap ((h.mapR hs hnm).mono hm (fun _ _ => rfl)) hs hnm
theorem Shr.obB (S:Shr g D β1 β2 s1 s2) (hI:∀ b,I2 b→I1 b) {base:Nat} {id:Nat} (hd:D id) (hnm:(s1.ob id).life≠.hmap) (hc:(s1.ob id).life=.hrow→∀ f∈(s1.ob id).es.flatten,∀ i ver,(i,ver)∈f.hands→D i)
  (hv:(s1.ob id).life=.hrow→∀ f∈(s1.ob id).es.flatten,∀ i ver,(i,ver)∈f.hands→ver≤(s1.ob i).ver) (h:ObR w base I2 β2 s2 (β2 (g id)) (s2.ob (g id))):ObR w base I1 β1 s1 (β1 id) (s1.ob id):=by
 rw [S.ob id hd,S.b id hd] at h;by_cases hh:(s1.ob id).life=.hrow
 ·rw [zn.ren_h hh] at h;have hr:=h.rowH rfl rfl;obtain ⟨v,us,r1,r2,r3,r4⟩:=hr.row;dsimp only at r1 r3 r4;rw [xo] at r3 r4;refine .ofH ⟨fun e he=>?_,hv hh,v,us,?_,r2,?_,fun j u f hu hf=>?_⟩ hh
  ·have:=hr.wide (e.map (FV.ren g)) (List.mem_map.2 ⟨e,he,rfl⟩);simpa using this
  ·rw [List.length_map] at r1;exact r1
  ·rw [List.length_map] at r3;exact r3
  ·exact S.bwd hI (fun i ver e=>hc hh f (List.mem_of_getElem? hf) i ver e) (r4 j u (f.ren g) hu (by rw [List.getElem?_map,hf];rfl))
 ·rw [zn.ren_plain hh] at h;have hm:∀ b,I2 b→I1 b∧w.heap[b]? = w.heap[b]?:=fun b hb=>⟨hI b hb,rfl⟩
  cases hr:(s1.ob id).life.row with
  | true => exact .ofRow ((h.rowR hr).mono hm (fun _ _ => rfl)) ((h.roomR hr).mono (fun _ _ => rfl)) hr
  | false =>
   cases hs:(s1.ob id).life.slic with
   | true => exact absurd (by cases hl:(s1.ob id).life <;> rw [hl] at hr hs <;> first|rfl|(simp [zX.row, zX.slic] at hr hs; done)) hh
   | false => exact .ofMap ((h.mapR hs hnm).mono hm (fun _ _ => rfl)) hs hnm
end
def FV.cl (ks:List Nat) (f:FV):Bool:=f.hands.all fun p=>ks.any fun k=>Nat.beq k p.1
def zn.cl (ks:List Nat) (b:zn):Bool:=
 match b.life with
 | .hrow => b.es.all fun r => r.all fun f => f.cl ks
 | .hmap => false
 | _ => true
theorem zn.cl_nm {ks:List Nat} {b:zn} (h:b.cl ks=true):b.life≠.hmap:=by
 obtain ⟨v,l,E,sz,es⟩:=b;rintro rfl;cases h
theorem FV.cl_get {ks:List Nat} {f:FV} (h:f.cl ks=true) {id ver:Nat} (hm:(id,ver)∈f.hands):id∈ks:=by
 obtain ⟨k,hk,e⟩:=List.any_eq_true.1 (List.all_eq_true.1 h _ hm);have e' : k=id:=Nat.eq_of_beq_eq_true e;rw [← e'];exact hk
theorem zn.cl_get {ks:List Nat} {b:zn} (h:b.cl ks=true) (hl:b.life=.hrow) {f:FV} (hf:f∈b.es.flatten) {id ver:Nat} (hm:(id,ver)∈f.hands):id∈ks:=by
 obtain ⟨v,l,E,sz,es⟩:=b;cases hl;obtain ⟨r,hr,hfr⟩:=List.mem_flatten.1 hf;exact FV.cl_get (List.all_eq_true.1 (List.all_eq_true.1 h r hr) f hfr) hm
theorem zf2 {g:Nat→Nat} {f:FV} {id ver:Nat} (hw:∀ k fs,f≠.wrap k fs) (h:f.hand=some (id,ver)):(f.ren1 g).hand=some (g id,ver):=by
 cases f with
 | wrap k fs => exact absurd rfl (hw k fs)
 | own|ptr|omap => injection h with h; injection h with e1 e2; subst e1; subst e2; rfl
 | _ => cases h
theorem zbF {g:Nat→Nat} {w:World} {I:Nat→Prop} {β:Nat→Option Nat} {s:FSt} {u:Value} {f:FV} (hv:VR w I β s u (f.ren g)) {id ver:Nat} (hm:(id,ver)∈f.hands):(g id,ver)∈(f.ren g).hands:=by
 cases f with
 | wrap q fs=>
  obtain ⟨x,hx,e⟩:=List.mem_filterMap.1 hm;by_cases hxw:∃ k fs,x=.wrap k fs
  ·exfalso;obtain ⟨k',fs',rfl⟩:=hxw;obtain ⟨us',e1,e2,e3⟩:=hv;obtain ⟨i',hi',ei'⟩:=List.getElem_of_mem hx;have hlt:i'<us'.length:=by rw [e2,List.length_map];exact hi'
   have:=e3 i' us'[i'] (FV.wrap k' fs') zc (by rw [List.getElem?_map,List.getElem?_eq_getElem hi',ei'];rfl);have h' : Rd w I us'[i'] (.wrap k' fs'):=this;generalize us'[i']=u0 at h';cases h'
  ·exact List.mem_filterMap.2 ⟨x.ren1 g,List.mem_map.2 ⟨x,hx,rfl⟩,zf2 (fun k fs e=>hxw ⟨k,fs,e⟩) e⟩
 | own|ptr|omap =>
  have hm':=List.mem_singleton.1 hm;injection hm' with e1 e2
  subst e1;subst e2;exact List.mem_singleton.2 rfl
 | _ => exact (FV.no_hands rfl hm).elim
def zan (g:Nat→Nat) (ks:List Nat) (ob' : List (Nat×zn)):List (Nat×zn):=ks.map fun k=>(g k,(look {} ob' k).ren g)
theorem zdm {g:Nat→Nat} {ob' o:List (Nat×zn)}:∀ {ks:List Nat},(ks.map g).Nodup→∀ k∈ks,look {} (zan g ks ob'++o) (g k)=(look {} ob' k).ren g
 | [], _, _, h => by cases h
 | q::ks,hn,k,hk=>by
  rw [List.map_cons,List.nodup_cons] at hn;show look {} ((g q,_)::(zan g ks ob'++o)) (g k)=_;rw [zE];rcases List.mem_cons.1 hk with rfl|hk
  ·rw [if_pos rfl]
  ·rw [if_neg (fun e=>hn.1 (List.mem_map.2 ⟨k,hk,e.symm⟩))];exact zdm hn.2 k hk
theorem zdn {g:Nat→Nat} {ob' o:List (Nat×zn)}:∀ {ks:List Nat} {id:Nat},(∀ k∈ks,g k≠id)→look {} (zan g ks ob'++o) id=look {} o id
 | [], _, _ => rfl
 | q :: ks, id, h => by
  show look {} ((g q,_)::(zan g ks ob'++o)) id=_;rw [zE,if_neg (h q zc)];exact zdn fun k hk=>h k (by simp [hk])
def za4 (g:Nat→Nat) (ks:List Nat) (β β' : Nat→Option Nat) (id:Nat):Option Nat:=match ks.find? (fun k=>g k == id) with|some k=>β' k|none=>β id
theorem yW {g:Nat→Nat} {β β' : Nat→Option Nat} {ks:List Nat} (hn:(ks.map g).Nodup) {k:Nat} (hk:k∈ks):za4 g ks β β' (g k)=β' k:=by
 unfold za4;cases hf:ks.find? (fun q=>g q == g k) with
 | none => exact absurd (List.find?_eq_none.1 hf k hk) zc
 | some q=>
  have h1:=List.find?_some hf;have h2:=List.mem_of_find?_eq_some hf;have e:g q=g k:=by simpa using h1
  have:q=k:=by
   have key:∀ (l:List Nat),(l.map g).Nodup→q∈l→k∈l→g q=g k→q=k:=by
    intro l
    induction l with
    | nil => intro _ h; cases h
    | cons x l ih=>
     intro hn hq hk e;rw [List.map_cons,List.nodup_cons] at hn;rcases List.mem_cons.1 hq with h1|h1
     ·rcases List.mem_cons.1 hk with h2|h2
      ·rw [h1,h2]
      ·exact absurd (List.mem_map.2 ⟨k,h2,by rw [← e,h1]⟩) hn.1
     ·rcases List.mem_cons.1 hk with h2|h2
      ·exact absurd (List.mem_map.2 ⟨q,h1,by rw [e,h2]⟩) hn.1
      ·exact ih hn.2 h1 h2 e
   exact key ks hn h2 hk e
  rw [this]
theorem xH {g:Nat→Nat} {β β' : Nat→Option Nat} {ks:List Nat} {id:Nat} (h:∀ k∈ks,g k≠id):za4 g ks β β' id=β id:=by
 unfold za4;cases hf:ks.find? (fun q=>g q == id) with
 | none => rfl
 | some q => exact absurd (by simpa using List.find?_some hf) (h q (List.mem_of_find?_eq_some hf))
def yD (args:List FV) (ob:List (Nat×zn)):FSt:=⟨args.zipIdx.map fun p=>(p.2,p.1),ob⟩
theorem XI (args:List FV) (ob:List (Nat×zn)) (d:Nat):(yD args ob).get d=args.getD d .undef:=WV args d
theorem FR.lend {N:Nat} {w0 w:World} {J:JJ} {s:FSt} {a:Act} {β:Nat→Option Nat} (h:FR N w0 J s a w β) {args:List FV} {ob:List (Nat×zn)} {g:Nat→Nat} {kl ex:List Nat}
  (hkl:ob.map Prod.fst=kl) (hob:∀ k∈kl,s.ob (g k)=(look {} ob k).ren g) (hmine:∀ k∈kl,(look {} ob k).life.mine=true) (hge:∀ k∈kl,zB≤k) (hnd:((kl++ex).map g).Nodup)
  (hcl:∀ k∈kl,(look {} ob k).cl kl=true) (hca:∀ x∈args,x.cl kl=true) (hvv:∀ x∈args,∀ id ver,(id,ver)∈(x.ren g).hands→ver≤(s.ob id).ver)
  {vs:List Value} (hvl:vs.length=args.length) (hv:∀ (j:Nat) u x,vs[j]? = some u→args[j]? = some x→VR w (Imm J w β s) β s u (x.ren g)) :
  ∃ J' βL,FR args.length w0 J' (yD args ob) ⟨vs.toArray,[]⟩ w βL∧
   ∀ w' res ob' β' v,FR 1 w0 J' ⟨[(0,res)],ob'⟩ ⟨#[v],[]⟩ w' β'→
    (∀ k∈kl,(look {} ob' k).life≠.dead→(look {} ob' k).life.mine=true∧(look {} ob' k).sz=(look {} ob k).sz∧(look {} ob' k).life.slic=(look {} ob k).life.slic)→
    (∀ k∈ex,(s.ob (g k)).ver<(look {} ob' k).ver∧((look {} ob' k).life≠.dead→(look {} ob' k).life.mine=true))→
    (∀ k∈kl++ex,(look {} ob' k).cl (kl++ex)=true)→res.cl (kl++ex)=true→
    ∃ β'',FR N w0 J ⟨s.t,zan g (kl++ex) ob'++s.o⟩ a w' β''∧VR w' (Imm J w' β'' ⟨s.t,zan g (kl++ex) ob'++s.o⟩) β'' ⟨s.t,zan g (kl++ex) ob'++s.o⟩ v (res.ren g)∧
     ∀ id ver,(id,ver)∈(res.ren g).hands→ver≤((⟨s.t,zan g (kl++ex) ob'++s.o⟩:FSt).ob id).ver:=by
 have hndl:(kl.map g).Nodup:=by
  rw [List.map_append] at hnd;exact (List.nodup_append.1 hnd).1
 obtain ⟨βL,hβL⟩:∃ βL:Nat→Option Nat,∀ k,βL k=if k∈kl then β (g k) else none:=⟨fun k=>if k∈kl then β (g k) else none,fun _=>rfl⟩
 have hβk:∀ k∈kl,βL k=β (g k):=fun k hk=>by rw [hβL,if_pos hk]
 have hβo:∀ k,k∉kl→βL k=none:=fun k hk=>by rw [hβL,if_neg hk]
 have hdead:∀ k,k∉kl→look {} ob k=({}:zn):=fun k hk=>Vq fun p hp e=>hk (by rw [← hkl,← e];exact List.mem_map.2 ⟨p,hp,rfl⟩);have hkmem:∀ k,((yD args ob).ob k).life≠.dead→k∈kl:=fun k hl=>by
  by_cases hk:k∈kl
  ·exact hk
  ·exact absurd (by show (look {} ob k).life=.dead;rw [hdead k hk]) hl
 have hlive:∀ k∈kl,(s.ob (g k)).life≠.dead:=fun k hk=>by rw [hob k hk,zn.ren_life];exact zX.mine_ne (hmine k hk)
 have hminS:∀ k∈kl,(s.ob (g k)).life.mine=true:=fun k hk=>by rw [hob k hk,zn.ren_life];exact hmine k hk
 have S:Shr g (fun k=>k∈kl) βL β (yD args ob) s:=⟨fun k hk=>hob k hk,fun k hk=>(hβk k hk).symm⟩
 obtain ⟨ok,hok⟩:∃ ok:Nat→Prop,ok=fun b=>w.heap.size≤b∨Imm J w β s b∨∃ k∈kl,β (g k)=some b:=⟨_,rfl⟩
 obtain ⟨I0,hI0⟩:∃ I0:Nat→Prop,I0=Imm { ok:=ok } w βL (yD args ob):=⟨_,rfl⟩
 have himm:∀ b,Imm J w β s b→I0 b:=fun b hb=>by
  subst hI0;refine ⟨hb.1,by rw [hok];exact .inr (.inl hb),fun id hl e=>?_⟩;have hk:=hkmem id (zX.mine_ne hl);rw [hβk id hk] at e;exact hb.2.2 (g id) (hminS id hk) e
 have himmB:∀ b,I0 b→Imm J w β s b:=fun b hb=>by
  subst hI0;obtain ⟨h1,h2,h3⟩:=hb;have h2' : ok b:=h2;rw [hok] at h2';rcases h2' with h2'|h2'|⟨k,hk,e⟩
  ·omega
  ·exact h2'
  ·exact absurd ((hβk k hk).trans e) (h3 k (hmine k hk))
 let J' : JJ:={ ok:=ok,K:=fun b=>b<w.heap.size∧∀ k∈kl,β (g k)≠some b,h0:=fun b=>w.heap[b]?,gh:=fun v f=>VR w I0 βL (yD args ob) v f∧∀ id ver,(id,ver)∈f.hands→zB≤id∧ver≤((yD args ob).ob id).ver }
 have hJ:Imm J' w βL (yD args ob)=I0:=by rw [hI0];rfl
 have hvb:∀ k∈kl,(look {} ob k).life=.hrow→∀ f∈(look {} ob k).es.flatten,∀ i ver,(i,ver)∈f.hands→ver≤((yD args ob).ob i).ver:=fun k hk hl f hf i ver hm=>by
  have hO:=(h.obj (g k) (hlive k hk)).rowH (by rw [hob k hk,zn.ren_life,hl];rfl) (by rw [hob k hk,zn.ren_life,hl];rfl);have hi:=zn.cl_get (hcl k hk) hl hf hm;rw [← S.ver hi];have hf' : f.ren g∈(s.ob (g k)).es.flatten:=by
   rw [hob k hk,zn.ren_h hl];show f.ren g∈((look {} ob k).es.map fun r=>r.map (FV.ren g)).flatten;rw [xo];exact List.mem_map.2 ⟨f,hf,rfl⟩
  refine hO.vers _ hf' (g i) ver ?_;obtain ⟨v,us,r1,r2,r3,r4⟩:=hO.row;obtain ⟨j,hj,ej⟩:=List.getElem_of_mem hf';have hju:j<us.length:=by rw [r3];exact hj
  exact zbF (r4 j us[j] _ (by simp [hju]) (by rw [List.getElem?_eq_getElem hj,ej])) hm
 refine ⟨J',βL,?_,?_⟩
 ·refine { size:=?_,defers:=rfl,bel:=h.bel,fresh0:=fun b hb=>?_,slot:=fun d=>?_,vers:=fun d id ver hm=>?_,obj:=fun id hl=>?_,inj:=fun id id' b hl hl' e e'=>?_,kept:=fun b hb=>⟨hb.1,fun id hl e=>?_,rfl⟩,gh:=fun v f hg=>by rw [hJ];exact hg }
  ·simpa using hvl
  ·show ok b∨(b<w.heap.size∧∀ k∈kl,β (g k)≠some b)
   rw [hok];by_cases h1:w.heap.size≤b
   ·exact .inl (.inl h1)
   ·by_cases h2:∃ k∈kl,β (g k)=some b
    ·exact .inl (.inr (.inr h2))
    ·exact .inr ⟨by omega,fun k hk e=>h2 ⟨k,hk,e⟩⟩
  ·rw [XI,hJ];rcases Nat.lt_or_ge d args.length with hd|hd
   ·have hd' : d<vs.length:=by rw [hvl];exact hd
    have e1:args.getD d .undef=args[d]:=by simp [hd]
    have e2:vs.toArray.getD d undef=vs[d]:=by simp [hd']
    rw [e1];show VR w I0 βL _ (vs.toArray.getD d undef) _;rw [e2];exact S.bwd himm (fun id ver hm=>FV.cl_get (hca _ (List.getElem_mem hd)) hm) (hv d _ _ (by simp [hd']) (by simp [hd]))
   ·have e1:args.getD d .undef=.undef:=by simp [hd]
    rw [e1];exact VR.of_rd (.undef _) rfl
  ·rw [XI] at hm;rcases Nat.lt_or_ge d args.length with hd|hd
   ·have e1:args.getD d .undef=args[d]:=by simp [hd]
    rw [e1] at hm;have hi:=FV.cl_get (hca _ (List.getElem_mem hd)) hm;rw [← S.ver hi];exact hvv _ (List.getElem_mem hd) (g id) ver (zbF (hv d (vs[d]'(by rw [hvl];exact hd)) _ zc (by simp [hd])) hm)
   ·have e1:args.getD d .undef=.undef:=by simp [hd]
    rw [e1] at hm;cases hm
  ·rw [hJ];have hk:=hkmem id hl;exact S.obB himm hk (zn.cl_nm (hcl id hk)) (fun hh f hf i ver hm=>zn.cl_get (hcl id hk) hh hf hm) (fun hh=>hvb id hk hh) (h.obj (g id) (hlive id hk))
  ·have hk:=hkmem id hl;have hk':=hkmem id' hl';rw [hβk id hk] at e;rw [hβk id' hk'] at e';have h1:=h.inj (g id) (g id') b (hlive id hk) (hlive id' hk') e e';have q1:=yW (β:=β) (β':=fun k=>some k) hndl hk;have q2:=yW (β:=β) (β':=fun k=>some k) hndl hk';rw [h1] at q1;rw [q1] at q2;injection q2
  ·have hk:=hkmem id hl;rw [hβk id hk] at e;exact hb.2 id hk e
 ·intro w' res ob' β' v F p1 p2 p3 p4;have hS:∀ k,(⟨[(0,res)],ob'⟩:FSt).ob k=look {} ob' k:=fun _=>rfl;have hsm:∀ k∈kl++ex,(⟨s.t,zan g (kl++ex) ob'++s.o⟩:FSt).ob (g k)=(look {} ob' k).ren g:=fun k hk=>zdm hnd k hk;have hso:∀ id,(∀ k∈kl++ex,g k≠id)→(⟨s.t,zan g (kl++ex) ob'++s.o⟩:FSt).ob id=s.ob id:=fun id hk=>zdn hk;have S2:Shr g (fun k=>k∈kl++ex) β' (za4 g (kl++ex) β β') ⟨[(0,res)],ob'⟩ ⟨s.t,zan g (kl++ex) ob'++s.o⟩:=⟨hsm,fun k hk=>yW hnd hk⟩
  have hmine' : ∀ k∈kl++ex,(look {} ob' k).life≠.dead→(look {} ob' k).life.mine=true:=fun k hk hl=>by
   rcases List.mem_append.1 hk with hk|hk
   ·exact (p1 k hk hl).1
   ·exact (p2 k hk).2 hl
  have himm2:∀ b,Imm J' w' β' ⟨[(0,res)],ob'⟩ b→Imm J w' (za4 g (kl++ex) β β') ⟨s.t,zan g (kl++ex) ob'++s.o⟩ b:=fun b hb=>by
   obtain ⟨h1,h2,h3⟩:=hb;have h2' : ok b:=h2;rw [hok] at h2';have hbase:J b:=by
    rcases h2' with h2'|h2'|⟨k,hk,e⟩
    ·exact h.fresh b (Nat.le_trans h.bel.size h2') (.inl h2')
    ·exact h2'.2.1
    ·exact h.fresh b ((h.obj _ (hlive k hk)).lt e).1 (.inr ⟨_,hlive k hk,e⟩)
   refine ⟨h1,hbase,fun id hl e=>?_⟩;by_cases hx:∃ k∈kl++ex,g k=id
   ·obtain ⟨k,hk,rfl⟩:=hx;rw [hsm k hk,zn.ren_life] at hl;rw [yW hnd hk] at e;exact h3 k hl e
   ·have hx' : ∀ k∈kl++ex,g k≠id:=fun k hk e=>hx ⟨k,hk,e⟩;rw [hso id hx'] at hl;rw [xH hx'] at e;rcases h2' with h2'|h2'|⟨k,hk,e2⟩
    ·have:=((h.obj id (zX.mine_ne hl)).lt e).2;omega
    ·exact h2'.2.2 id hl e
    ·exact hx' k (by simp [hk]) (h.inj _ _ b (hlive k hk) (zX.mine_ne hl) e2 e)
  have hK:∀ b,b<w.heap.size→(∀ k∈kl,β (g k)≠some b)→w'.heap[b]? = w.heap[b]?∧b<w'.heap.size∧∀ k,(look {} ob' k).life≠.dead→β' k≠some b:=fun b h1 h2=>by
   obtain ⟨k1,k2,k3⟩:=F.kept b ⟨h1,h2⟩;exact ⟨k3,k1,fun k hl=>k2 k hl⟩
  have hI:∀ b,Imm J w β s b→Imm J w' (za4 g (kl++ex) β β') ⟨s.t,zan g (kl++ex) ob'++s.o⟩ b∧w'.heap[b]? = w.heap[b]?:=fun b hb=>by
   obtain ⟨k1,k2,k3⟩:=hK b hb.1 fun k hk=>hb.2.2 (g k) (hminS k hk);refine ⟨⟨k2,hb.2.1,fun id hl e=>?_⟩,k1⟩;by_cases hx:∃ k∈kl++ex,g k=id
   ·obtain ⟨k,hk,rfl⟩:=hx;rw [hsm k hk,zn.ren_life] at hl;rw [yW hnd hk] at e;exact k3 k (zX.mine_ne hl) e
   ·have hx' : ∀ k∈kl++ex,g k≠id:=fun k hk e=>hx ⟨k,hk,e⟩;rw [hso id hx'] at hl;rw [xH hx'] at e;exact hb.2.2 id hl e
  have hgh:∀ v f,VR w I0 βL (yD args ob) v f→(∀ id ver,(id,ver)∈f.hands→zB≤id∧ver≤((yD args ob).ob id).ver)→VR w' (Imm J' w' β' ⟨[(0,res)],ob'⟩) β' ⟨[(0,res)],ob'⟩ v f∧∀ id ver,(id,ver)∈f.hands→ver≤(look {} ob' id).ver:=fun v f h1 h2=>by
   obtain ⟨k1,k2⟩:=F.gh v f ⟨h1,h2⟩;exact ⟨k1,fun id ver hm=>(k2 id ver hm).2⟩
  have hone:∀ k∈kl,∃ v f,VR w I0 βL (yD args ob) v f∧f.hands=[(k,(look {} ob k).ver)]:=fun k hk=>by
   have hO:=S.obB (I1:=I0) (I2:=Imm J w β s) himm hk (zn.cl_nm (hcl k hk)) (fun hh f hf i ver hm=>zn.cl_get (hcl k hk) hh hf hm) (fun hh=>hvb k hk hh) (h.obj (g k) (hlive k hk));have hO' : ObR w w0.heap.size I0 βL (yD args ob) (βL k) (look {} ob k):=hO;cases hs:(look {} ob k).life.slic with
   | false =>
    obtain ⟨b,clock,ents,e1,_⟩:=hO'.mapB hs;exact ⟨.map (some b),.omap k (look {} ob k).ver,fun _ _=>⟨hs,b,e1,rfl⟩,rfl⟩
   | true=>
    cases hb:βL k with
    | some b => exact ⟨.pointer (some ⟨b, 0 * (look {} ob k).sz+0, none⟩), .ptr k (look {} ob k).ver 0 0, fun _ _ => ⟨hs, b, hb, rfl⟩, rfl⟩
    | none =>
     refine ⟨.slice none 0 0,.own k (look {} ob k).ver 0 0,fun _ _=>⟨hs,none,0,rfl,Nat.le_refl _,by simp,fun _=>⟨rfl,rfl⟩,fun b e=>?_⟩,rfl⟩;rw [hb] at e;cases e
  have hverk:∀ k∈kl,(look {} ob k).ver≤(look {} ob' k).ver:=fun k hk=>by
   obtain ⟨v,f,h1,h2⟩:=hone k hk;refine (hgh v f h1 fun id ver hm=>?_).2 k _ (by rw [h2];simp);rw [h2] at hm;have hm':=List.mem_singleton.1 hm;injection hm' with e1 e2
   subst e1;subst e2;exact ⟨hge _ hk,Nat.le_refl _⟩
  have hbk:∀ k∈kl,(look {} ob' k).life≠.dead→(look {} ob' k).ver=(look {} ob k).ver→β' k=βL k:=fun k hk hl hvr=>by
   have hO:=S.obB (I1:=I0) (I2:=Imm J w β s) himm hk (zn.cl_nm (hcl k hk)) (fun hh f hf i ver hm=>zn.cl_get (hcl k hk) hh hf hm) (fun hh=>hvb k hk hh) (h.obj (g k) (hlive k hk));have hO' : ObR w w0.heap.size I0 βL (yD args ob) (βL k) (look {} ob k):=hO;have hge' : ∀ f:FV,f.hands=[(k,(look {} ob k).ver)]→∀ id ver,(id,ver)∈f.hands→zB≤id∧ver≤((yD args ob).ob id).ver:=fun f e id ver hm=>by
    rw [e] at hm;have hm':=List.mem_singleton.1 hm;injection hm' with e1 e2
    subst e1;subst e2;exact ⟨hge _ hk,Nat.le_refl _⟩
   cases hs:(look {} ob k).life.slic with
   | false =>
    obtain ⟨b,clock,ents,e1,_⟩:=hO'.mapB hs;obtain ⟨_,b',k2,k3⟩:=(hgh (.map (some b)) (.omap k (look ({}:zn) ob k).ver) (fun _ _=>⟨hs,b,e1,rfl⟩) (hge' _ rfl)).1 hl hvr;injection k3 with k3
    injection k3 with k3
    rw [k2,e1,k3]
   | true=>
    cases hb:βL k with
    | some b =>
     obtain ⟨_,b',k2,k3⟩:=(hgh (.pointer (some ⟨b,0 * (look {} ob k).sz+0,none⟩)) (.ptr k (look ({}:zn) ob k).ver 0 0) (fun _ _=>⟨hs,b,hb,rfl⟩) (hge' _ rfl)).1 hl hvr;injection k3 with k3
     injection k3 with k3
     injection k3 with k3 _ _
     rw [k2,k3]
    | none=>
     have:=(hgh (.slice none 0 0) (.own k (look ({}:zn) ob k).ver 0 0) (fun _ _=>⟨hs,none,0,rfl,Nat.le_refl _,by simp,fun _=>⟨rfl,rfl⟩,fun b e=>by
      have e' : βL k=some b:=e;rw [hb] at e';cases e'⟩) (hge' _ rfl)).1 hl hvr
     obtain ⟨A,c,e1,e2,e3,e4,e5⟩:=this.ex;cases hb' : β' k with
     | none => rfl
     | some b =>
      obtain ⟨o',e6,_⟩:=e5 b hb';injection e1 with e1 _ _
      rw [e6] at e1;cases e1
  have hdis:∀ k∈ex,k∉kl:=fun k hk hk'=>by
   rw [List.map_append] at hnd;exact (List.nodup_append.1 hnd).2.2 (g k) (List.mem_map.2 ⟨k,hk',rfl⟩) (g k) (List.mem_map.2 ⟨k,hk,rfl⟩) rfl
  have hout:∀ id,¬ (∃ k∈kl++ex,g k=id)→(s.ob id).life≠.dead→∀ b,β id=some b→w'.heap[b]? = w.heap[b]?∧∀ k,(look {} ob' k).life≠.dead→β' k≠some b:=fun id hx hl b e=>by
   have hx' : ∀ k∈kl++ex,g k≠id:=fun k hk e=>hx ⟨k,hk,e⟩;obtain ⟨k1,k2,k3⟩:=hK b ((h.obj id hl).lt e).2 fun k hk e2=>hx' k (by simp [hk]) (h.inj _ _ b (hlive k hk) hl e2 e);exact ⟨k1,k3⟩
  refine ⟨za4 g (kl++ex) β β',?_,?_,fun id ver hm=>?_⟩
  ·refine h.step (C:=fun id=>∃ k∈kl++ex,g k=id) h.size h.defers F.bel hI (fun k=>.inl ⟨rfl,rfl⟩) (fun id hC=>?_) (fun id hC=>?_) (fun id hC hl hvr=>?_) (fun id hC hl T=>?_) (fun id id' b hl hl' e e'=>?_) (fun b hlt hn=>?_)
   ·have hx' : ∀ k∈kl++ex,g k≠id:=fun k hk e=>hC ⟨k,hk,e⟩;exact ⟨hso id hx',xH hx',fun hl b e=>(hout id hC hl b e).1⟩
   ·obtain ⟨k,hk,rfl⟩:=hC;rw [hsm k hk,zn.ren_ver];rcases List.mem_append.1 hk with hk|hk
    ·rw [hob k hk,zn.ren_ver];exact hverk k hk
    ·exact Nat.le_of_lt (p2 k hk).1
   ·obtain ⟨k,hk,rfl⟩:=hC;rw [hsm k hk,zn.ren_life] at hl;rw [hsm k hk,zn.ren_ver] at hvr;rcases List.mem_append.1 hk with hk1|hk1
    ·have hvr' : (look {} ob' k).ver=(look {} ob k).ver:=by rw [hvr,hob k hk1,zn.ren_ver]
     have hb:=hbk k hk1 hl hvr';obtain ⟨q1,q2,q3⟩:=p1 k hk1 hl;refine ⟨hlive k hk1,by rw [yW hnd hk,hb,hβk k hk1],?_,?_,fun v o n hv=>?_⟩
     ·rw [hsm k hk,zn.ren_sz,q2,hob k hk1,zn.ren_sz]
     ·rw [hsm k hk,zn.ren_life,q3,hob k hk1,zn.ren_life]
     ·have h1:=(S.own hk1).1 hv;have h2:=(hgh v (.own k (look ({}:zn) ob k).ver o n) (fun _ _=>h1) (fun id ver hm=>by
       have hm':=List.mem_singleton.1 hm;injection hm' with e1 e2
       subst e1;subst e2;exact ⟨hge _ hk1,Nat.le_refl _⟩)).1 hl hvr'
      exact (S2.own hk).2 h2
    ·have:=(p2 k hk1).1;omega
   ·obtain ⟨k,hk,rfl⟩:=hC;rw [hsm k hk,zn.ren_life] at hl;exact S2.obF himm2 hk (zn.cl_nm (p3 k hk)) (fun hh f hf i ver hm=>zn.cl_get (p3 k hk) hh hf hm) (F.obj k hl)
   ·by_cases hx:∃ k∈kl++ex,g k=id
    ·obtain ⟨k,hk,rfl⟩:=hx;rw [hsm k hk,zn.ren_life] at hl;rw [yW hnd hk] at e;by_cases hx' : ∃ k∈kl++ex,g k=id'
     ·obtain ⟨k',hk',rfl⟩:=hx';rw [hsm k' hk',zn.ren_life] at hl';rw [yW hnd hk'] at e';rw [F.inj k k' b hl hl' e e']
     ·have hx2:∀ k∈kl++ex,g k≠id':=fun k hk e=>hx' ⟨k,hk,e⟩;rw [hso id' hx2] at hl';rw [xH hx2] at e';exact absurd e ((hout id' hx' hl' b e').2 k hl)
    ·have hx1:∀ k∈kl++ex,g k≠id:=fun k hk e=>hx ⟨k,hk,e⟩;rw [hso id hx1] at hl;rw [xH hx1] at e;by_cases hx' : ∃ k∈kl++ex,g k=id'
     ·obtain ⟨k',hk',rfl⟩:=hx';rw [hsm k' hk',zn.ren_life] at hl';rw [yW hnd hk'] at e';exact absurd e' ((hout id hx hl b e).2 k' hl')
     ·have hx2:∀ k∈kl++ex,g k≠id':=fun k hk e=>hx' ⟨k,hk,e⟩;rw [hso id' hx2] at hl';rw [xH hx2] at e';exact h.inj id id' b hl hl' e e'
   ·obtain ⟨k1,k2,k3⟩:=hK b hlt fun k hk=>hn (g k) (hlive k hk);refine ⟨k1,fun id hl e=>?_⟩;by_cases hx:∃ k∈kl++ex,g k=id
    ·obtain ⟨k,hk,rfl⟩:=hx;rw [hsm k hk,zn.ren_life] at hl;rw [yW hnd hk] at e;exact k3 k hl e
    ·have hx1:∀ k∈kl++ex,g k≠id:=fun k hk e=>hx ⟨k,hk,e⟩;rw [hso id hx1] at hl;rw [xH hx1] at e;exact hn id hl e
  ·exact S2.fwd himm2 (fun id ver hm=>FV.cl_get p4 hm) (F.slot 0)
  ·rcases zbG hm with ⟨k,hk,rfl⟩|h0
   ·have:=F.vers 0 k ver hk;rw [S2.ver (FV.cl_get p4 hk)];exact this
   ·rw [h0];exact Nat.zero_le _
structure YV (ob:List (Nat×zn)) (ex:List Nat) (res:FV) (o:Nat→zn):Prop where
 old:∀ k∈ob.map Prod.fst,(o k).life≠.dead→(o k).life.mine=true∧(o k).sz=(look {} ob k).sz∧(o k).life.slic=(look {} ob k).life.slic
 new:∀ k∈ex,0<(o k).ver∧((o k).life≠.dead→(o k).life.mine=true)
 cl:∀ k∈ob.map Prod.fst++ex,(o k).cl (ob.map Prod.fst++ex)=true
 res:res.cl (ob.map Prod.fst++ex)=true
structure yI (P:Program) (f:Nat) (args:List FV) (ob:List (Nat×zn)) (ex:List Nat) (Q:FV→(Nat→zn)→Prop):Prop where
 go:ziL P f=true
 post:∀ res o,Q res o→YV ob ex res o
 calls:∀ (w0:World) (J:JJ) (w:World) (β:Nat→Option Nat) (vs:List Value),FR args.length w0 J (yD args ob) ⟨vs.toArray,[]⟩ w β→
  Calls P f vs.toArray w fun e w'=>∃ v res ob' β',e=.returned v∧Q res (look {} ob')∧FR 1 w0 J ⟨[(0,res)],ob'⟩ ⟨#[v],[]⟩ w' β'
inductive zh9 (c:Ctx) (fn:Func) (s:FSt):FV→Prop where
 | tmp {t:Nat} {res:FV} (hr:fn.results.toList=[.tmp t]) (h:s.get t=res):zh9 c fn s res
 | plain {fs:List FV} {f:FV} (h:Uj c s fn.results.toList fs) (he:zaK fs=f) (hf:f.hand=none):zh9 c fn s f
 | pair {t u:Nat} {f g:FV} (hr:fn.results.toList=[.tmp t, .tmp u]) (h1:s.get t=f) (h2:s.get u=g) (hf:∀ k fs, f ≠ .wrap k fs) (hg:∀ k fs, g ≠ .wrap k fs):zh9 c fn s (.wrap .tup [f, g])
 | run {res:FV} (h:∀ (w0:World) (J:JJ) (a:Act) (w:World) (β:Nat → Option Nat), FR c.N w0 J s a w β → ∃ v, (results fn a.tmps).run c.P w=.ok v w ∧ VR w (Imm J w β s) β s v res ∧ ∀ id ver, (id, ver) ∈ res.hands → ver ≤ (s.ob id).ver):zh9 c fn s res
theorem VR.t {w:World} {I:Nat→Prop} {β:Nat→Option Nat} {t t2:List (Nat×FV)} {ob:List (Nat×zn)} {v:Value} {f:FV} (h:VR w I β ⟨t,ob⟩ v f):VR w I β ⟨t2,ob⟩ v f:=
 h.mono (fun b hb=>⟨hb,rfl⟩) (fun _ _ _ h1 h2=>⟨h1,h2,rfl,rfl,rfl,fun _ _ _ h=>h⟩)
theorem FR.slots {N N2:Nat} {w0 w:World} {J:JJ} {t t2:List (Nat×FV)} {ob:List (Nat×zn)} {a a2:Act} {β:Nat→Option Nat} (h:FR N w0 J ⟨t,ob⟩ a w β) (hs:a2.tmps.size=N2) (hd:a2.defers=J.ds)
  (hslot:∀ d,VR w (Imm J w β ⟨t,ob⟩) β ⟨t,ob⟩ (a2.tmps.getD d undef) ((⟨t2,ob⟩:FSt).get d)∧∀ id ver,(id,ver)∈((⟨t2,ob⟩:FSt).get d).hands→ver≤((⟨t,ob⟩:FSt).ob id).ver):FR N2 w0 J ⟨t2,ob⟩ a2 w β where
 size:=hs
 defers:=hd
 bel:=h.bel
 fresh0:=h.fresh0
 slot d:=(hslot d).1.t
 vers d id ver hm:=(hslot d).2 id ver hm
 obj id hl:=(h.obj id hl).mono (fun b hb=>⟨hb,rfl⟩) (fun _ _=>rfl) (fun _ _ hv _=>hv.t) (fun _=>Nat.le_refl _)
 inj:=h.inj
 kept:=h.kept
 gh v f hg:=⟨(h.gh v f hg).1.t,(h.gh v f hg).2⟩
theorem VR.plain {w:World} {I:Nat→Prop} {β:Nat→Option Nat} {s:FSt} {v:Value} {f:FV} (h:Rd w I v f) (hf:f.hand=none) {s2:FSt}:VR w I β s2 v f∧∀ id ver,(id,ver)∈f.hands→ver≤(s.ob id).ver:=
 ⟨VR.of_rd h hf,fun _ _ hm=>(FV.no_hands hf hm).elim⟩
theorem yI.of_body {c:Ctx} {f:Nat} {fn:Func} {code:Code} (hf:zjq c f fn code) {args:List FV} {ob:List (Nat×zn)} {ex:List Nat} {Q:FV→(Nat→zn)→Prop} (hl:args.length≤c.N) (hp:∀ res o,Q res o→YV ob ex res o)
  (h:FW c code (fun e s=>(e=.ret∨e=.normal)∧∃ res,zh9 c fn s res∧Q res (look {} s.o)) (yD args ob)):yI c.P f args ob ex Q where
 go:=hf.g
 post:=hp
 calls w0 J w β vs hF:=by
  have hvl:vs.length=args.length:=by simpa using hF.size
  refine calls_of_wp hf.at_ hf.b ?_;rw [hf.n];have hE:FR c.N w0 J (yD args ob) { tmps:=vs.toArray++Array.replicate (c.N - vs.toArray.size) undef,defers:=[] } w β:=by
   refine hF.slots (t2:=(yD args ob).t) zI hF.defers fun d=>?_;rcases Nat.lt_or_ge d args.length with hd|hd
   ·have e2:(vs.toArray++Array.replicate (c.N - vs.toArray.size) undef).getD d undef=vs.toArray.getD d undef:=by
     rw [Array.getD_eq_getD_getElem?,Array.getElem?_append_left zI,← Array.getD_eq_getD_getElem?]
    refine ⟨?_,fun id ver hm=>hF.vers d id ver hm⟩;dsimp only;rw [e2];exact hF.slot d
   ·have e1:(⟨(yD args ob).t,ob⟩:FSt).get d=.undef:=by
     have:=XI args ob d;have e3:args.getD d .undef=.undef:=by simp [hd]
     rw [e3] at this;exact this
    rw [e1];exact VR.plain (.undef _) rfl
  refine wp_mono (Wf c.mixed (h w0 J _ w β hE)) ?_;rintro e a' w' ⟨⟨t',ob'⟩,β',⟨he,res,hr,hq⟩,hF'⟩;have hres:∃ v,(results fn a'.tmps).run c.P w'=.ok v w'∧VR w' (Imm J w' β' ⟨t',ob'⟩) β' ⟨t',ob'⟩ v res∧∀ id ver,(id,ver)∈res.hands→ver≤((⟨t',ob'⟩:FSt).ob id).ver:=by
   cases hr with
   | @tmp t res hr h =>
    have hra:fn.results=#[.tmp t]:=by apply Array.ext';simpa using hr
    subst h;exact ⟨_,results_tmp hra _ _ _,hF'.slot t,hF'.vers t⟩
   | run h => exact h _ _ _ _ _ hF'
   | plain h he hfl =>
    obtain ⟨v,h1,h2⟩:=YQ hF' fn h;rw [he] at h2;exact ⟨v,h1,VR.plain h2 hfl⟩
   | @pair t u f g hr h1 h2 hf hg=>
    subst h1;subst h2;have hra:fn.results=#[.tmp t,.tmp u]:=by apply Array.ext';simpa using hr
    refine ⟨.tuple #[a'.tmps.getD t undef,a'.tmps.getD u undef],?_,⟨[a'.tmps.getD t undef,a'.tmps.getD u undef],rfl,rfl,fun j x y hx hy=>?_⟩,fun id ver hm=>?_⟩
    ·unfold results;rw [hra];simp
    ·match j with
     | 0 => injection hx with hx; injection hy with hy; subst hx; subst hy; exact (hF'.slot t).to1 hf
     | 1 => injection hx with hx; injection hy with hy; subst hx; subst hy; exact (hF'.slot u).to1 hg
     | j+2 => simp at hx
    ·obtain ⟨q,hq,e⟩:=List.mem_filterMap.1 hm;simp only [List.mem_cons,List.not_mem_nil,or_false] at hq;rcases hq with rfl|rfl
     ·exact hF'.vers t id ver (FV.hand_hands hf e)
     ·exact hF'.vers u id ver (FV.hand_hands hg e)
  obtain ⟨v,h1,h2,h3⟩:=hres;have key:a'.defers=[]∧∃ v,(results fn a'.tmps).run c.P w'=.ok v w'∧∃ v' res ob' β',Ending.returned v=.returned v'∧Q res (look {} ob')∧FR 1 w0 J ⟨[(0,res)],ob'⟩ ⟨#[v'],[]⟩ w' β':=by
   refine ⟨hF'.defers.trans hF.defers.symm,v,h1,v,res,ob',β',rfl,hq,hF'.slots rfl hF.defers fun d=>?_⟩;cases d with
   | zero => exact ⟨h2, h3⟩
   | succ d => exact VR.plain (.undef _) rfl
  rcases he with rfl|rfl
  ·exact key
  ·exact key
def gOf (π:List (Nat×Nat)) (k:Nat):Nat:=look 0 π k
inductive zF (o:List (Nat×zn)) (g:Nat→Nat):List (Nat×zn)→Prop where
 | nil:zF o g []
 | cons {k:Nat} {b:zn} {l:List (Nat × zn)} (h:look {} o (g k)=b.ren g) (hm:b.life.mine=true) (hg:Nat.ble zB k=true) (hs:zF o g l):zF o g ((k, b) :: l)
theorem zF.get {o:List (Nat×zn)} {g:Nat→Nat} {l:List (Nat×zn)} (h:zF o g l):∀ k∈l.map Prod.fst,look {} o (g k)=(look {} l k).ren g∧(look {} l k).life.mine=true∧zB≤k:=by
 induction h with
 | nil => intro k hk; cases hk
 | @cons k b l h hm hg hs ih=>
  intro q hq;rw [zE];by_cases hqk:k=q
  ·subst hqk;rw [if_pos rfl];exact ⟨h,hm,Nat.le_of_ble_eq_true hg⟩
  ·rw [if_neg hqk];rcases List.mem_cons.1 hq with e|e
   ·exact absurd e.symm hqk
   ·exact ih q e
section
variable {c:Ctx} {w0 w:World} {J:JJ} {a:Act} {β:Nat→Option Nat} {t:List (Nat×FV)} {ob:List (Nat×zn)}
theorem zap (h:FR c.N w0 J ⟨t,ob⟩ a w β) {f:Nat} {args:List FV} {obl:List (Nat×zn)} {ex:List Nat} {Q:FV→(Nat→zn)→Prop} (hs:yI c.P f args obl ex Q) (g:Nat→Nat) (hob:zF ob g obl)
  (hnd:((obl.map Prod.fst++ex).map g).Nodup) (hcl:obl.all (fun p=>(look {} obl p.1).cl (obl.map Prod.fst))=true) (hca:args.all (FV.cl (obl.map Prod.fst))=true) (hex:∀ k∈ex,((⟨t,ob⟩:FSt).ob (g k)).ver=0) {vs:List Value}
  (hvl:vs.length=args.length) (hv:∀ (j:Nat) u x,vs[j]? = some u→args[j]? = some x→VR w (Imm J w β ⟨t,ob⟩) β ⟨t,ob⟩ u (x.ren g)) (hvv:∀ x∈args,∀ id ver,(id,ver)∈(x.ren g).hands→ver≤((⟨t,ob⟩:FSt).ob id).ver) :
  Calls c.P f vs.toArray w fun e w'=>∃ v res ob' β',e=.returned v∧Q res (look {} ob')∧FR c.N w0 J ⟨t,zan g (obl.map Prod.fst++ex) ob'++ob⟩ a w' β'∧
   VR w' (Imm J w' β' ⟨t,zan g (obl.map Prod.fst++ex) ob'++ob⟩) β' ⟨t,zan g (obl.map Prod.fst++ex) ob'++ob⟩ v (res.ren g)∧∀ id ver,(id,ver)∈(res.ren g).hands→ver≤((⟨t,zan g (obl.map Prod.fst++ex) ob'++ob⟩:FSt).ob id).ver:=by
 have hG:=hob.get;obtain ⟨J',βL,hE,hB⟩:=h.lend (args:=args) (ob:=obl) (g:=g) (kl:=obl.map Prod.fst) (ex:=ex) rfl (fun k hk=>(hG k hk).1) (fun k hk=>(hG k hk).2.1) (fun k hk=>(hG k hk).2.2) hnd
  (fun k hk=>by obtain ⟨p,hp,rfl⟩:=List.mem_map.1 hk;exact List.all_eq_true.1 hcl p hp) (fun x hx=>List.all_eq_true.1 hca x hx) hvv hvl hv
 refine (hs.calls w0 J' w βL vs hE).mono ?_;rintro e w' ⟨v,res,ob',β',rfl,hq,hF⟩;have hp:=hs.post res _ hq;obtain ⟨β'',k1,k2,k3⟩:=hB w' res ob' β' v hF hp.old (fun k hk=>⟨by rw [hex k hk];exact (hp.new k hk).1,(hp.new k hk).2⟩) hp.cl hp.res;exact ⟨v,res,ob',β'',rfl,hq,k1,k2,k3⟩
theorem zic (h:FR c.N w0 J ⟨t,ob⟩ a w β) {xs:List Operand} {args:List FV} {g:Nat→Nat} (hx:xs.map (⟨t,ob⟩:FSt).ev=args.map (FV.ren g)):(xs.map a.eval).length=args.length∧
  (∀ (j:Nat) u x,(xs.map a.eval)[j]? = some u→args[j]? = some x→VR w (Imm J w β ⟨t,ob⟩) β ⟨t,ob⟩ u (x.ren g))∧∀ x∈args,∀ id ver,(id,ver)∈(x.ren g).hands→ver≤((⟨t,ob⟩:FSt).ob id).ver:=by
 have hl:xs.length=args.length:=by have:=congrArg List.length hx;simpa using this
 have hj:∀ (j:Nat) y x,xs[j]? = some y→args[j]? = some x→(⟨t,ob⟩:FSt).ev y=x.ren g:=fun j y x hy hxx=>by
  have:=congrArg (fun l=>l[j]?) hx;simp only [List.getElem?_map,hy,hxx,Option.map_some,Option.some.injEq] at this;exact this
 refine ⟨by simpa using hl,fun j u x hu hxx=>?_,fun x hxx id ver hm=>?_⟩
 ·rw [List.getElem?_map] at hu;cases hy:xs[j]? with
  | none => rw [hy] at hu; cases hu
  | some y =>
   rw [hy] at hu;injection hu with hu
   subst hu;rw [← hj j y x hy hxx];exact h.ev y
 ·obtain ⟨j,hjl,rfl⟩:=List.getElem_of_mem hxx;have hjx:j<xs.length:=by rw [hl];exact hjl
  rw [← hj j xs[j] args[j] (by simp [hjx]) zc] at hm;exact h.evers _ hm
end
theorem FR.putD {N:Nat} {w0 w:World} {J:JJ} {s:FSt} {a:Act} {β:Nat→Option Nat} (h:FR N w0 J s a w β) {dst:Option Nat} {v:Value} {f:FV} (hd:∀ d,dst=some d→d<N) (hv:VR w (Imm J w β s) β s v f) (hver:∀ id ver,(id,ver)∈f.hands→ver≤(s.ob id).ver) :
  FR N w0 J (s.putD dst f) (a.put dst v) w β:=by
 cases dst with
 | none => exact h
 | some d => exact h.put (hd d rfl) hv hver
section
variable {c:Ctx} {ops:Array Oper} {rest:List Oper} {t:List (Nat×FV)} {ob:List (Nat×zn)} {dst:Option Nat} {ty:TypeId} {pos:String} {af:Array Edge} {gd:Option (Nat×Bool)} {QS:FSt→Prop}
def ndB:List Nat→Bool
 | [] => true
 | x :: l => (l.all fun y => !Nat.beq x y) && ndB l
theorem Xl:∀ {l:List Nat},ndB l=true→l.Nodup
 | [], _ => List.nodup_nil
 | x :: l, h => by
  simp only [ndB,Bool.and_eq_true] at h;refine List.nodup_cons.2 ⟨fun hx=>?_,Xl h.2⟩;have:=List.all_eq_true.1 h.1 x hx;simp at this
def yH (c:Ctx) (ops:Array Oper) (rest:List Oper) (dst:Option Nat) (t:List (Nat×FV)) (ob:List (Nat×zn)) (π:List (Nat×Nat)) (ks:List Nat) (QS:FSt→Prop) (res:FV) (ob' : List (Nat×zn)):Prop:=
 ∃ r l,res.ren (gOf π)=r∧zan (gOf π) ks ob'=l∧zi c ops rest (FSt.putD ⟨t,l++ob⟩ dst r) QS
theorem yH.one {d:Nat} {π:List (Nat×Nat)} {ks:List Nat} {res:FV} {ob' : List (Nat×zn)} (l:List (Nat×zn)) (r:FV) (h1:res.ren (gOf π)=r) (h2:zan (gOf π) ks ob'=l) (h:zi c ops rest ⟨(d,r)::t,l++ob⟩ QS):yH c ops rest (some d) t ob π ks QS res ob':=⟨r,l,h1,h2,h⟩
def zcK (N:Nat):Option Nat→Bool
 | some d => Nat.blt d N
 | none => true
theorem zat {N:Nat} {dst:Option Nat} (h:zcK N dst=true):∀ d,dst=some d→d<N:=by rintro d rfl;exact Nat.le_of_ble_eq_true h
theorem xe {f:Nat} {xs:List Operand} {ts:Array TypeId} {args:List FV} {obl:List (Nat×zn)} {ex:List Nat} {Q:FV→(Nat→zn)→Prop} (hs:yI c.P f args obl ex Q) (π:List (Nat×Nat)) (hx:xs.map (⟨t,ob⟩:FSt).ev=args.map (FV.ren (gOf π)))
  (hob:zF ob (gOf π) obl) (hnd:ndB ((obl.map Prod.fst++ex).map (gOf π))=true) (hcl:obl.all (fun p=>(look {} obl p.1).cl (obl.map Prod.fst))=true) (hca:args.all (FV.cl (obl.map Prod.fst))=true) (hex:ex.all (fun k=>Nat.beq ((⟨t,ob⟩:FSt).ob (gOf π k)).ver 0)=true)
  (hd:zcK c.N dst=true) (hw:zM ops ⟨t,ob⟩ (⟨dst,.call { callee:=.value (.func f),args:=xs.toArray,argTypes:=ts },ty,pos,af,gd⟩:Oper) true)
  (k:∀ res ob',Q res (look {} ob')→yH c ops rest dst t ob π (obl.map Prod.fst++ex) QS res ob') :
  zi c ops ((⟨dst,.call { callee:=.value (.func f),args:=xs.toArray,argTypes:=ts },ty,pos,af,gd⟩:Oper)::rest) ⟨t,ob⟩ QS:=fun QQ w0 J a w β hQ hF=>by
 unfold wpList;rw [if_pos (hw.model hF)];refine .inl ?_;obtain ⟨h1,h2,h3⟩:=zic hF hx;have hc:=zap hF hs (gOf π) hob (Xl hnd) hcl hca (fun k hk=>Nat.eq_of_beq_eq_true (List.all_eq_true.1 hex k hk)) h1 h2 h3;have hmap:(xs.map a.eval).toArray=xs.toArray.map a.eval:=by apply Array.ext';simp
 rw [hmap] at hc;unfold Oper.wp;have hrun:(execOp a.eval ⟨dst,.call { callee:=.value (.func f),args:=xs.toArray,argTypes:=ts },ty,pos,af,gd⟩).run c.P w=.ok (.enter f (xs.toArray.map a.eval)) w:=by
  have:=yS (P:=c.P) hs.go (xs.toArray.map a.eval) w;simp [execOp,resolve,Act.eval,Deferred.ofValue,invoke] at this ⊢;exact this
 rw [hrun,Oper.upon_enter];refine hc.mono ?_;rintro e w' ⟨v,res,ob',β',rfl,hq,k1,k2,k3⟩;obtain ⟨r,l,e1,e2,hk⟩:=k res ob' hq;subst e1;subst e2;exact hk QQ w0 J _ w' β' hQ (k1.putD (zat hd) k2 k3)
theorem zb4 {f:Nat} {x:Operand} {xs:List Operand} {ts:Array TypeId} {args caps:List FV} {obl:List (Nat×zn)} {ex:List Nat} {Q:FV→(Nat→zn)→Prop} (hxv:(⟨t,ob⟩:FSt).ev x=.wrap (.fn f) caps) (hs:yI c.P f args obl ex Q) (π:List (Nat×Nat)) (hx:xs.map (⟨t,ob⟩:FSt).ev++caps=args.map (FV.ren (gOf π)))
  (hob:zF ob (gOf π) obl) (hnd:ndB ((obl.map Prod.fst++ex).map (gOf π))=true) (hcl:obl.all (fun p=>(look {} obl p.1).cl (obl.map Prod.fst))=true) (hca:args.all (FV.cl (obl.map Prod.fst))=true) (hex:ex.all (fun k=>Nat.beq ((⟨t,ob⟩:FSt).ob (gOf π k)).ver 0)=true)
  (hd:zcK c.N dst=true) (hw:zM ops ⟨t,ob⟩ (⟨dst,.call { callee:=.value x,args:=xs.toArray,argTypes:=ts },ty,pos,af,gd⟩:Oper) true)
  (k:∀ res ob',Q res (look {} ob')→yH c ops rest dst t ob π (obl.map Prod.fst++ex) QS res ob') :
  zi c ops ((⟨dst,.call { callee:=.value x,args:=xs.toArray,argTypes:=ts },ty,pos,af,gd⟩:Oper)::rest) ⟨t,ob⟩ QS:=fun QQ w0 J a w β hQ hF=>by
 unfold wpList;rw [if_pos (hw.model hF)];refine .inl ?_;have hv:=hF.ev x;rw [hxv] at hv;obtain ⟨us,ev,hul,hur⟩:=hv;have ev' : a.eval x=.func (.func f) #[] us.toArray:=ev;have hl:(xs.map a.eval++us).length=args.length:=by
  have:=congrArg List.length hx;simp only [List.length_append,List.length_map] at this ⊢;omega
 have hxl:(xs.map (⟨t,ob⟩:FSt).ev).length=xs.length:=by simp
 have key:∀ (j:Nat) u y,(xs.map a.eval++us)[j]? = some u→args[j]? = some y→VR w (Imm J w β ⟨t,ob⟩) β ⟨t,ob⟩ u (y.ren (gOf π))∧∀ id ver,(id,ver)∈(y.ren (gOf π)).hands→ver≤((⟨t,ob⟩:FSt).ob id).ver:=fun j u y hu hy=>by
  have hj:=congrArg (fun l=>l[j]?) hx;simp only [List.getElem?_map,hy,Option.map_some] at hj;rcases Nat.lt_or_ge j xs.length with hlt|hge
  ·rw [List.getElem?_append_left (by simpa using hlt)] at hu;rw [List.getElem?_append_left (by simpa using hlt)] at hj;simp only [List.getElem?_map,List.getElem?_eq_getElem hlt,Option.map_some,Option.some.injEq] at hu hj;rw [← hj,← hu];exact ⟨hF.ev _,fun id ver hm=>hF.evers _ hm⟩
  ·rw [List.getElem?_append_right (by simpa using hge)] at hu;rw [List.getElem?_append_right (by simpa using hge)] at hj;simp only [List.length_map] at hu hj;have h1:=hur _ u _ hu hj;refine ⟨VR.of1 h1,fun id ver hm=>?_⟩;have hw1:∀ k fs,y.ren (gOf π)≠.wrap k fs:=fun k fs e=>by rw [e] at h1;have h2:Rd w (Imm J w β ⟨t,ob⟩) u (.wrap k fs):=h1;cases h2
   have hmem:y.ren (gOf π)∈caps:=List.mem_of_getElem? hj;refine hF.evers x (id:=id) (ver:=ver) ?_;rw [hxv];refine List.mem_filterMap.2 ⟨_,hmem,?_⟩;generalize y.ren (gOf π)=q at hm hw1;cases q with
   | own|ptr|omap => rw [List.mem_singleton.1 hm]; rfl
   | wrap k fs => exact absurd rfl (hw1 k fs)
   | _ => exact (FV.no_hands rfl hm).elim
 have hc:=zap hF hs (gOf π) hob (Xl hnd) hcl hca (fun k hk=>Nat.eq_of_beq_eq_true (List.all_eq_true.1 hex k hk)) hl (fun j u y hu hy=>(key j u y hu hy).1) (fun y hy id ver hm=>by
  obtain ⟨j,hj,rfl⟩:=List.getElem_of_mem hy;have hj2:j<(xs.map a.eval++us).length:=by rw [hl];exact hj
  exact (key j (xs.map a.eval++us)[j] args[j] zc zc).2 id ver hm)
 have hmap:(xs.map a.eval++us).toArray=xs.toArray.map a.eval++us.toArray:=by apply Array.ext';simp
 rw [hmap] at hc;unfold Oper.wp;have hrun:(execOp a.eval ⟨dst,.call { callee:=.value x,args:=xs.toArray,argTypes:=ts },ty,pos,af,gd⟩).run c.P w=.ok (.enter f (xs.toArray.map a.eval++us.toArray)) w:=by
  have:=yS (P:=c.P) hs.go (xs.toArray.map a.eval++us.toArray) w;simp [execOp,resolve,ev',Deferred.ofValue,invoke] at this ⊢;exact this
 rw [hrun,Oper.upon_enter];refine hc.mono ?_;rintro e w' ⟨v,res,ob',β',rfl,hq,k1,k2,k3⟩;obtain ⟨r,l,e1,e2,hk⟩:=k res ob' hq;subst e1;subst e2;exact hk QQ w0 J _ w' β' hQ (k1.putD (zat hd) k2 k3)
end
end Go.Proofs.Ytlnehfplfoikaaa
