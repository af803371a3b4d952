/-
  A range over a function, on plain values: the rounds are walked as code is everywhere; the iterator has a contract.
-/
import Derived.Test.YthjplkjpehdpfaaZC
import Derived.RangeFuncLeaves
import Derived.RangeFuncRecord
namespace Go.Proofs.Ythjplkjpehdpfaa
set_option linter.unusedVariables false
open Go.RowKit

section
variable {N : Nat} {w0 w : World} {J : JJ} {s : FSt} {a : Act} {β : Nat → Option Nat}
def JJ.turn (J : JJ) (D : Nat) (o : Obj) : JJ := { J with h0 := fun b => if b = D then some o else J.h0 b }
theorem FR.putK (h : FR N w0 J s a w β) {D : Nat} (hK : J.K D) (hok : ¬ J.ok D) (hD : w0.heap.size ≤ D) (o : Obj) : FR N w0 (J.turn D o) s a (w.putObj D o) β := by
 have hne : ∀ b, b ≠ D → (w.putObj D o).heap[b]? = w.heap[b]? := fun b hb => World.putObj_heap_other hb
 have hI : ∀ b, Imm J w β s b → Imm (J.turn D o) (w.putObj D o) β s b ∧ (w.putObj D o).heap[b]? = w.heap[b]? := fun b hb =>
  ⟨⟨by rw [World.putObj_size]; exact hb.1, hb.2.1, hb.2.2⟩, hne b fun e => hok (e ▸ hb.2.1)⟩
 have hown : ∀ id, (s.ob id).life ≠ .dead → ∀ b, β id = some b → (w.putObj D o).heap[b]? = w.heap[b]? := fun id hl b hb => hne b fun e => (h.kept D hK).2.1 id hl (e ▸ hb)
 have T : ∀ v f, VR w (Imm J w β s) β s v f → VR (w.putObj D o) (Imm (J.turn D o) (w.putObj D o) β s) β s v f := fun v f hv =>
  hv.mono hI fun id ver _ h1 h2 => ⟨h1, h2, rfl, rfl, rfl, fun v o n hv => hv.mono (hown id h1)⟩
 exact { size := h.size, defers := h.defers, bel := ⟨h.bel.os, h.bel.tape, h.bel.output, by rw [World.putObj_size]; exact h.bel.size, fun k hk => (hne k (by omega)).trans (h.bel.block k hk)⟩,
         fresh0 := h.fresh0, slot := fun d => T _ _ (h.slot d), vers := h.vers,
         obj := fun id hl => (h.obj id hl).mono hI (hown id hl) (fun v f hv _ => T v f hv) (fun _ => Nat.le_refl _), inj := h.inj,
         kept := fun b hb => by
          obtain ⟨k1, k2, k3⟩ := h.kept b hb
          refine ⟨by rw [World.putObj_size]; exact k1, k2, ?_⟩
          show _ = if b = D then some o else J.h0 b
          by_cases e : b = D
          ·subst e; rw [if_pos rfl]; exact World.putObj_heap_same k1
          ·rw [if_neg e, hne b e]; exact k3
         gh := fun v f hg => ⟨T v f (h.gh v f hg).1, (h.gh v f hg).2⟩ }
def JJ.lay (J : JJ) (D : Nat) (o : Obj) : JJ := { J with ok := fun b => J.ok b ∧ b ≠ D, K := fun b => J.K b ∨ b = D, h0 := fun b => if b = D then some o else J.h0 b }
theorem FR.layK (h : FR N w0 J s a w β) (o : Obj) : FR N w0 (J.lay w.heap.size o) s a (w.alloc o) β := by
 have hlt : ∀ b, b < w.heap.size → (w.alloc o).heap[b]? = w.heap[b]? := fun b hb => Below.heap_alloc w o b hb
 have hsz : (w.alloc o).heap.size = w.heap.size + 1 := World.size_alloc ..
 have hI : ∀ b, Imm J w β s b → Imm (J.lay w.heap.size o) (w.alloc o) β s b ∧ (w.alloc o).heap[b]? = w.heap[b]? := fun b hb =>
  ⟨⟨by rw [hsz]; have := hb.1; omega, ⟨hb.2.1, by have := hb.1; omega⟩, hb.2.2⟩, hlt b hb.1⟩
 have hown : ∀ id, (s.ob id).life ≠ .dead → ∀ b, β id = some b → (w.alloc o).heap[b]? = w.heap[b]? := fun id hl b hb => hlt b ((h.obj id hl).lt hb).2
 have T : ∀ v f, VR w (Imm J w β s) β s v f → VR (w.alloc o) (Imm (J.lay w.heap.size o) (w.alloc o) β s) β s v f := fun v f hv =>
  hv.mono hI fun id ver _ h1 h2 => ⟨h1, h2, rfl, rfl, rfl, fun v o n hv => hv.mono (hown id h1)⟩
 exact { size := h.size, defers := h.defers, bel := h.bel.alloc h.bel.size o,
         fresh0 := fun b hb => by
          by_cases e : b = w.heap.size
          ·exact .inr (.inr e)
          ·exact (h.fresh0 b hb).imp (fun q => ⟨q, e⟩) .inl
         slot := fun d => T _ _ (h.slot d), vers := h.vers,
         obj := fun id hl => (h.obj id hl).mono hI (hown id hl) (fun v f hv _ => T v f hv) (fun _ => Nat.le_refl _), inj := h.inj,
         kept := fun b hb => by
          show _ ∧ _ ∧ _ = if b = w.heap.size then some o else J.h0 b
          rcases hb with hb | hb
          ·obtain ⟨k1, k2, k3⟩ := h.kept b hb
           exact ⟨by rw [hsz]; omega, k2, by rw [if_neg (by omega), hlt b k1]; exact k3⟩
          ·subst hb
           refine ⟨by rw [hsz]; omega, fun id hl e => ?_, by rw [if_pos rfl]; exact World.alloc_heap_new w o⟩
           have := ((h.obj id hl).lt e).2; omega
         gh := fun v f hg => ⟨T v f (h.gh v f hg).1, (h.gh v f hg).2⟩ }
theorem FR.withDs (h : FR N w0 J s a w β) {a' : Act} (ht : a'.tmps = a.tmps) : FR N w0 { J with ds := a'.defers } s a' w β where
 size := by rw [ht]; exact h.size
 defers := rfl
 bel := h.bel
 fresh0 := h.fresh0
 slot d := by rw [ht]; exact h.slot d
 vers := h.vers
 obj := h.obj
 inj := h.inj
 kept := h.kept
 gh := h.gh
theorem FR.bare {t : List (Nat × FV)} {I : Nat → Prop} (hI : ∀ b, I b → b < w.heap.size) (hs : a.tmps.size = N) (hd : a.defers = []) (h : ∀ d, Rd w I (a.tmps.getD d undef) (look .undef t d)) (hn : ∀ d, (look .undef t d).hand = none) :
  FR N w { ok := fun b => I b ∨ w.heap.size ≤ b } ⟨t, []⟩ a w (fun _ => none) where
 size := hs
 defers := hd
 bel := Below.refl _ _
 fresh0 b hb := .inl (.inr hb)
 slot d := VR.of_rd ((h d).mono fun b hb => ⟨⟨hI b hb, .inl hb, fun id _ => by simp⟩, rfl⟩) (hn d)
 vers d id ver hf := (FV.no_hands (hn d) hf).elim
 obj id hl := absurd rfl hl
 inj id id' b hl := absurd rfl hl
 kept b hb := hb.elim
 gh v f hg := hg.elim
end

structure zfq (P : Program) (l : Nat) (ys : List (List FV)) (caps : List FV) (lb : List Value) (J : Nat → World → Prop) : Prop where
 cap : ∀ k W, J k W → ∃ I : Nat → Prop, (∀ b, I b → b < W.heap.size) ∧ RdL W I lb caps
 grow : ∀ k W W', J k W → Below W.heap.size W W' → J k W'
 round : ∀ k W, k < ys.length → J k W → ∀ vs I, RdL W I vs (ys.getD k []) → ∃ fn tmps assign body, (Instr.yield l vs.toArray).run P W = .ok (.round l fn tmps assign body) W ∧
  RoundIn Fence.wide 0 P l fn tmps assign body W fun e W' => e = .returned (.bool true) ∧ J (k + 1) W'
structure zfo (P : Program) (gf : Nat) (caps : List FV) (ys : List (List FV)) : Prop where
 go : zfV P gf = true
 calls : ∀ (l : Nat) (lb : List Value) (J : Nat → World → Prop) (w : World), zfq P l ys caps lb J → J 0 w → CallsIn Fence.wide 0 P gf (#[.func (.yield l) #[] #[]] ++ lb.toArray) w fun e W' => (∃ v, e = .returned v) ∧ J ys.length W'

def GW (c : Ctx) (w0 : World) (J : JJ) (code : Code) (QQ : Exit → Act → World → Prop) (s : FSt) : Prop := ∀ (a : Act) (w : World) (β : Nat → Option Nat), FR c.N w0 J s a w β → code.wp c.P QQ a w
def zgR (c : Ctx) (w0 : World) (J : JJ) (QQ : Exit → Act → World → Prop) (e : Exit) (s : FSt) : Prop := ∀ (a : Act) (w : World) (β : Nat → Option Nat), FR c.N w0 J s a w β → QQ e a w
section
variable {c : Ctx} {w0 : World} {J : JJ} {QQ : Exit → Act → World → Prop} {s : FSt}
theorem GW.of {code : Code} (h : FW c code (zgR c w0 J QQ) s) : GW c w0 J code QQ s := fun a w β hF =>
 wp_mono (Zw c.mixed (h w0 J a w β hF)) fun e a w ⟨s', β', q, f⟩ => q a w β' f
theorem GW.seq {x y : Code} (h : FW c x (zfh (GW c w0 J y QQ) (zgR c w0 J QQ)) s) : GW c w0 J (.seq x y) QQ s := fun a w β hF =>
 wp_seq (wp_mono (Zw c.mixed (h w0 J a w β hF)) fun e a w ⟨s', β', q, f⟩ => by
  cases e <;> exact q a w β' f)
theorem GW.seqG {x y : Code} (h : GW c w0 J x (Exit.then (y.wp c.P QQ) QQ) s) : GW c w0 J (.seq x y) QQ s := fun a w β hF => wp_seq (h a w β hF)
theorem GW.block {id : Nat} {x : Code} (h : GW c w0 J x (Exit.inBlock id QQ) s) : GW c w0 J (.block id x) QQ s := fun a w β hF => wp_block (h a w β hF)
theorem GW.le {code : Code} {s' : FSt} (h : GW c w0 J code QQ s') (hs : FLe s s') : GW c w0 J code QQ s := fun a w β hF => let ⟨β', h1⟩ := hs _ _ _ _ _ _ hF; h a w β' h1
end

inductive Mk (w0 : World) (J : JJ) : JJ → Prop where
 | refl : Mk w0 J J
 | mark {J' : JJ} {D : Nat} (hD : w0.heap.size ≤ D) (hK : J'.K D) (h0 : J'.h0 D = some (.deferred (some []))) (hok : ¬ J'.ok D) (hs : ∀ b, J'.ok b → J.ok b) (hds : J'.ds = [{ target := .collected D, args := #[] }]) : Mk w0 J J'
def binds : List Nat → List FV → List (Nat × FV) → List (Nat × FV)
 | p :: ps, f :: fs, t => binds ps fs ((p, f) :: t)
 | _, _, t => t
def VK (a : Array Value) (l : List (Nat × Value)) : Array Value := l.foldl (fun t p => t.setIfInBounds p.1 p.2) a
theorem VL {d : Nat} : ∀ {l : List (Nat × Value)} {a : Array Value}, d ∉ l.map (·.1) → (VK a l).getD d undef = a.getD d undef
 | [], _, _ => rfl
 | p :: l, a, h => by
  show (VK (a.setIfInBounds p.1 p.2) l).getD d undef = _
  have hpd : p.1 ≠ d := fun e => h (by rw [← e]; exact List.mem_cons_self)
  rw [VL (fun q => h (List.mem_cons_of_mem _ q)), Array.getD_eq_getD_getElem?, Array.getD_eq_getD_getElem?, Array.getElem?_setIfInBounds_ne hpd]
theorem FR.puts {N : Nat} {w0 w : World} {J : JJ} {ob : List (Nat × zg)} {β : Nat → Option Nat} : ∀ {ps : List Nat} {vs : List Value} {fs : List FV} {t : List (Nat × FV)} {a : Act}, FR N w0 J ⟨t, ob⟩ a w β → (∀ p ∈ ps, p < N) → vs.length = ps.length → fs.length = ps.length →
  (∀ (j : Nat) u f, vs[j]? = some u → fs[j]? = some f → Rd w (fun _ => False) u f) → (∀ f ∈ fs, f.hand = none) → FR N w0 J ⟨binds ps fs t, ob⟩ ⟨VK a.tmps (ps.zip vs), a.defers⟩ w β
 | [], vs, fs, t, a, h, _, _, _, _, _ => by unfold binds; exact h
 | p :: ps, [], _, _, _, _, _, hv, _, _, _ => by simp at hv
 | p :: ps, _ :: _, [], _, _, _, _, _, hf, _, _ => by simp at hf
 | p :: ps, v :: vs, f :: fs, t, a, h, hp, hv, hf, hr, hn => by
  have h1 : FR N w0 J ⟨(p, f) :: t, ob⟩ (a.put (some p) v) w β := h.put (hp p (by simp)) (VR.of_rd ((hr 0 v f rfl rfl).mono fun b hb => hb.elim) (hn f (by simp))) (fun id ver e => (FV.no_hands (hn f (by simp)) e).elim)
  exact FR.puts (ps := ps) (vs := vs) (fs := fs) h1 (fun q hq => hp q (by simp [hq])) (by simpa using hv) (by simpa using hf) (fun j u g hu hg => hr (j + 1) u g (by simpa using hu) (by simpa using hg)) (fun g hg => hn g (by simp [hg]))
section
variable {c : Ctx} {w0 : World} {J : JJ} {QQ : Exit → Act → World → Prop}
theorem GW.range {t : List (Nat × FV)} {ob : List (Nat × zg)} {g : Operand} {ps : List Nat} {assign body : Code} {gf : Nat} {caps : List FV} {ys : List (List FV)} (hit : zfo c.P gf caps ys) (hds : J.ds = []) (hg : (⟨t, ob⟩ : FSt).ev g = .fn gf caps)
  (hgs : ∃ d, g = .tmp d) (hys : ∀ y ∈ ys, y.length = ps.length ∧ FV.flat.flats y = true) (hps : ∀ p ∈ ps, p < c.N) (inv : Nat → List (Nat × zg)) (h0 : FLe ⟨t, ob⟩ ⟨t, inv 0⟩)
  (hkeep : ∀ d, look FV.undef t d ≠ .undef → VH assign d = true ∧ VH body d = true ∧ d ∉ ps) (hta : zet assign = true) (htb : zet body = true)
  (round : ∀ k, k < ys.length → FW c assign (fun e s1 => e = .normal ∧ FW c body (fun e s' => e = .normal ∧ FLe s' ⟨t, inv (k + 1)⟩) s1) ⟨binds ps (ys.getD k []) t, inv k⟩)
  (done : ∀ J', Mk w0 J J' → ∀ (a : Act) (w : World) (β : Nat → Option Nat), FR c.N w0 J' ⟨t, inv ys.length⟩ a w β → QQ .normal a w) :
  GW c w0 J (.rangeFunc g ps.toArray assign body) QQ ⟨t, ob⟩ := by
 intro a w β hF
 obtain ⟨β, hF⟩ := h0 _ _ _ _ _ _ hF
 have had : a.defers = [] := hF.defers.trans hds
 obtain ⟨dg, rfl⟩ := hgs
 have hgt : (⟨t, inv 0⟩ : FSt).ev (.tmp dg) = .fn gf caps := hg
 obtain ⟨lb, hlb⟩ : ∃ lb : List Value, a.eval (.tmp dg) = .func (.func gf) #[] lb.toArray := by
  have hv := VR.rd (by have := hF.ev (.tmp dg); rwa [hgt] at this) rfl
  generalize a.eval (.tmp dg) = v at hv
  cases hv with
  | fn f us fs hul hur => exact ⟨us, rfl⟩
 have hrdcap : ∀ {J' : JJ} {ob' : List (Nat × zg)} {a' : Act} {w' : World} {β' : Nat → Option Nat}, a'.tmps = a.tmps → FR c.N w0 J' ⟨t, ob'⟩ a' w' β' → RdL w' (Imm J' w' β' ⟨t, ob'⟩) lb caps := by
  intro J' ob' a' w' β' ht hF'
  have hv := VR.rd (by have := hF'.ev (.tmp dg); rwa [show (⟨t, ob'⟩ : FSt).ev (.tmp dg) = .fn gf caps from hg] at this) rfl
  rw [show a'.eval (.tmp dg) = a.eval (.tmp dg) by show a'.tmps.getD dg undef = a.tmps.getD dg undef; rw [ht], hlb] at hv
  generalize he : Value.func (.func gf) #[] lb.toArray = v at hv
  cases hv with
  | fn f us fs hul hur =>
   injection he with _ _ he
   have he : lb = us := by have := congrArg Array.toList he; simpa using this
   subst he
   exact ⟨hul, hur⟩
 refine wpIn_wide.1 (wpIn_rangeFunc (n := 0) ?_)
 intro fn _
 obtain ⟨rec, hrec⟩ : ∃ rec : LoopState → Option Code → Loop, rec = fun st pe => { state := st, pending := pe, fn, tmps := a.tmps, params := ps.toArray, assign, body, defers := w.heap.size } := ⟨_, rfl⟩
 obtain ⟨D, hD⟩ : ∃ D, w.heap.size = D := ⟨_, rfl⟩
 obtain ⟨L, hL⟩ : ∃ L, w.heap.size + 1 = L := ⟨_, rfl⟩
 have hDL : D ≠ L := by omega
 have hD0 : w0.heap.size ≤ D := by have := hF.bel.size; omega
 have hL0 : w0.heap.size ≤ L := by omega
 have hF1 := (hF.layK (.deferred (some []))).layK (.loop (rec .ready none))
 rw [World.size_alloc, hL, hD] at hF1
 obtain ⟨J1, hJ1⟩ : ∃ J1, (J.lay D (.deferred (some []))).lay L (.loop (rec .ready none)) = J1 := ⟨_, rfl⟩
 rw [hJ1] at hF1
 have j1ds : J1.ds = [] := by rw [← hJ1]; exact hds
 have j1K : J1.K D ∧ J1.K L := by rw [← hJ1]; exact ⟨.inl (.inr rfl), .inr rfl⟩
 have j1ok : ¬ J1.ok D ∧ ¬ J1.ok L := by rw [← hJ1]; exact ⟨fun h => h.1.2 rfl, fun h => h.2 rfl⟩
 have j1s : ∀ b, J1.ok b → J.ok b := fun b hb => by rw [← hJ1] at hb; exact hb.1.1
 have j1D : J1.h0 D = some (.deferred (some [])) := by
  rw [← hJ1]; show (if D = L then _ else if D = D then _ else _) = _
  rw [if_neg hDL, if_pos rfl]
 let Jr := J1.turn L (.loop (rec .ready none))
 let Jb := J1.turn L (.loop { rec .ready none with state := .busy })
 have hturn : ∀ (o o' : Obj), (J1.turn L o).turn L o' = J1.turn L o' := fun o o' => by
  unfold JJ.turn; congr 1; funext b; dsimp only; by_cases e : b = L <;> simp [e]
 have hJr : J1 = Jr := by
  have hh : ∀ b, J1.h0 b = if b = L then some (.loop (rec .ready none)) else J1.h0 b := fun b => by
   by_cases e : b = L
   ·subst e; rw [if_pos rfl, ← hJ1]; exact if_pos rfl
   ·rw [if_neg e]
  exact congrArg (fun f => { J1 with h0 := f }) (funext hh)
 have h0L : ∀ o, (J1.turn L o).h0 L = some o := fun o => by show (if L = L then some o else _) = _; rw [if_pos rfl]
 let Inv : Nat → World → Prop := fun k W => ∃ β, FR c.N w0 Jr ⟨t, inv k⟩ ⟨a.tmps, []⟩ W β
 have hI0 : Inv 0 ((w.alloc (.deferred (some []))).alloc (.loop (rec .ready none))) := ⟨β, by rw [← hJr]; exact had ▸ hF1⟩
 have hRounds : zfq c.P L ys caps lb Inv := by
  refine ⟨fun k W ⟨β, hf⟩ => ⟨_, fun b hb => hb.1, hrdcap (a' := ⟨a.tmps, []⟩) rfl hf⟩, fun k W W' ⟨β, hf⟩ hb => ⟨β, hf.grow hb⟩, ?_⟩
  rintro k W hk ⟨β, hf⟩ vs I hvs
  have hyk : ys.getD k [] ∈ ys := by rw [List.getD_eq_getElem?_getD, List.getElem?_eq_getElem hk, Option.getD_some]; exact List.getElem_mem hk
  obtain ⟨hyl, hyf⟩ := hys _ hyk
  have hvl : vs.length = ps.length := hvs.1.trans hyl
  have hrecL : W.heap[L]? = some (.loop (rec .ready none)) := ((hf.kept L j1K.2).2.2).trans (h0L _)
  have hy := run_yield (P := c.P) (args := vs.toArray) hrecL (by rw [hrec]; simpa using hvl)
  have hzip : ((rec .ready none).params.zip vs.toArray).foldl (fun tmps (t, a) => tmps.setIfInBounds t a) (rec .ready none).tmps = VK a.tmps (ps.zip vs) := by
   rw [hrec]; simp [VK]
  rw [hzip, show (rec .ready none).fn = fn by rw [hrec], show (rec .ready none).assign = assign by rw [hrec], show (rec .ready none).body = body by rw [hrec]] at hy
  refine ⟨fn, _, assign, body, hy, roundIn_of_wpIn trivial ?_⟩
  have hfp := hf.puts (ps := ps) (vs := vs) (fs := ys.getD k []) hps hvl hyl (fun j u f hu hf' => (hvs.2 j u f hu hf').flat (FV.flats_get hyf j f hf') _ _) (fun f hf' => by
   obtain ⟨j, hj, rfl⟩ := List.getElem_of_mem hf'
   exact FV.flat_hand (FV.flats_get hyf j _ (by simp [hj])))
  have hA := xl (round k hk w0 Jr _ W β hfp)
  refine wpIn_mono (Xu c.mixed hta hA) ?_
  rintro e a1 w1 ⟨⟨s1, β1, ⟨rfl, hB⟩, hf1⟩, hk1⟩
  have hrec1 : w1.heap[L]? = some (.loop (rec .ready none)) := ((hf1.kept L j1K.2).2.2).trans (h0L _)
  refine ⟨_, run_beginRound hrec1 (by rw [hrec]), ?_⟩
  have hfb := hf1.putK (D := L) j1K.2 j1ok.2 hL0 (.loop { rec .ready none with state := .busy })
  rw [show Jr.turn L (.loop { rec .ready none with state := .busy }) = Jb from hturn _ _] at hfb
  have hBb := xl (hB w0 Jb a1 _ β1 hfb)
  refine wpIn_mono (Xu c.mixed htb hBb) ?_
  rintro e a2 w2 ⟨⟨s2, β2, ⟨rfl, hle⟩, hf2⟩, hk2⟩
  have hrec2 : w2.heap[L]? = some (.loop { rec .ready none with state := .busy }) := ((hf2.kept L j1K.2).2.2).trans (h0L _)
  obtain ⟨β3, hf3⟩ := hle _ _ _ _ _ _ hf2
  have hf4 := hf3.putK (D := L) j1K.2 j1ok.2 hL0 (.loop (rec .ready none))
  rw [show Jb.turn L (.loop (rec .ready none)) = Jr from hturn _ _] at hf4
  have hend := run_endRound (P := c.P) none hrec2
  refine ⟨_, _, hend, rfl, β3, ?_⟩
  have hw : w2.putObj L (.loop { ({ rec .ready none with state := .busy } : Loop) with state := if (none : Option Code).isNone then .ready else .done, pending := none }) = w2.putObj L (.loop (rec .ready none)) := by rw [hrec]; rfl
  rw [hw]
  refine hf4.slots (t2 := t) hf.size (show ([] : List Deferred) = J1.ds from j1ds.symm) fun d => ?_
  have hv := hf4.vers d
  refine ⟨?_, hv⟩
  by_cases hu : look FV.undef t d = .undef
  ·have : (⟨t, inv (k + 1)⟩ : FSt).get d = .undef := hu
   rw [this]
   exact VR.of_rd (.undef _) rfl
  ·obtain ⟨n1, n2, n3⟩ := hkeep d hu
   have e1 := hk1 d n1
   have e2 := hk2 d n2
   have e3 : (VK a.tmps (ps.zip vs)).getD d undef = a.tmps.getD d undef := VL (by
    rw [List.map_fst_zip (by omega)]; exact n3)
   have : a2.tmps.getD d undef = a.tmps.getD d undef := e2.trans (e1.trans e3)
   have hs := hf4.slot d
   rw [this] at hs
   exact hs
 refine ⟨L, [{ target := .collected D, args := #[] }], (w.alloc (.deferred (some []))).alloc (.loop (rec .ready none)), { target := .fn (.func gf) lb.toArray, args := #[.func (.yield L) #[] #[]] }, (w.alloc (.deferred (some []))).alloc (.loop (rec .ready none)), gf,
  #[.func (.yield L) #[] #[]] ++ lb.toArray, (w.alloc (.deferred (some []))).alloc (.loop (rec .ready none)), ?_, ?_, fun _ _ => trivial, ?_, fun h => by simp [Fence.wide] at h, ?_⟩
 ·have := run_enterLoop_outer (P := c.P) (w := w) fn a.tmps ps.toArray assign body
  rw [hL, hD] at this
  rw [show Fence.wide.round = none from rfl, this, hrec, hD]
 ·simp only [resolve, hlb]
  simp [go_sem, Deferred.ofValue, Act.eval]
 ·have := yt (P := c.P) hit.go (#[.func (.yield L) #[] #[]] ++ lb.toArray) ((w.alloc (.deferred (some []))).alloc (.loop (rec .ready none)))
  simpa [invoke] using this
 ·refine (hit.calls L lb Inv _ hRounds hI0).mono ?_
  rintro e W2 ⟨⟨v, rfl⟩, β2, hf2⟩
  have hrec2 : W2.heap[L]? = some (.loop (rec .ready none)) := ((hf2.kept L j1K.2).2.2).trans (h0L _)
  refine ⟨none, _, (run_endLoop (P := c.P) hrec2 (by rw [hrec]; intro h; cases h)).trans (congrArg (fun x => Result.ok x _) (show (rec .ready none).pending = none by rw [hrec])), ?_⟩
  have hf3 := hf2.putK (D := L) j1K.2 j1ok.2 hL0 (.loop { rec .ready none with state := .exhausted })
  have hf4 := hf3.withDs (a' := { a with defers := [{ target := .collected D, args := #[] }] ++ a.defers }) rfl
  refine done _ ?_ _ _ _ hf4
  refine .mark (D := D) hD0 j1K.1 ?_ j1ok.1 j1s ?_
  ·show (if D = L then _ else if D = L then _ else J1.h0 D) = _
   rw [if_neg hDL, if_neg hDL]; exact j1D
  ·show [{ target := .collected D, args := #[] }] ++ a.defers = _
   rw [had]; rfl
end

def zgW (c : Ctx) (fn : Func) (w0 : World) (J : JJ) (res : FV) : Exit → Act → World → Prop := fun e a w => (e = .ret ∨ e = .normal) ∧ ∃ J' s' β', Mk w0 J J' ∧ (∃ fs, XM c s' fn.results.toList fs ∧ zc1 fs = res) ∧ FR c.N w0 J' s' a w β'
theorem yj.of_bodyR {c : Ctx} {f : Nat} {fn : Func} {code : Code} (hf : zgI c f fn code) {args : List FV} {res : FV} (hn : ∀ f ∈ args, f.hand = none) (hl : args.length ≤ c.N) (hh : res.hand = none)
  (h : ∀ w0 J, J.ds = [] → GW c w0 J code (zgW c fn w0 J res) (entry args)) : yj c.P f args .sh res where
 go := hf.g
 hand := hh
 calls w I vs hI hv := by
  refine callsIn_wide (n := 0).1 (callsIn_of_wp_marks hf.at_ hf.b trivial (wpIn_wide.2 ?_) rfl)
  rw [hf.n]
  have hE := FR.entry (N := c.N) hI hv hn hl
  refine wp_mono (h w _ rfl _ w _ hE) ?_
  rintro e a' w' ⟨he, J', s', β', hM, ⟨fs, hrs, hre⟩, hF⟩
  have fin : ∀ {J' : JJ} {w' : World}, (∀ b, J'.ok b → I b ∨ w.heap.size ≤ b) → FR c.N w J' s' a' w' β' → LeavesIn Fence.wide 0 c.P fn a'.tmps (fun e W => ∃ v, e = .returned v ∧ Below w.heap.size w W ∧ zaV w W I .sh v res) [] .returning w' := by
   intro J' w' hs hF
   obtain ⟨v, h1, h2⟩ := Zl hF fn hrs
   rw [hre] at h2
   refine ⟨v, h1, v, rfl, hF.bel, h2.mono fun b hb => ⟨?_, rfl⟩⟩
   rcases hs b hb.2.1 with h | h
   ·exact .inl h
   ·exact .inr ⟨h, hb.1⟩
  have key : LeavesInM Fence.wide 0 c.P fn a'.tmps (fun e W => ∃ v, e = .returned v ∧ Below w.heap.size w W ∧ zaV w W I .sh v res) a'.defers .returning w' := by
   cases hM with
   | refl =>
    rw [hF.defers]
    exact fin (fun b hb => hb) hF
   | @mark J' D hD hK h0 hok hs hds =>
    rw [hF.defers.trans hds]
    have hblk : w'.heap[D]? = some (.deferred (some [])) := ((hF.kept D hK).2.2).trans h0
    exact ⟨(fun h => by cases h), .inl ⟨D, _, rfl, run_takeDeferred hblk, fin (J' := J'.turn D (.deferred none)) (fun b hb => hs b hb) (hF.putK hK hok hD (.deferred none))⟩⟩
  rcases he with rfl | rfl
  ·exact key
  ·exact key
end Go.Proofs.Ythjplkjpehdpfaa
