/-
  Some texts as one: Types, Maps, HCheck, FmT, FmO, CheckBase, Around, FmHist0, ShelfI, FmSort.
-/
import Derived.Test.YtokmanfcndelfaaZA
import Derived.Test.YtokmanfcndelfaaProg
import Derived.KernelRfl
import Derived.Maps.OwnSet
import Derived.DeepKeys4
import Derived.Deep.RegionHeld3
import Derived.Deep.DrawnRows
import Derived.Deep.DeepCutAuto
import Derived.Test.YtokmanfcndelfaaZBxxx
import Derived.Test.YtokmanfcndelfaaZC
import Derived.Test.YtokmanfcndelfaaChecked
import Derived.Shelf.Sort.Plain
import Derived.Shelf.Slices.CompactI
/-
 The types of histories as values: operations, observations, requests, integers; what '==' says of them; the facts that append wants.
-/
namespace Go.Proofs.Ytokmanfcndelfaa
set_option linter.unusedVariables false
open Go.RowKit

structure OpV where
 p : Int
 k : Int
 key : Int
 arg : Int
 res : Int
 call : Int
 ret : Int
 done : Bool
 deriving DecidableEq, Inhabited
def OpV.vals (o : OpV) : List Value := [.int .i64 o.p, .int .i64 o.k, .int .i64 o.key, .int .i64 o.arg, .int .i64 o.res, .int .i64 o.call, .int .i64 o.ret, .bool o.done]
theorem OpV.wide : zi0 8 OpV.vals := fun _ => rfl
theorem OpV.one (o : OpV) : ∀ u ∈ o.vals, u.oneCell' = true := by intro u hu; simp [OpV.vals] at hu; rcases hu with rfl | rfl | rfl | rfl | rfl | rfl | rfl | rfl <;> rfl

structure ziz where
 reply : Bool
 req : Int
 node : Int
 epoch : Int
 value : Int
 deriving DecidableEq, Inhabited
def ziz.vals (o : ziz) : List Value := [.bool o.reply, .int .i64 o.req, .int .i64 o.node, .int .i64 o.epoch, .int .i64 o.value]
theorem ziz.wide : zi0 5 ziz.vals := fun _ => rfl
theorem ziz.one (o : ziz) : ∀ u ∈ o.vals, u.oneCell' = true := by intro u hu; simp [ziz.vals] at hu; rcases hu with rfl | rfl | rfl | rfl | rfl <;> rfl

structure zfW where
 node : Int
 op : Int
 key : Int
 arg : Int
 deriving DecidableEq, Inhabited
def zfW.vals (o : zfW) : List Value := [.int .i64 o.node, .int .i64 o.op, .int .i64 o.key, .int .i64 o.arg]
theorem zfW.wide : zi0 4 zfW.vals := fun _ => rfl
theorem zfW.one (o : zfW) : ∀ u ∈ o.vals, u.oneCell' = true := by intro u hu; simp [zfW.vals] at hu; rcases hu with rfl | rfl | rfl | rfl <;> rfl

def zir (x : Int) : List Value := [.int .i64 x]
theorem zgz : zi0 1 zir := fun _ => rfl
section
variable {w : World} {B : Nat} {A : Option Addr}
theorem Sl.op {l : List OpV} (h : Sl OpV.vals w B A l) {i : Nat} (hi : i < l.length) : ∃ b off, A = some ⟨b, off, none⟩ ∧ b < B ∧
  w.cell? ⟨b, off + i * 8, none⟩ = some (.int .i64 (nth l i).p) ∧ w.cell? ⟨b, off + i * 8 + 1, none⟩ = some (.int .i64 (nth l i).k) ∧ w.cell? ⟨b, off + i * 8 + 2, none⟩ = some (.int .i64 (nth l i).key) ∧
  w.cell? ⟨b, off + i * 8 + 3, none⟩ = some (.int .i64 (nth l i).arg) ∧ w.cell? ⟨b, off + i * 8 + 4, none⟩ = some (.int .i64 (nth l i).res) ∧ w.cell? ⟨b, off + i * 8 + 5, none⟩ = some (.int .i64 (nth l i).call) ∧
  w.cell? ⟨b, off + i * 8 + 6, none⟩ = some (.int .i64 (nth l i).ret) ∧ w.cell? ⟨b, off + i * 8 + 7, none⟩ = some (.bool (nth l i).done) := by
 obtain ⟨b, off, ha, hb, hc⟩ := h.get OpV.wide hi
 rw [← nth_eq hi] at hc
 exact ⟨b, off, ha, hb, hc 0 _ (by omega) rfl, hc 1 _ (by omega) rfl, hc 2 _ (by omega) rfl, hc 3 _ (by omega) rfl, hc 4 _ (by omega) rfl, hc 5 _ (by omega) rfl, hc 6 _ (by omega) rfl, hc 7 _ (by omega) rfl⟩
theorem Sl.req {l : List zfW} (h : Sl zfW.vals w B A l) {i : Nat} (hi : i < l.length) : ∃ b off, A = some ⟨b, off, none⟩ ∧ b < B ∧
  w.cell? ⟨b, off + i * 4, none⟩ = some (.int .i64 (nth l i).node) ∧ w.cell? ⟨b, off + i * 4 + 1, none⟩ = some (.int .i64 (nth l i).op) ∧ w.cell? ⟨b, off + i * 4 + 2, none⟩ = some (.int .i64 (nth l i).key) ∧
  w.cell? ⟨b, off + i * 4 + 3, none⟩ = some (.int .i64 (nth l i).arg) := by
 obtain ⟨b, off, ha, hb, hc⟩ := h.get zfW.wide hi
 rw [← nth_eq hi] at hc
 exact ⟨b, off, ha, hb, hc 0 _ (by omega) rfl, hc 1 _ (by omega) rfl, hc 2 _ (by omega) rfl, hc 3 _ (by omega) rfl⟩
theorem Sl.int {l : List Int} (h : Sl zir w B A l) {i : Nat} (hi : i < l.length) : ∃ b off, A = some ⟨b, off, none⟩ ∧ b < B ∧ w.cell? ⟨b, off + i, none⟩ = some (.int .i64 (nth l i)) := by
 obtain ⟨b, off, ha, hb, hc⟩ := h.get zgz hi
 rw [← nth_eq hi] at hc
 exact ⟨b, off, ha, hb, by have := hc 0 _ (by omega) rfl; simpa using this⟩
theorem Sl.op' {b off : Nat} {l : List OpV} (h : Sl OpV.vals w B (some ⟨b, off, none⟩) l) {i : Nat} (hi : i < l.length) :
  w.cell? ⟨b, off + i * 8, none⟩ = some (.int .i64 (nth l i).p) ∧ w.cell? ⟨b, off + i * 8 + 1, none⟩ = some (.int .i64 (nth l i).k) ∧ w.cell? ⟨b, off + i * 8 + 2, none⟩ = some (.int .i64 (nth l i).key) ∧
  w.cell? ⟨b, off + i * 8 + 3, none⟩ = some (.int .i64 (nth l i).arg) ∧ w.cell? ⟨b, off + i * 8 + 4, none⟩ = some (.int .i64 (nth l i).res) ∧ w.cell? ⟨b, off + i * 8 + 5, none⟩ = some (.int .i64 (nth l i).call) ∧
  w.cell? ⟨b, off + i * 8 + 6, none⟩ = some (.int .i64 (nth l i).ret) ∧ w.cell? ⟨b, off + i * 8 + 7, none⟩ = some (.bool (nth l i).done) := by
 obtain ⟨b', off', ha, _, hc⟩ := h.op hi
 injection ha with ha; injection ha with h1 h2; subst h1; subst h2
 exact hc
end

theorem ZF (l : List Int) : flat zir l = l.map (Value.int .i64) := by
 induction l with
 | nil => rfl
 | cons a l ih => simp only [flat, List.flatMap_cons, zir, List.map_cons, List.cons_append, List.nil_append] at *; rw [ih]
theorem Blk.op {w : World} {g : Nat} {t : TypeId} {o : OpV} (h : Blk w g t o.vals) : w.cell? ⟨g, 0, none⟩ = some (.int .i64 o.p) ∧ w.cell? ⟨g, 1, none⟩ = some (.int .i64 o.k) ∧ w.cell? ⟨g, 2, none⟩ = some (.int .i64 o.key) ∧
  w.cell? ⟨g, 3, none⟩ = some (.int .i64 o.arg) ∧ w.cell? ⟨g, 4, none⟩ = some (.int .i64 o.res) ∧ w.cell? ⟨g, 5, none⟩ = some (.int .i64 o.call) ∧ w.cell? ⟨g, 6, none⟩ = some (.int .i64 o.ret) ∧ w.cell? ⟨g, 7, none⟩ = some (.bool o.done) :=
 ⟨h.cell 0, h.cell 1, h.cell 2, h.cell 3, h.cell 4, h.cell 5, h.cell 6, h.cell 7⟩

theorem Blk.req {w : World} {g : Nat} {t : TypeId} {o : zfW} (h : Blk w g t o.vals) : w.cell? ⟨g, 0, none⟩ = some (.int .i64 o.node) ∧ w.cell? ⟨g, 1, none⟩ = some (.int .i64 o.op) ∧ w.cell? ⟨g, 2, none⟩ = some (.int .i64 o.key) ∧
  w.cell? ⟨g, 3, none⟩ = some (.int .i64 o.arg) := ⟨h.cell 0, h.cell 1, h.cell 2, h.cell 3⟩

def zjQ (x y : OpV) : Bool := decide (x = y)
@[go_sem] theorem OpV.eta (x : OpV) : (⟨x.p, x.k, x.key, x.arg, x.res, x.call, x.ret, x.done⟩ : OpV) = x := rfl
@[go_sem ↓] theorem eqIn_op (w : World) (a1 a2 a3 a4 a5 a6 a7 b1 b2 b3 b4 b5 b6 b7 : Int) (a8 b8 : Bool) : (Op.equalIn 10000 37 (.agg #[.int .i64 a1, .int .i64 a2, .int .i64 a3, .int .i64 a4, .int .i64 a5, .int .i64 a6, .int .i64 a7, .bool a8])
  (.agg #[.int .i64 b1, .int .i64 b2, .int .i64 b3, .int .i64 b4, .int .i64 b5, .int .i64 b6, .int .i64 b7, .bool b8])).run Try.prog w = .ok (zjQ ⟨a1, a2, a3, a4, a5, a6, a7, a8⟩ ⟨b1, b2, b3, b4, b5, b6, b7, b8⟩) w := by
 unfold zjQ
 have hS : Try.prog.underlying 37 = some (.struct (Try.prog.fieldsOf 37)) := by kernel_rfl
 have hp : Try.prog.stoodInHeld 37 = false := by kernel_rfl
 rw [show (10000 : Nat) = 9999 + 1 from rfl, run_equalIn_agg w 9999 37 _ _ hS hp]
 simp only [Program.fieldsOf, Try.underlying37]
 simp [go_sem]
 by_cases h1 : a1 = b1
 ·by_cases h2 : a2 = b2
  ·by_cases h3 : a3 = b3
   ·by_cases h4 : a4 = b4
    ·by_cases h5 : a5 = b5
     ·by_cases h6 : a6 = b6
      ·by_cases h7 : a7 = b7
       ·by_cases h8 : a8 = b8 <;> simp [h1, h2, h3, h4, h5, h6, h7, h8]
       ·simp [h1, h2, h3, h4, h5, h6, h7]
      ·simp [h1, h2, h3, h4, h5, h6]
     ·simp [h1, h2, h3, h4, h5]
    ·simp [h1, h2, h3, h4]
   ·simp [h1, h2, h3]
  ·simp [h1, h2]
 ·simp [h1]
end Go.Proofs.Ytokmanfcndelfaa
/-
 A map of the call's own, read as a partial function on typed keys.
-/
namespace Go.Proofs.Ytokmanfcndelfaa
set_option linter.unusedVariables false
open Go.RowKit Go.Maps Go.MapKept Go.ChangeMaps

structure zi6 (P : Program) (k : TypeId) (κ : Type) (ek : κ → Value) (ok : κ → Prop) : Prop where
 K : Keyed P k
 of : ∀ x, ok x → ∃ l, keyOf P k (ek x) = some l
 inj : ∀ x y, ek x = ek y → x = y

def ZA {κ : Type} (ek : κ → Value) (ok : κ → Prop) (w : World) (b n : Nat) (f : κ → Option Value) : Prop :=
 ∃ es clock, w.heap[b]? = some (.map es clock) ∧ es.size ≤ n ∧ Stamped es clock ∧ (∀ e ∈ es.toList, ∃ x, ok x ∧ e.key = ek x) ∧ ∀ x u, f x = some u ↔ ∃ e ∈ es.toList, e.key = ek x ∧ e.val = u

open Classical in
noncomputable def upd {κ : Type} (f : κ → Option Value) (x : κ) (u : Value) : κ → Option Value := fun y => if y = x then some u else f y
theorem Vi {κ : Type} (f : κ → Option Value) (x : κ) (u : Value) : upd f x u x = some u := by simp [upd]
theorem Wb {κ : Type} (f : κ → Option Value) {x y : κ} (u : Value) (h : y ≠ x) : upd f x u y = f y := by simp [upd, h]

section
variable {κ : Type} {ek : κ → Value} {ok : κ → Prop} {P : Program} {k : TypeId} {w w' : World} {b n : Nat} {f : κ → Option Value}
theorem ZA.made (w : World) : ZA ek ok (w.alloc (.map #[] 0)) w.heap.size 0 (fun _ => none) :=
 ⟨#[], 0, heap_alloc_new w _, Nat.le_refl _, stamped_empty _, by simp, by simp⟩
theorem ZA.lt (h : ZA ek ok w b n f) : b < w.heap.size := by
 obtain ⟨es, clock, hb, _⟩ := h
 exact (Array.getElem?_eq_some_iff.1 hb).1
theorem ZA.mono (h : ZA ek ok w b n f) {n' : Nat} (hn : n ≤ n') : ZA ek ok w b n' f := by
 obtain ⟨es, clock, hb, hs, r⟩ := h
 exact ⟨es, clock, hb, by omega, r⟩
theorem ZA.of_block (h : ZA ek ok w b n f) (hb : w'.heap[b]? = w.heap[b]?) : ZA ek ok w' b n f := by
 obtain ⟨es, clock, hh, r⟩ := h
 exact ⟨es, clock, hb.trans hh, r⟩
theorem ZA.drewN (h : ZA ek ok w b n f) (m : Nat) : ZA ek ok (w.drewN m) b n f := h
theorem ZA.alloc (h : ZA ek ok w b n f) (o : Obj) : ZA ek ok (w.alloc o) b n f := h.of_block (Below.heap_alloc w o b h.lt)
theorem ZA.grown {row : Option Nat} (h : ZA ek ok w b n f) (hg : w.grownBy w' row) (hr : some b ≠ row) : ZA ek ok w' b n f := h.of_block (hg.block b h.lt hr)
theorem ZA.ext (h : ZA ek ok w b n f) (hb : Below w.heap.size w w') : ZA ek ok w' b n f := h.of_block (hb.block b h.lt)
theorem ZA.below {B : Nat} (h : ZA ek ok w b n f) (hb : Below B w w') (hB : b < B) : ZA ek ok w' b n f := h.of_block (hb.block b hB)
theorem ZA.ne_blk (h : ZA ek ok w b n f) {g : Nat} {t : TypeId} {cs : List Value} (ho : Blk w g t cs) : b ≠ g := by
 obtain ⟨es, clock, hb, _⟩ := h
 rintro rfl
 unfold Blk at ho
 rw [hb] at ho
 cases ho

theorem zh9 {e t : TypeId} {z : Value} (T : zi6 P k κ ek ok) (ht : P.underlying t = some (.map k e)) (hz : (zeroValue e).run P w = .ok z w) (h : ZA ek ok w b n f) (c : Bool) (x : κ) (hx : ok x) :
  (Instr.lookup t (.map (some b)) (ek x) c).run P w = .ok (if c then .tuple #[(f x).getD z, .bool (f x).isSome] else (f x).getD z) w := by
 obtain ⟨es, clock, hb, hs, hst, hkeys, hf⟩ := h
 obtain ⟨l, hl⟩ := T.of x hx
 have hks : ∀ e ∈ es.toList, ∃ l, keyOf P k e.key = some l := fun e he => by
  obtain ⟨y, hy, he⟩ := hkeys e he
  obtain ⟨l, hl⟩ := T.of y hy
  exact ⟨l, by rw [he]; exact hl⟩
 rcases T.K.find w hl es.toList hks with ⟨h1, h2⟩ | ⟨j, e0, h1, h2, h3⟩
 ·have hn : f x = none := by
   cases hfx : f x with
   | none => rfl
   | some u =>
    obtain ⟨e, he, hk, _⟩ := (hf x u).1 hfx
    exact absurd hk (h2 e he)
  cases c <;> simp [Instr.lookup, run_underlying ht, MapKept.run_getObj_map hb, T.K.check w _ hl, h1, hz, Result.andThen, hn]
 ·have hn : f x = some e0.val := (hf x _).2 ⟨e0, List.mem_of_getElem? h2, h3, rfl⟩
  cases c <;> simp [Instr.lookup, run_underlying ht, MapKept.run_getObj_map hb, T.K.check w _ hl, h1, Result.andThen, hn]

theorem ziT {e t : TypeId} (T : zi6 P k κ ek ok) (ht : P.underlying t = some (.map k e)) (h : ZA ek ok w b n f) (x : κ) (hx : ok x) (u : Value) :
  ∃ w', (Instr.mapUpdate t (.map (some b)) (ek x) u).run P w = .ok () w' ∧ ZA ek ok w' b (n + 1) (upd f x u) ∧ w.grownBy w' (some b) := by
 obtain ⟨es, clock, hb, hs, hst, hkeys, hf⟩ := h
 obtain ⟨l, hl⟩ := T.of x hx
 have hks : ∀ e ∈ es.toList, ∃ l, keyOf P k e.key = some l := fun e he => by
  obtain ⟨y, hy, he⟩ := hkeys e he
  obtain ⟨l, hl⟩ := T.of y hy
  exact ⟨l, by rw [he]; exact hl⟩
 have gr : ∀ o, w.grownBy (setBlock w b o) (some b) := fun o => ⟨rfl, rfl, rfl, by simp [setBlock], fun i _ hi => heap_setBlock_other hb _ (fun e => hi (by rw [e]))⟩
 rcases T.K.find w hl es.toList hks with ⟨h1, h2⟩ | ⟨j, e0, h1, h2, h3⟩
 ·refine ⟨setBlock w b (.map (es.push ⟨ek x, u, clock⟩) (clock + 1)), ?_, ⟨_, _, heap_setBlock_same hb _, by simp; omega, stamped_push hst h2, ?_, ?_⟩, gr _⟩
  ·simp [Instr.mapUpdate, run_underlying ht, MapKept.run_getObj_map hb, T.K.check w false hl, h1, MapKept.run_setObj_map _ hb, Result.andThen, setBlock]
  ·intro e he
   simp only [Array.toList_push, List.mem_append, List.mem_singleton] at he
   rcases he with he | rfl
   ·exact hkeys e he
   ·exact ⟨x, hx, rfl⟩
  ·intro y v
   by_cases hy : y = x
   ·subst hy
    rw [Vi]
    constructor
    ·intro hv; injection hv with hv; exact ⟨⟨ek y, u, clock⟩, by simp, rfl, hv⟩
    ·rintro ⟨e, he, hk, hv⟩
     simp only [Array.toList_push, List.mem_append, List.mem_singleton] at he
     rcases he with he | rfl
     ·exact absurd hk (h2 e he)
     ·rw [← hv]
   ·rw [Wb f u hy, hf]
    constructor
    ·rintro ⟨e, he, hk, hv⟩; exact ⟨e, by simp [he], hk, hv⟩
    ·rintro ⟨e, he, hk, hv⟩
     simp only [Array.toList_push, List.mem_append, List.mem_singleton] at he
     rcases he with he | rfl
     ·exact ⟨e, he, hk, hv⟩
     ·exact absurd (T.inj _ _ hk).symm hy
 ·have hj : es[j]? = some e0 := by simpa using h2
  have hjl : j < es.toList.length := (List.getElem?_eq_some_iff.1 h2).1
  have hkeyf : ∀ e', es[j]? = some e' → ({ e' with key := ek x, val := u } : MapEntry).key = e'.key := fun e' he' => by rw [hj] at he'; cases he'; exact h3.symm
  have hlist : (es.modify j (fun e' => { e' with key := ek x, val := u })).toList = es.toList.set j { e0 with key := ek x, val := u } := by rw [Array.toList_modify, modify_eq_set _ _ _ _ h2]
  have hd := ((stamped_iff es clock).1 hst).2.2
  have other : ∀ i e, es.toList[i]? = some e → i ≠ j → e.key ≠ ek x := by
   intro i e hi hne
   rw [← h3]
   obtain ⟨hil, rfl⟩ := List.getElem?_eq_some_iff.1 hi
   obtain ⟨_, rfl⟩ := List.getElem?_eq_some_iff.1 h2
   rcases Nat.lt_or_gt_of_ne hne with hlt | hgt
   ·exact List.pairwise_iff_getElem.1 hd i j hil hjl hlt
   ·exact (List.pairwise_iff_getElem.1 hd j i hjl hil hgt).symm
  have who : ∀ y ∈ es.toList.set j { e0 with key := ek x, val := u }, y = { e0 with key := ek x, val := u } ∨ (y ∈ es.toList ∧ y.key ≠ ek x) := by
   intro y hy
   obtain ⟨i, hi, ex⟩ := List.getElem_of_mem hy
   rw [List.getElem_set] at ex
   split at ex
   ·exact Or.inl ex.symm
   ·rename_i hne
    have hi' : i < es.toList.length := by simpa using hi
    exact Or.inr ⟨ex ▸ List.getElem_mem hi', other i y (by rw [List.getElem?_eq_getElem hi', ex]) (fun e1 => hne e1.symm)⟩
  refine ⟨setBlock w b (.map (es.modify j (fun e' => { e' with key := ek x, val := u })) clock), ?_, ⟨_, _, heap_setBlock_same hb _, by simp; omega, stamped_modify hst _ _ (fun _ _ => rfl) (fun e' _ he' => hkeyf e' he'), ?_, ?_⟩, gr _⟩
  ·simp [Instr.mapUpdate, run_underlying ht, MapKept.run_getObj_map hb, T.K.check w false hl, h1, hj, h3, T.K.stays w hl, MapKept.run_setObj_map _ hb, Result.andThen, setBlock]
  ·intro e he
   rw [hlist] at he
   rcases who e he with rfl | ⟨he, _⟩
   ·exact ⟨x, hx, rfl⟩
   ·exact hkeys e he
  ·intro y v
   rw [hlist]
   by_cases hy : y = x
   ·subst hy
    rw [Vi]
    constructor
    ·intro hv; injection hv with hv
     exact ⟨{ e0 with key := ek y, val := u }, List.mem_iff_getElem.2 ⟨j, by simpa using hjl, by simp⟩, rfl, hv⟩
    ·rintro ⟨e, he, hk, hv⟩
     rcases who e he with rfl | ⟨_, hne⟩
     ·rw [← hv]
     ·exact absurd hk hne
   ·rw [Wb f u hy, hf]
    constructor
    ·rintro ⟨e, he, hk, hv⟩
     obtain ⟨i, hi, rfl⟩ := List.getElem_of_mem he
     have hij : i ≠ j := by
      rintro rfl
      obtain ⟨_, h2'⟩ := List.getElem?_eq_some_iff.1 h2
      rw [h2', h3] at hk
      exact hy (T.inj _ _ hk).symm
     exact ⟨es.toList[i], List.mem_iff_getElem.2 ⟨i, by simpa using hi, by rw [List.getElem_set, if_neg (fun e => hij e.symm)]⟩, hk, hv⟩
    ·rintro ⟨e, he, hk, hv⟩
     rcases who e he with rfl | ⟨he, _⟩
     ·exact absurd (T.inj _ _ hk).symm hy
     ·exact ⟨e, he, hk, hv⟩

theorem xQ {e t : TypeId} {z : Value} {ops : Array Oper} {rest : List Oper} {o : Oper} {a : Act} {Q : Exit → Act → World → Prop}
  (T : zi6 P k κ ek ok) (ht : P.underlying t = some (.map k e)) (hz : (zeroValue e).run P w = .ok z w) (h : ZA ek ok w b n f) (x : κ) (hx : ok x)
  (hg : o.guard = none) (m i : Operand) (hop : o.op = Op.lookup t m i true) (hm : a.eval m = .map (some b)) (hi : a.eval i = ek x)
  (hK : wpList P ops Q rest (a.put o.dst (.tuple #[(f x).getD z, .bool (f x).isSome])) w) : wpList P ops Q (o :: rest) a w := by
 refine wpList_plain hg fun K' hK' => ?_
 have hrun := zh9 T ht hz h true x hx
 unfold Oper.wp
 simp [execOp, hop, hm, hi, hrun, Result.andThen]
 exact hK' _ _ hK
theorem YV {e t : TypeId} {ops : Array Oper} {rest : List Oper} {o : Oper} {a : Act} {Q : Exit → Act → World → Prop}
  (T : zi6 P k κ ek ok) (ht : P.underlying t = some (.map k e)) (h : ZA ek ok w b n f) (x : κ) (hx : ok x) (u : Value)
  (hg : o.guard = none) (m i v : Operand) (hop : o.op = Op.mapUpdate t m i v) (hm : a.eval m = .map (some b)) (hi : a.eval i = ek x) (hv : a.eval v = u)
  (hK : ∀ w', ZA ek ok w' b (n + 1) (upd f x u) → w.grownBy w' (some b) → wpList P ops Q rest (a.put o.dst undef) w') : wpList P ops Q (o :: rest) a w := by
 refine wpList_plain hg fun K' hK' => ?_
 obtain ⟨w', hrun, h1, h2⟩ := ziT T ht h x hx u
 unfold Oper.wp
 simp [execOp, hop, hm, hi, hv, hrun, Result.andThen]
 exact hK' _ _ (hK w' h1 h2)
end

def zhI (x : Int) : Value := .int .i64 x
theorem zje {x : Int} (h : I64 x) : (Lit.int .i64 x).wf = true := WalkArith.wf_i64 (by unfold I64 at h; omega)
theorem Yp : zi6 Try.prog 3 Int zhI I64 := ⟨int_keyed Try.underlying3, fun x hx => ⟨_, keyOf_int_mk Try.underlying3 (zje hx)⟩, fun x y h => by injection h⟩
end Go.Proofs.Ytokmanfcndelfaa
/-
 history.Check: why a list of operations is not a history.
-/
namespace Go.Proofs.Ytokmanfcndelfaa
set_option linter.unusedVariables false
open Go.RowKit
attribute [local go_sem ↓] Go.wp_at_zero Go.wp_at_succ

def zcS (o : OpV) : Prop := I64 o.p ∧ I64 o.k ∧ I64 o.key ∧ I64 o.arg ∧ I64 o.res ∧ I64 o.call ∧ I64 o.ret

noncomputable def setMap (B : Int → Bool) : Int → Option Value := fun x => if B x then some (.agg #[]) else none
theorem Wz (B : Int → Bool) (x : Int) : (setMap B x).getD (.agg #[]) = .agg #[] := by unfold setMap; split <;> rfl
theorem Xw (B : Int → Bool) (x : Int) : (setMap B x).isSome = B x := by unfold setMap; split <;> simp_all
theorem zaI (B : Int → Bool) (x : Int) : upd (setMap B) x (.agg #[]) = setMap (fun y => B y || y == x) := by
 funext y
 by_cases hy : y = x
 ·subst hy; rw [Vi]; simp [setMap]
 ·rw [Wb _ _ hy]; simp [setMap, hy]
theorem UA : (fun _ => none) = setMap (fun _ => false) := by funext y; simp [setMap]
def WY (g : Int → Option OpV) : Int → Option Value := fun x => (g x).map fun o => .agg o.vals.toArray
theorem zgM (g : Int → Option OpV) (x : Int) : (WY g x).getD (.agg #[.int .i64 0, .int .i64 0, .int .i64 0, .int .i64 0, .int .i64 0, .int .i64 0, .int .i64 0, .bool false]) = .agg #[.int .i64 ((g x).getD default).p, .int .i64 ((g x).getD default).k, .int .i64 ((g x).getD default).key, .int .i64 ((g x).getD default).arg, .int .i64 ((g x).getD default).res, .int .i64 ((g x).getD default).call, .int .i64 ((g x).getD default).ret, .bool ((g x).getD default).done] := by
 unfold WY; cases g x <;> rfl
theorem ze7 (g : Int → Option OpV) (x : Int) : (WY g x).isSome = (g x).isSome := by simp [WY]
open Classical in
theorem zcf (g : Int → Option OpV) (x : Int) (o : OpV) : upd (WY g) x (.agg o.vals.toArray) = WY (fun y => if y = x then some o else g y) := by
 funext y
 by_cases hy : y = x
 ·subst hy; rw [Vi]; simp [WY]
 ·rw [Wb _ _ hy]; simp [WY, hy]

def wfB (o : OpV) : Bool := decide (0 ≤ o.p) && decide (0 ≤ o.k) && decide (o.k ≤ 4) && decide (0 ≤ o.call) && decide (o.call < o.ret) && (o.done || decide (o.res = 0))
def zbf (l : List OpV) (k : Nat) (x : Int) : Bool := (l.take k).any fun o => o.done && o.ret == x
def XA (l : List OpV) (k : Nat) (x : Int) : Bool := (l.take k).any fun o => o.call == x
def xG (l : List OpV) : Nat → Int → Option OpV
 | 0, _ => none
 | k + 1, p => if p = (nth l k).p then some (nth l k) else xG l k p
def zc8 (l : List OpV) (k : Nat) : Int :=
 if wfB (nth l k) = false then 1
 else if 0 < k ∧ (nth l k).call ≤ (nth l (k - 1)).call then 5
 else if (zbf l k (nth l k).call || (nth l k).done && (zbf l k (nth l k).ret || XA l l.length (nth l k).ret)) = true then 4
 else if (xG l k (nth l k).p).isSome = true ∧ (((xG l k (nth l k).p).getD default).done = false ∨ (nth l k).call < ((xG l k (nth l k).p).getD default).ret) then 5
 else 0
def yr (l : List OpV) (k : Nat) : Nat → Int
 | 0 => 0
 | n + 1 => if zc8 l k = 0 then yr l (k + 1) n else zc8 l k
def VO (l : List OpV) : Int := if 300 < l.length then 2 else yr l 0 l.length

theorem XL {l : List OpV} {k n : Nat} (h : zc8 l k = 0) : yr l k (n + 1) = yr l (k + 1) n := by simp [yr, h]
theorem UY {l : List OpV} {k n : Nat} (h : zc8 l k ≠ 0) : yr l k (n + 1) = zc8 l k := by simp [yr, h]
theorem zew {l : List OpV} {k : Nat} (hk : k < l.length) (x : Int) : XA l (k + 1) x = (XA l k x || x == (nth l k).call) := by
 unfold XA
 rw [List.take_succ_eq_append_getElem hk, List.any_append, nth_eq hk]
 simp [BEq.comm (a := x)]
theorem zcv {l : List OpV} {k : Nat} (hk : k < l.length) (x : Int) : zbf l (k + 1) x = (zbf l k x || ((nth l k).done && x == (nth l k).ret)) := by
 unfold zbf
 rw [List.take_succ_eq_append_getElem hk, List.any_append, nth_eq hk]
 simp [BEq.comm (a := x)]

theorem YZ {w : World} (o : Obj) : Below w.heap.size w (w.alloc o) := (Below.refl _ _).alloc (Nat.le_refl _) _

set_option maxHeartbeats 400000 in
theorem Xg (o : OpV) (w : World) : Calls Try.prog 30 #[.agg #[.int .i64 o.p, .int .i64 o.k, .int .i64 o.key, .int .i64 o.arg, .int .i64 o.res, .int .i64 o.call, .int .i64 o.ret, .bool o.done]] w fun e w' => e = .returned (.bool (wfB o)) ∧ Below w.heap.size w w' := by
 by_cases h1 : 0 ≤ o.p
 ·by_cases h2 : 0 ≤ o.k
  ·by_cases h3 : o.k ≤ 4
   ·by_cases h4 : 0 ≤ o.call
    ·by_cases h5 : o.call < o.ret
     ·cases h6 : o.done with
      | true =>
       go_enter Try.func30, Try.ntmps30
       go_wp2
       go_ret
       exact ⟨by simp [wfB, h1, h2, h3, h4, h5, h6], YZ _⟩
      | false =>
       by_cases h7 : o.res = 0
       ·have h7' : (o.res == 0) = true := by simpa using h7
        go_enter Try.func30, Try.ntmps30
        go_wp2
        go_ret
        exact ⟨by simp [wfB, h1, h2, h3, h4, h5, h6, h7], YZ _⟩
       ·have h7' : (o.res == 0) = false := by simpa using h7
        go_enter Try.func30, Try.ntmps30
        go_wp2
        go_ret
        exact ⟨by simp [wfB, h1, h2, h3, h4, h5, h6, h7], YZ _⟩
     ·go_enter Try.func30, Try.ntmps30
      go_wp2
      go_ret
      exact ⟨by simp [wfB, h1, h2, h3, h4]; intros; omega, YZ _⟩
    ·go_enter Try.func30, Try.ntmps30
     go_wp2
     go_ret
     exact ⟨by simp [wfB, h1, h2, h3]; intros; omega, YZ _⟩
   ·go_enter Try.func30, Try.ntmps30
    go_wp2
    go_ret
    exact ⟨by simp [wfB, h1, h2]; intros; omega, YZ _⟩
  ·go_enter Try.func30, Try.ntmps30
   go_wp2
   go_ret
   exact ⟨by simp [wfB, h1]; intros; omega, YZ _⟩
 ·go_enter Try.func30, Try.ntmps30
  go_wp2
  go_ret
  exact ⟨by simp [wfB]; intros; omega, YZ _⟩

theorem zdh (l : List OpV) (k : Nat) : xG l (k + 1) = fun p => if p = (nth l k).p then some (nth l k) else xG l k p := rfl
theorem zgX (l : List OpV) : zbf l 0 = fun _ => false := by funext x; simp [zbf]
theorem zey (l : List OpV) : XA l 0 = fun _ => false := by funext x; simp [XA]
theorem ze6 : (fun _ => none) = WY (fun _ => none) := by funext y; simp [WY]
theorem zgW {l : List OpV} {k : Nat} (hk : k < l.length) (h : (nth l k).done = true) : zbf l (k + 1) = fun x => zbf l k x || x == (nth l k).ret := by
 funext x; rw [zcv hk, h]; simp
theorem zfk {l : List OpV} {k : Nat} (hk : k < l.length) (h : (nth l k).done = false) : zbf l (k + 1) = zbf l k := by
 funext x; rw [zcv hk, h]; simp
theorem zex {l : List OpV} {k : Nat} (hk : k < l.length) : XA l (k + 1) = fun x => XA l k x || x == (nth l k).call := by
 funext x; rw [zew hk]

theorem zaY {l : List OpV} {k : Nat} {X e : Int} (h : yr l k (l.length - k) = X) (hk : k < l.length) (he : zc8 l k = e) (h0 : e ≠ 0) : e = X := by
 rw [show l.length - k = (l.length - (k + 1)) + 1 by omega, UY (by rw [he]; exact h0), he] at h
 exact h
theorem zjc {l : List OpV} {k : Nat} {X : Int} (h : yr l k (l.length - k) = X) (hk : k < l.length) (he : zc8 l k = 0) : yr l (k + 1) (l.length - (k + 1)) = X := by
 rw [show l.length - k = (l.length - (k + 1)) + 1 by omega, XL he] at h
 exact h

set_option maxHeartbeats 2000000 in
set_option maxRecDepth 100000 in
theorem zeP (A : Option Addr) (c : Nat) (l : List OpV) (w : World) (h1 : Sl OpV.vals w w.heap.size A l) (hin : ∀ o ∈ l, zcS o) (hlen : l.length ≤ 1000000000) :
  Calls Try.prog 12 #[.slice A l.length c] w fun e w' => e = .returned (.int .i64 (VO l)) ∧ Below w.heap.size w w' := by
 have hmm := @run_makeMap Try.prog
 by_cases hbig : 300 < l.length
 ·go_enter Try.func12, Try.ntmps12
  go_wp2_with fail
  go_ret
  exact ⟨by simp [VO, hbig], Below.refl _ _⟩
 ·have hc : VO l = yr l 0 l.length := by simp [VO, hbig]
  rw [hc]
  go_enter Try.func12, Try.ntmps12
  go_wp2_with fail
  go_loopw [24] (fun i wr => ∃ k : Nat, k ≤ l.length ∧ i = .int .i64 k ∧ ZA zhI I64 wr w.heap.size k (setMap (XA l k)) ∧ Below w.heap.size w wr) (fun i _ => l.length - (intOf i).toNat)
  case atStart => exact ⟨0, by omega, rfl, by rw [zey, ← UA]; exact ZA.made w, YZ _⟩
  case round =>
   obtain ⟨k, hk, rfl, hmap, hb⟩ := hrel
   by_cases hlt : k < l.length
   ·obtain ⟨b1, o1, rfl, hbl1, p0, p1, p2, p3, p4, p5, p6, p7⟩ := (h1.below hb).op hlt
    have hsz := hb.size
    have hb1 : b1 < wr.heap.size := by omega
    have hI := hin _ (zI hlt)
    have Hs := Lib.hid (zex hlt)
    go_wp2_with (at_mapUpdate; go_loud (refine YV Yp Try.underlying70 (hmap.alloc _) (nth l k).call hI.2.2.2.2.2.1 (.agg #[]) rfl (.tmp 28) (.tmp 30) (.tmp 31) rfl rfl rfl rfl ?_; intro w1 hm1 hg1))
    go_roundw
    case rel =>
     refine ⟨k + 1, by omega, by go_num, ?_, ?_⟩
     ·rw [Hs.out, ← zaI]; exact hm1
     ·exact (hb.alloc hsz _).grown hg1 (by simp; omega) (by rintro k' ⟨⟩; exact Nat.le_refl _)
    case measure => simp [intOf]; omega
   ·obtain rfl : k = l.length := by omega
    obtain ⟨wb, rfl⟩ : ∃ wb : World, wb = wr := ⟨_, rfl⟩
    have hszb := hb.size
    have hltb := hmap.lt
    go_wp2_with fail
    go_loopw [37] (fun i wr => ∃ k : Nat, k ≤ l.length ∧ i = .int .i64 k ∧ ZA zhI I64 wr w.heap.size l.length (setMap (XA l l.length)) ∧ ZA zhI I64 wr wb.heap.size k (setMap (zbf l k)) ∧ ZA zhI I64 wr (wb.heap.size + 1) k (WY (xG l k)) ∧ Below w.heap.size w wr ∧ wb.heap.size + 2 ≤ wr.heap.size ∧
     yr l k (l.length - k) = yr l 0 l.length) (fun i _ => l.length - (intOf i).toNat)
    case atStart =>
     refine ⟨0, by omega, rfl, (hmap.alloc _).alloc _, ?_, ?_, (hb.alloc hszb _).alloc (by simp; omega) _, by simp, by simp⟩
     ·rw [zgX, ← UA]; exact (ZA.made wb).alloc _
     ·have := ZA.made (ek := zhI) (ok := I64) (wb.alloc (.map #[] 0))
      rw [show xG l 0 = fun _ => none from rfl, ← ze6]
      simpa using this
    case round =>
     obtain ⟨k, hk, rfl, hmc, hmr, hml, hb, hsz2, hno⟩ := hrel
     have Hno := Lib.hid hno
     clear hno hmap
     by_cases hlt : k < l.length
     ·obtain ⟨b1, o1, rfl, hbl1, p0, p1, p2, p3, p4, p5, p6, p7⟩ := (h1.below hb).op hlt
      have hsz := hb.size
      have hb1 : b1 < wr.heap.size := by omega
      have hI := hin _ (zI hlt)
      obtain ⟨o, ho⟩ : ∃ o, nth l k = o := ⟨_, rfl⟩
      rw [ho] at p0 p1 p2 p3 p4 p5 p6 p7 hI
      obtain ⟨pv, hpv⟩ : ∃ pv, (xG l k o.p).getD default = pv := ⟨_, rfl⟩
      obtain ⟨b4, hb4⟩ : ∃ b4, (xG l k o.p).isSome = b4 := ⟨_, rfl⟩
      obtain ⟨b5, hb5⟩ : ∃ b5, zbf l k o.call = b5 := ⟨_, rfl⟩
      obtain ⟨b6, hb6⟩ : ∃ b6, zbf l k o.ret = b6 := ⟨_, rfl⟩
      obtain ⟨b7, hb7⟩ : ∃ b7, XA l l.length o.ret = b7 := ⟨_, rfl⟩
      have Hpv := Lib.hid hpv
      have Hb4 := Lib.hid hb4
      have Hb5 := Lib.hid hb5
      have Hb6 := Lib.hid hb6
      have Hb7 := Lib.hid hb7
      clear hpv hb4 hb5 hb6 hb7
      go_upto_region 18 with (first | (at_lookup; refine xQ Yp Try.underlying70 (Try.zeroValue71 _) (hmr.alloc _) o.call hI.2.2.2.2.2.1 rfl (.tmp 43) (.tmp 45) rfl rfl rfl ?_; rw [Wz, Xw, Hb5.out]) | (at_lookup; refine xQ Yp Try.underlying70 (Try.zeroValue71 _) ((hmr.alloc _).alloc _) o.ret hI.2.2.2.2.2.2 rfl (.tmp 50) (.tmp 52) rfl rfl rfl ?_; rw [Wz, Xw, Hb6.out]) | (at_lookup; refine xQ Yp Try.underlying70 (Try.zeroValue71 _) (((hmc.alloc _).alloc _).alloc _) o.ret hI.2.2.2.2.2.2 rfl (.tmp 57) (.tmp 59) rfl rfl rfl ?_; rw [Wz, Xw, Hb7.out]) | (at_lookup; refine xQ Yp Try.underlying72 (Try.zeroValue37 _) ((((hml.alloc _).alloc _).alloc _).alloc _) o.p hI.1 rfl (.tmp 64) (.tmp 66) rfl rfl rfl ?_; rw [zgM, ze7, Hb4.out, Hpv.out]))
      obtain ⟨W, hW⟩ : ∃ W, W = (((((wr.alloc (.cells #[.int .i64 o.p, .int .i64 o.k, .int .i64 o.key, .int .i64 o.arg, .int .i64 o.res, .int .i64 o.call, .int .i64 o.ret, .bool o.done] 37)).alloc (.cells #[] 71)).alloc (.cells #[] 71)).alloc (.cells #[] 71)).alloc (.cells #[.int .i64 pv.p, .int .i64 pv.k, .int .i64 pv.key, .int .i64 pv.arg, .int .i64 pv.res, .int .i64 pv.call, .int .i64 pv.ret, .bool pv.done] 37)) := ⟨_, rfl⟩
      have B1 : Blk W wr.heap.size 37 o.vals := by rw [hW]; exact ((((Blk.new wr 37 o.vals).alloc _).alloc _).alloc _).alloc _
      have B2 : Blk W (wr.heap.size + 1 + 1 + 1 + 1) 37 pv.vals := by
       rw [hW]
       have := Blk.new ((((wr.alloc (.cells #[.int .i64 o.p, .int .i64 o.k, .int .i64 o.key, .int .i64 o.arg, .int .i64 o.res, .int .i64 o.call, .int .i64 o.ret, .bool o.done] 37)).alloc (.cells #[] 71)).alloc (.cells #[] 71)).alloc (.cells #[] 71)) 37 pv.vals
       simp only [World.size_alloc] at this
       exact this
      have hmc1 : ZA zhI I64 W w.heap.size l.length (setMap (XA l l.length)) := by rw [hW]; exact ((((hmc.alloc _).alloc _).alloc _).alloc _).alloc _
      have hmr1 : ZA zhI I64 W wb.heap.size k (setMap (zbf l k)) := by rw [hW]; exact ((((hmr.alloc _).alloc _).alloc _).alloc _).alloc _
      have hml1 : ZA zhI I64 W (wb.heap.size + 1) k (WY (xG l k)) := by rw [hW]; exact ((((hml.alloc _).alloc _).alloc _).alloc _).alloc _
      have hbW : Below wr.heap.size wr W := by rw [hW]; exact ((((YZ _).alloc (by simp) _).alloc (by simp; omega) _).alloc (by simp; omega) _).alloc (by simp; omega) _
      have q5 := hbW.cell (p := ⟨b1, o1 + k * 8 + 5, none⟩) hb1
      rw [← hW]
      clear hW hmc hmr hml
      obtain ⟨x0, x1, x2, x3, x4, x5, x6, x7⟩ := B1.op
      cases hwf : wfB o with
      | false =>
       go_wp2_with (go_at_call 30; refine (Xg o _).mono ?_; rintro e w2 ⟨rfl, hb2⟩)
       go_ret
       exact ⟨congrArg _ (congrArg _ (zaY Hno.out hlt (by rw [zc8, if_pos (by rw [ho]; exact hwf)]) (by decide))), hb.trans ((zjO hbW hb2).mono hsz)⟩
      | true =>
       have hP := hbW.size
       go_upto_region 20 with (go_at_call 30; refine (Xg o _).mono ?_; rintro e w2 ⟨rfl, hb2⟩)
       have hbw2 := zjO hbW hb2
       have C1 := B1.below hb2 B1.lt
       have C2 := B2.below hb2 B2.lt
       have hmc2 := hmc1.ext hb2
       have hmr2 := hmr1.ext hb2
       have hml2 := hml1.ext hb2
       clear B1 B2 hmc1 hmr1 hml1 x0 x1 x2 x3 x4 x5 x6 x7 hb2 hbW q5
       obtain ⟨x0, x1, x2, x3, x4, x5, x6, x7⟩ := C1.op
       obtain ⟨y0, y1, y2, y3, y4, y5, y6, y7⟩ := C2.op
       have Hwf := Lib.hid hwf
       clear hwf
       have hsz4 := hbw2.size
       by_cases hord : 0 < k ∧ o.call ≤ (nth l (k - 1)).call
       ·obtain ⟨hk0, hord⟩ := hord
        have hk1 : k - 1 < l.length := by omega
        obtain ⟨_, _, _, _, _, q5, _, _⟩ := ((h1.below hb).below (hbw2.mono hsz)).op' hk1
        have hk2 : (0 : Int) < (k : Int) := by omega
        go_wp2_with fail
        go_quiet (fail)
        go_wp2_with fail
        go_ret
        exact ⟨congrArg _ (congrArg _ (zaY Hno.out hlt (by rw [zc8, if_neg (by rw [ho, Hwf.out]; simp), if_pos (by rw [ho]; exact ⟨hk0, hord⟩)]) (by decide))), zbw (hb.trans (hbw2.mono hsz)) _⟩
       ·have Hord := Lib.hid hord
        go_cut [74] (fun s wx => s = .bool false ∧ ∃ n, wx = w2.drewN n)
        case first =>
         by_cases hk0 : 0 < k
         ·have hk1 : k - 1 < l.length := by omega
          obtain ⟨_, _, _, _, _, q5, _, _⟩ := ((h1.below hb).below (hbw2.mono hsz)).op' hk1
          have hk2 : (0 : Int) < (k : Int) := by omega
          have hle : (nth l (k - 1)).call < o.call := by
           have := Hord.out
           omega
          clear hord
          go_wp2_with fail
          go_quiet (fail)
          go_wp2_with fail
          go_meet
          case rel => exact ⟨by simp; omega, _, rfl⟩
         ·have hk2 : decide ((0 : Int) < (k : Int)) = false := by simp; omega
          clear hord
          go_wp2_with fail
          go_quiet (fail)
          go_wp2_with fail
          go_meet
          case rel => exact ⟨by simp, _, rfl⟩
        case rest =>
         obtain ⟨rfl, n, rfl⟩ := hcut
         clear hord
         go_upto_region 22 with fail
         go_cut [11, 13, 15, 88] (fun _ _ _ s wx => s = .bool (b5 || (o.done && (b6 || b7))) ∧ wx = w2.drewN n)
         case first =>
          go_wp2_with fail
          all_goals go_meet
          all_goals exact ⟨by simp [*], rfl⟩
         case rest =>
          obtain ⟨rfl, rfl⟩ := hcut
          obtain ⟨b8, hb8⟩ : ∃ b8, (b5 || (o.done && (b6 || b7))) = b8 := ⟨_, rfl⟩
          rw [hb8]
          have Hb8 := Lib.hid hb8
          clear hb8
          have e1 : ¬ (wfB (nth l k) = false) := by rw [ho, Hwf.out]; simp
          have e2 : ¬ (0 < k ∧ (nth l k).call ≤ (nth l (k - 1)).call) := by rw [ho]; exact Hord.out
          have e3 : (zbf l k (nth l k).call || (nth l k).done && (zbf l k (nth l k).ret || XA l l.length (nth l k).ret)) = b8 := by rw [ho, Hb5.out, Hb6.out, Hb7.out]; exact Hb8.out
          have E1 := Lib.hid e1
          have E2 := Lib.hid e2
          have E3 := Lib.hid e3
          clear e1 e2 e3
          cases b8 with
          | true =>
           go_wp2_with fail
           go_ret
           exact ⟨congrArg _ (congrArg _ (zaY Hno.out hlt (by rw [zc8, if_neg E1.out, if_neg E2.out, if_pos E3.out]) (by decide))), zbw (hb.trans (hbw2.mono hsz)) _⟩
          | false =>
           go_upto_region 24 with fail
           go_cut [17, 100] (fun _ s wx => s = .bool (b4 && (!pv.done || decide (o.call < pv.ret))) ∧ wx = w2.drewN n)
           case first =>
            go_wp2_with fail
            all_goals go_meet
            all_goals exact ⟨by simp [*], rfl⟩
           case rest =>
            obtain ⟨rfl, rfl⟩ := hcut
            obtain ⟨b9, hb9⟩ : ∃ b9, (b4 && (!pv.done || decide (o.call < pv.ret))) = b9 := ⟨_, rfl⟩
            rw [hb9]
            have e4 : ((xG l k (nth l k).p).isSome = true ∧ (((xG l k (nth l k).p).getD default).done = false ∨ (nth l k).call < ((xG l k (nth l k).p).getD default).ret)) ↔ b9 = true := by
             rw [ho, Hb4.out, Hpv.out, ← hb9]; simp
            have E4 := Lib.hid e4
            clear hb9 e4
            cases b9 with
            | true =>
             go_wp2_with fail
             go_ret
             exact ⟨congrArg _ (congrArg _ (zaY Hno.out hlt (by rw [zc8, if_neg E1.out, if_neg E2.out, if_neg (by rw [E3.out]; simp), if_pos (E4.out.mpr (by trivial))]) (by decide))), zbw (hb.trans (hbw2.mono hsz)) _⟩
            | false =>
             have hz := zjc Hno.out hlt (by rw [zc8, if_neg E1.out, if_neg E2.out, if_neg (by rw [E3.out]; simp), if_neg (fun h => by have := E4.out.1 h; cases this)])
             have Hz := Lib.hid hz
             clear hz
             have Hst := Lib.hid (show xG l (k + 1) = fun p => if p = o.p then some o else xG l k p by rw [zdh, ho])
             have hne1 := hmr2.ne_blk C1
             have hne2 : wb.heap.size ≠ w.heap.size := by omega
             have hne3 : wb.heap.size ≠ wb.heap.size + 1 := by omega
             have hne4 := hml2.ne_blk C1
             cases hdn : o.done with
             | true =>
              rw [hdn] at x7
              have Hr := Lib.hid (zgW hlt (by rw [ho]; exact hdn))
              have Hdn := Lib.hid hdn
              clear hdn
              go_upto_region 28 with (at_mapUpdate; refine YV Yp Try.underlying70 (hmr2.drewN n) o.ret hI.2.2.2.2.2.2 (.agg #[]) rfl (.tmp 116) (.tmp 118) (.tmp 119) rfl rfl rfl rfl ?_; intro w3 hm3 hg3)
              have hsz5 : w2.heap.size ≤ w3.heap.size := hg3.size
              have D1 := (C1.drewN n).grown hg3 (by simpa using fun e => hne1 e.symm)
              have hml3 := (hml2.drewN n).grown hg3 (by simp)
              have hmc3 := (hmc2.drewN n).grown hg3 (by simpa using fun e => hne2 e.symm)
              have hb3 := (zbw (hb.trans (hbw2.mono hsz)) n).grown hg3 (by simp; omega) (by rintro k' ⟨⟩; omega)
              clear x0 x1 x2 x3 x4 x5 x6 x7 hg3
              obtain ⟨x0, x1, x2, x3, x4, x5, x6, x7⟩ := D1.op
              go_wp2_with (at_mapUpdate; refine YV Yp Try.underlying72 hml3 o.p hI.1 (.agg o.vals.toArray) rfl (.tmp 120) (.tmp 122) (.tmp 123) rfl rfl rfl rfl ?_; intro w4 hm4 hg4)
              go_roundw
              case rel =>
               refine ⟨k + 1, by omega, by go_num, hmc3.grown hg4 (by simp; omega), ?_, ?_, hb3.grown hg4 (by omega) (by rintro k' ⟨⟩; omega), by have := hg4.size; omega, Hz.out⟩
               ·rw [Hr.out, ho, ← zaI]; exact hm3.grown hg4 (by simp)
               ·rw [Hst.out, ← zcf]; exact hm4
              case measure => simp [intOf]; omega
             | false =>
              rw [hdn] at x7
              have Hr := Lib.hid (zfk hlt (by rw [ho]; exact hdn))
              have Hv := Lib.hid (show (.agg o.vals.toArray : Value) = .agg #[.int .i64 o.p, .int .i64 o.k, .int .i64 o.key, .int .i64 o.arg, .int .i64 o.res, .int .i64 o.call, .int .i64 o.ret, .bool false] by simp [OpV.vals, hdn])
              clear hdn
              go_wp2_with (at_mapUpdate; refine YV Yp Try.underlying72 (hml2.drewN n) o.p hI.1 (.agg #[.int .i64 o.p, .int .i64 o.k, .int .i64 o.key, .int .i64 o.arg, .int .i64 o.res, .int .i64 o.call, .int .i64 o.ret, .bool false]) rfl (.tmp 120) (.tmp 122) (.tmp 123) rfl rfl rfl rfl ?_; intro w4 hm4 hg4)
              have hsz5 : w2.heap.size ≤ w4.heap.size := hg4.size
              go_roundw
              case rel =>
               refine ⟨k + 1, by omega, by go_num, (hmc2.drewN n).grown hg4 (by simp; omega), ?_, ?_, (zbw (hb.trans (hbw2.mono hsz)) n).grown hg4 (by simp; omega) (by rintro k' ⟨⟩; omega), by omega, Hz.out⟩
               ·rw [Hr.out]; exact ((hmr2.drewN n).grown hg4 (by simp)).mono (by omega)
               ·rw [Hst.out, ← zcf, Hv.out]; exact hm4
              case measure => simp [intOf]; omega
     ·go_wp2
      go_ret
      obtain rfl : k = l.length := by omega
      have e := Hno.out
      rw [Nat.sub_self] at e
      exact ⟨by rw [← e]; rfl, hb⟩
end Go.Proofs.Ytokmanfcndelfaa
/-
 The types of this dump, for the machine of plain values (printed by wip/fmty.py, checked by the kernel).
-/
namespace Go.Proofs.Ytokmanfcndelfaa
set_option maxRecDepth 100000
def ziU : List (Nat × TS) := [
 (3, ⟨.int .i64, 1, 8, [.int .i64 0]⟩),
 (4, ⟨.bool, 1, 1, [.bool false]⟩),
 (1, ⟨.any, 1, 8, [.undef]⟩),
 (2, ⟨.int .i64, 1, 8, [.int .i64 0]⟩),
 (5, ⟨.int .u8, 1, 1, [.int .u8 0]⟩),
 (6, ⟨.int .u8, 1, 1, [.int .u8 0]⟩),
 (7, ⟨.strct [(0, 2), (1, 3), (2, 4), (3, 6)], 4, 24, [.int .i64 0, .int .i64 0, .bool false, .int .u8 0]⟩),
 (8, ⟨.strct [(0, 2), (1, 3), (2, 4), (3, 6)], 4, 24, [.int .i64 0, .int .i64 0, .bool false, .int .u8 0]⟩),
 (9, ⟨.str, 1, 16, [.str ByteArray.empty]⟩),
 (10, ⟨.str, 1, 16, [.str ByteArray.empty]⟩),
 (11, ⟨.str, 1, 16, [.str ByteArray.empty]⟩),
 (12, ⟨.int .u64, 1, 8, [.int .u64 0]⟩),
 (13, ⟨.strct [(0, 9), (1, 12)], 2, 24, [.str ByteArray.empty, .int .u64 0]⟩),
 (14, ⟨.strct [(0, 9), (1, 12)], 2, 24, [.str ByteArray.empty, .int .u64 0]⟩),
 (15, ⟨.any, 1, 8, [.undef]⟩),
 (16, ⟨.any, 1, 8, [.undef]⟩),
 (17, ⟨.any, 1, 8, [.undef]⟩),
 (18, ⟨.strct [(0, 17)], 1, 8, [.undef]⟩),
 (19, ⟨.strct [(0, 17)], 1, 8, [.undef]⟩),
 (20, ⟨.any, 1, 16, [.undef]⟩),
 (21, ⟨.int .i32, 1, 4, [.int .i32 0]⟩),
 (22, ⟨.slice 3, 1, 24, [.nil]⟩),
 (23, ⟨.slice 37, 1, 24, [.nil]⟩),
 (24, ⟨.any, 1, 8, [.undef]⟩),
 (25, ⟨.slice 28, 1, 24, [.nil]⟩),
 (26, ⟨.any, 1, 8, [.undef]⟩),
 (27, ⟨.strct [(0, 3), (1, 3), (2, 3)], 3, 24, [.int .i64 0, .int .i64 0, .int .i64 0]⟩),
 (28, ⟨.strct [(0, 3), (1, 3), (2, 3)], 3, 24, [.int .i64 0, .int .i64 0, .int .i64 0]⟩),
 (29, ⟨.strct [(0, 22), (1, 25)], 2, 48, [.nil, .nil]⟩),
 (30, ⟨.strct [(0, 22), (1, 25)], 2, 48, [.nil, .nil]⟩),
 (31, ⟨.strct [(0, 3), (1, 3), (2, 3), (3, 30)], 5, 72, [.int .i64 0, .int .i64 0, .int .i64 0, .nil, .nil]⟩),
 (32, ⟨.strct [(0, 3), (1, 3), (2, 3), (3, 30)], 5, 72, [.int .i64 0, .int .i64 0, .int .i64 0, .nil, .nil]⟩),
 (33, ⟨.int .i64, 1, 8, [.int .i64 0]⟩),
 (35, ⟨.any, 1, 8, [.undef]⟩),
 (36, ⟨.strct [(0, 3), (1, 3), (2, 3), (3, 3), (4, 3), (5, 3), (6, 3), (7, 4)], 8, 64, [.int .i64 0, .int .i64 0, .int .i64 0, .int .i64 0, .int .i64 0, .int .i64 0, .int .i64 0, .bool false]⟩),
 (37, ⟨.strct [(0, 3), (1, 3), (2, 3), (3, 3), (4, 3), (5, 3), (6, 3), (7, 4)], 8, 64, [.int .i64 0, .int .i64 0, .int .i64 0, .int .i64 0, .int .i64 0, .int .i64 0, .int .i64 0, .bool false]⟩),
 (38, ⟨.any, 1, 8, [.undef]⟩),
 (39, ⟨.any, 1, 8, [.undef]⟩),
 (40, ⟨.any, 1, 8, [.undef]⟩),
 (41, ⟨.any, 1, 8, [.undef]⟩),
 (42, ⟨.slice 23, 1, 24, [.nil]⟩),
 (43, ⟨.any, 1, 8, [.undef]⟩),
 (44, ⟨.any, 1, 8, [.undef]⟩),
 (45, ⟨.slice 22, 1, 24, [.nil]⟩),
 (46, ⟨.slice 51, 1, 24, [.nil]⟩),
 (47, ⟨.any, 1, 8, [.undef]⟩),
 (48, ⟨.any, 1, 8, [.undef]⟩),
 (49, ⟨.any, 1, 8, [.undef]⟩),
 (50, ⟨.strct [(0, 3), (1, 49)], 2, 16, [.int .i64 0, .undef]⟩),
 (51, ⟨.strct [(0, 3), (1, 49)], 2, 16, [.int .i64 0, .undef]⟩),
 (52, ⟨.map 57 3, 1, 8, [.undef]⟩),
 (54, ⟨.any, 1, 8, [.undef]⟩),
 (56, ⟨.strct [(0, 3), (1, 3)], 2, 16, [.int .i64 0, .int .i64 0]⟩),
 (57, ⟨.strct [(0, 3), (1, 3)], 2, 16, [.int .i64 0, .int .i64 0]⟩),
 (58, ⟨.slice 59, 1, 24, [.nil]⟩),
 (59, ⟨.arr 2 3, 2, 16, [.int .i64 0, .int .i64 0]⟩),
 (60, ⟨.any, 1, 8, [.undef]⟩),
 (61, ⟨.any, 1, 8, [.undef]⟩),
 (63, ⟨.any, 1, 8, [.undef]⟩),
 (64, ⟨.any, 1, 8, [.undef]⟩),
 (65, ⟨.any, 1, 8, [.undef]⟩),
 (66, ⟨.any, 1, 8, [.undef]⟩),
 (67, ⟨.any, 1, 8, [.undef]⟩),
 (68, ⟨.any, 1, 8, [.undef]⟩),
 (69, ⟨.any, 1, 8, [.undef]⟩),
 (70, ⟨.map 3 71, 1, 8, [.undef]⟩),
 (71, ⟨.strct [], 0, 0, []⟩),
 (72, ⟨.map 3 37, 1, 8, [.undef]⟩),
 (75, ⟨.any, 1, 8, [.undef]⟩),
 (76, ⟨.any, 1, 8, [.undef]⟩),
 (77, ⟨.any, 1, 8, [.undef]⟩),
 (78, ⟨.any, 1, 8, [.undef]⟩),
 (79, ⟨.any, 1, 8, [.undef]⟩),
 (80, ⟨.any, 1, 8, [.undef]⟩),
 (81, ⟨.any, 1, 8, [.undef]⟩),
 (82, ⟨.any, 1, 8, [.undef]⟩),
 (83, ⟨.slice 3, 1, 24, [.nil]⟩),
 (84, ⟨.any, 1, 8, [.undef]⟩),
 (85, ⟨.any, 1, 8, [.undef]⟩),
 (86, ⟨.any, 1, 8, [.undef]⟩),
 (87, ⟨.any, 1, 8, [.undef]⟩),
 (88, ⟨.any, 1, 8, [.undef]⟩),
 (89, ⟨.any, 1, 8, [.undef]⟩),
 (90, ⟨.any, 1, 8, [.undef]⟩),
 (91, ⟨.any, 1, 8, [.undef]⟩),
 (92, ⟨.any, 1, 8, [.undef]⟩),
 (93, ⟨.any, 1, 8, [.undef]⟩),
 (94, ⟨.int .u64, 1, 8, [.int .u64 0]⟩),
 (97, ⟨.any, 1, 8, [.undef]⟩),
 (98, ⟨.any, 1, 8, [.undef]⟩),
 (99, ⟨.any, 1, 8, [.undef]⟩),
 (100, ⟨.any, 1, 8, [.undef]⟩),
 (101, ⟨.any, 1, 8, [.undef]⟩),
 (102, ⟨.any, 1, 8, [.undef]⟩),
 (103, ⟨.any, 1, 8, [.undef]⟩),
 (104, ⟨.any, 1, 8, [.undef]⟩),
 (106, ⟨.any, 1, 8, [.undef]⟩),
 (107, ⟨.any, 1, 8, [.undef]⟩),
 (108, ⟨.int .i64, 1, 8, [.int .i64 0]⟩),
 (110, ⟨.any, 1, 8, [.undef]⟩),
 (111, ⟨.any, 1, 8, [.undef]⟩),
 (112, ⟨.any, 1, 8, [.undef]⟩),
 (113, ⟨.any, 1, 8, [.undef]⟩),
 (114, ⟨.any, 1, 8, [.undef]⟩),
 (115, ⟨.int .u32, 1, 4, [.int .u32 0]⟩),
 (116, ⟨.any, 1, 8, [.undef]⟩),
 (117, ⟨.int .u64, 1, 8, [.int .u64 0]⟩),
 (119, ⟨.any, 1, 8, [.undef]⟩),
 (121, ⟨.any, 1, 8, [.undef]⟩),
 (122, ⟨.int .u64, 1, 8, [.int .u64 0]⟩),
 (123, ⟨.any, 1, 8, [.undef]⟩),
 (124, ⟨.any, 1, 8, [.undef]⟩),
 (125, ⟨.any, 1, 8, [.undef]⟩),
 (126, ⟨.any, 1, 8, [.undef]⟩),
 (127, ⟨.any, 1, 8, [.undef]⟩),
 (128, ⟨.any, 1, 8, [.undef]⟩),
 (130, ⟨.any, 1, 8, [.undef]⟩),
 (131, ⟨.any, 1, 8, [.undef]⟩),
 (132, ⟨.strct [(0, 17), (1, 17), (2, 17), (3, 9)], 4, 40, [.undef, .undef, .undef, .str ByteArray.empty]⟩),
 (133, ⟨.strct [(0, 17), (1, 17), (2, 17), (3, 9)], 4, 40, [.undef, .undef, .undef, .str ByteArray.empty]⟩),
 (134, ⟨.arr 0 16, 0, 0, []⟩),
 (137, ⟨.int .u8, 1, 1, [.int .u8 0]⟩),
 (138, ⟨.int .u8, 1, 1, [.int .u8 0]⟩),
 (139, ⟨.any, 1, 8, [.undef]⟩),
 (140, ⟨.any, 1, 8, [.undef]⟩),
 (141, ⟨.int .i32, 1, 4, [.int .i32 0]⟩),
 (142, ⟨.int .i32, 1, 4, [.int .i32 0]⟩),
 (143, ⟨.strct [(0, 12), (1, 12), (2, 115), (3, 137), (4, 5), (5, 5), (6, 138), (7, 139), (8, 140), (9, 141), (10, 142)], 11, 48, [.int .u64 0, .int .u64 0, .int .u32 0, .int .u8 0, .int .u8 0, .int .u8 0, .int .u8 0, .undef, .undef, .int .i32 0, .int .i32 0]⟩),
 (144, ⟨.strct [(0, 12), (1, 12), (2, 115), (3, 137), (4, 5), (5, 5), (6, 138), (7, 139), (8, 140), (9, 141), (10, 142)], 11, 48, [.int .u64 0, .int .u64 0, .int .u32 0, .int .u8 0, .int .u8 0, .int .u8 0, .int .u8 0, .undef, .undef, .int .i32 0, .int .i32 0]⟩)]
def zju (T : Nat) : TS := look {} ziU T
theorem zhg : ziU.all (fun p => match p.2.k with | .other => true | _ => Xx Try.prog p.1 p.2) = true := by kernel_rfl
theorem zd7 {α : Type} {d : α} {q : Nat → α → Bool} (hd : ∀ T, q T d = true) : ∀ (l : List (Nat × α)), l.all (fun p => q p.1 p.2) = true → ∀ T, q T (look d l T) = true
 | [], _, T => hd T
 | (i, a) :: l, h, T => by
  rw [List.all_cons, Bool.and_eq_true] at h
  rw [zC]
  split
  ·rename_i e; subst e; exact h.1
  ·exact zd7 hd l h.2 T
theorem zE (T : Nat) : (match (zju T).k with | .other => true | _ => Xx Try.prog T (zju T)) = true :=
 zd7 (q := fun T ts => match ts.k with | .other => true | _ => Xx Try.prog T ts) (fun _ => rfl) ziU zhg T
theorem zq : Try.prog.follows .mixedOrders = true := by kernel_rfl
def xB (P : Program) (h1 : ∀ T, (match (zju T).k with | .other => true | _ => Xx P T (zju T)) = true) (h2 : P.follows .mixedOrders = true) (N : Nat) : Ctx := ⟨P, N, zju, h1, h2⟩
end Go.Proofs.Ytokmanfcndelfaa
/-
 Between contracts on memory and contracts on plain values.
-/
namespace Go.Proofs.Ytokmanfcndelfaa
set_option linter.unusedVariables false
open Go.RowKit

structure Typ {α : Type} (sz : Nat) (vals : α → List Value) (fv : α → List FV) : Prop where
 rd : ∀ w I x, RdL w I (vals x) (fv x)
 inv : ∀ w I us x, RdL w I us (fv x) → us = vals x
 wide : ∀ x, (fv x).length = sz
 one : ∀ x, ∀ f ∈ fv x, f.one = true
 flat : ∀ x, FV.flat.flats (fv x) = true

section
variable {α : Type} {sz : Nat} {vals : α → List Value} {fv : α → List FV}
theorem Typ.flatRd (T : Typ sz vals fv) (w : World) (I : Nat → Prop) : ∀ l : List α, RdL w I (Ytokmanfcndelfaa.flat vals l) (l.map fv).flatten
 | [] => RdL.nil
 | x :: l => by
  simp only [Ytokmanfcndelfaa.flat, List.flatMap_cons, List.map_cons, List.flatten_cons]
  exact (T.rd w I x).append (T.flatRd w I l)
theorem Typ.flatInv (T : Typ sz vals fv) (w : World) (I : Nat → Prop) : ∀ (l : List α) (us : List Value), RdL w I us (l.map fv).flatten → us = Ytokmanfcndelfaa.flat vals l
 | [], us, h => by have := h.1; simpa [Ytokmanfcndelfaa.flat] using this
 | x :: l, us, h => by
  have h' := h
  simp only [List.map_cons, List.flatten_cons] at h
  have hl := T.wide x
  have h1 := h.take sz
  have h2 := h.drop sz
  rw [List.take_left' hl] at h1
  rw [List.drop_left' hl] at h2
  have e1 := T.inv w I _ x h1
  have e2 := T.flatInv w I l _ h2
  simp only [Ytokmanfcndelfaa.flat, List.flatMap_cons]
  rw [← e1, show List.flatMap vals l = Ytokmanfcndelfaa.flat vals l from rfl, ← e2, List.take_append_drop]
theorem Typ.wideM (T : Typ sz vals fv) (l : List α) : ∀ e ∈ l.map fv, e.length = sz := fun e he => by
 obtain ⟨x, _, rfl⟩ := List.mem_map.1 he; exact T.wide x
theorem Typ.oneM (T : Typ sz vals fv) (l : List α) : ∀ f ∈ (l.map fv).flatten, f.one = true := fun f hf => by
 obtain ⟨e, he, hfe⟩ := List.mem_flatten.1 hf
 obtain ⟨x, _, rfl⟩ := List.mem_map.1 he
 exact T.one x f hfe
theorem Typ.to (T : Typ sz vals fv) {w : World} {B : Nat} {A : Option Addr} {l : List α} {c : Nat} (h : Sl vals w B A l) (hc : l.length ≤ c) : Rd w (fun b => b < B) (.slice A l.length c) (.list sz (l.map fv)) := by
 have hR := T.flatRd w (fun b => b < B) l
 refine .list A l.length c sz _ (Ytokmanfcndelfaa.flat vals l) (by simp) hc (T.wideM l) (T.oneM l) (fun h0 => ?_) hR.1 hR.2
 obtain ⟨b, off, ha, hb, hcell⟩ := h (fun e => h0 (by rw [e]; rfl))
 exact ⟨b, off, ha, hb, hcell⟩
theorem Typ.of (T : Typ sz vals fv) {w : World} {I : Nat → Prop} {B : Nat} {v : Value} {l : List α} (h : Rd w I v (.list sz (l.map fv))) (hI : ∀ b, I b → b < B) : ∃ A c, v = .slice A l.length c ∧ l.length ≤ c ∧ Sl vals w B A l := by
 cases h with
 | list A n c sz es us hn hc he ho hA hl hr =>
  rw [List.length_map] at hn
  subst hn
  have := T.flatInv w I l us ⟨hl, hr⟩
  subst this
  refine ⟨A, c, rfl, hc, fun hne => ?_⟩
  obtain ⟨b, off, ha, hb, hcell⟩ := hA (by simpa using hne)
  exact ⟨b, off, ha, hI b hb, hcell⟩
theorem Typ.res (T : Typ sz vals fv) {w w' : World} {I : Nat → Prop} {E : Nat} {v : Value} {l : List α} (h : w'.ownsRow w.heap.size E sz v l.length (Ytokmanfcndelfaa.flat vals l)) : zfX w w' I (.ow E sz) v (.list sz (l.map fv)) :=
 ⟨_, _, rfl, T.wideM l, T.oneM l, by rw [List.length_map]; exact h, T.flatRd _ _ l⟩
end

theorem Rd.int_inv {w : World} {I : Nat → Prop} {v : Value} {k : IntKind} {n : Int} (h : Rd w I v (.int k n)) : v = .int k n := by cases h; rfl
theorem Rd.bool_inv {w : World} {I : Nat → Prop} {v : Value} {b : Bool} (h : Rd w I v (.bool b)) : v = .bool b := by cases h; rfl
theorem RdL.cons_inv {w : World} {I : Nat → Prop} {us : List Value} {f : FV} {fs : List FV} (h : RdL w I us (f :: fs)) : ∃ u vs, us = u :: vs ∧ Rd w I u f ∧ RdL w I vs fs := by
 cases us with
 | nil => have := h.1; simp at this
 | cons u vs => exact ⟨u, vs, rfl, h.2 0 u f rfl rfl, by have := h.1; simpa using this, fun j u' f' hu hf => h.2 (j + 1) u' f' (by simpa using hu) (by simpa using hf)⟩
theorem RdL.nil_inv {w : World} {I : Nat → Prop} {us : List Value} (h : RdL w I us []) : us = [] := by have := h.1; simpa using this

theorem RdL.inv1 {w : World} {I : Nat → Prop} {vs : List Value} {f0 : FV} (h : RdL w I vs [f0]) : ∃ u0, vs = [u0] ∧ Rd w I u0 f0 := by
 obtain ⟨u0, r0, rfl, e0, h0⟩ := h.cons_inv
 have := h0.nil_inv
 subst this
 exact ⟨u0, rfl, e0⟩
theorem RdL.inv2 {w : World} {I : Nat → Prop} {vs : List Value} {f0 f1 : FV} (h : RdL w I vs [f0, f1]) : ∃ u0 u1, vs = [u0, u1] ∧ Rd w I u0 f0 ∧ Rd w I u1 f1 := by
 obtain ⟨u0, r0, rfl, e0, h0⟩ := h.cons_inv
 obtain ⟨u1, r1, rfl, e1, h1⟩ := h0.cons_inv
 have := h1.nil_inv
 subst this
 exact ⟨u0, u1, rfl, e0, e1⟩
def zp (x : Int) : List FV := [.int .i64 x]
theorem zhm : Typ 1 zir zp where
 rd w I x := RdL.cons (.int _ _) .nil
 inv w I us x h := by
  obtain ⟨u, vs, rfl, h1, h2⟩ := h.cons_inv
  rw [h1.int_inv, h2.nil_inv]; rfl
 wide x := rfl
 one x f hf := by simp [zp] at hf; subst hf; rfl
 flat x := rfl
def OpV.fv (o : OpV) : List FV := [.int .i64 o.p, .int .i64 o.k, .int .i64 o.key, .int .i64 o.arg, .int .i64 o.res, .int .i64 o.call, .int .i64 o.ret, .bool o.done]
theorem opT : Typ 8 OpV.vals OpV.fv where
 rd w I x := RdL.cons (.int _ _) <| RdL.cons (.int _ _) <| RdL.cons (.int _ _) <| RdL.cons (.int _ _) <| RdL.cons (.int _ _) <| RdL.cons (.int _ _) <| RdL.cons (.int _ _) <| RdL.cons (.bool _) .nil
 inv w I us x h := by
  obtain ⟨_, _, rfl, h1, h⟩ := h.cons_inv
  obtain ⟨_, _, rfl, h2, h⟩ := h.cons_inv
  obtain ⟨_, _, rfl, h3, h⟩ := h.cons_inv
  obtain ⟨_, _, rfl, h4, h⟩ := h.cons_inv
  obtain ⟨_, _, rfl, h5, h⟩ := h.cons_inv
  obtain ⟨_, _, rfl, h6, h⟩ := h.cons_inv
  obtain ⟨_, _, rfl, h7, h⟩ := h.cons_inv
  obtain ⟨_, _, rfl, h8, h⟩ := h.cons_inv
  rw [h1.int_inv, h2.int_inv, h3.int_inv, h4.int_inv, h5.int_inv, h6.int_inv, h7.int_inv, h8.bool_inv, h.nil_inv]; rfl
 wide x := rfl
 one x f hf := by simp [OpV.fv] at hf; rcases hf with rfl | rfl | rfl | rfl | rfl | rfl | rfl | rfl <;> rfl
 flat x := rfl

theorem yc.law {P : Program} {f : Nat} {args : List FV} (h : yc P f args .fr (.bool true)) {w : World} {vs : List Value} (hv : RdL w (fun b => b < w.heap.size) vs args) : Calls P f vs.toArray w fun e w' => e = .returned (.bool true) ∧ Below w.heap.size w w' := by
 refine (h.calls w _ vs (fun b hb => hb) hv).mono ?_
 rintro e w' ⟨v, rfl, hb, hr⟩
 have hr' : Rd w' _ v (.bool true) := hr
 rw [hr'.bool_inv]
 exact ⟨rfl, hb⟩
theorem Ul {c : Ctx} {fn : Func} {t : List (Nat × FV)} {ob : List (Nat × zt)} {d id ver n E sz : Nat} {es es' : List (List FV)} (hr : fn.results.toList = [.tmp d]) (h : look .undef t d = .own id ver 0 n) (hb : look {} ob id = ⟨ver, .own, E, sz, es⟩) (hn : n = es.length) (hp : 0 < sz) (e : es = es')
  (hf : ∀ e ∈ es', FV.flat.flats e = true) : Ret c fn ⟨t, ob⟩ (.ow E sz) (.list sz es') := by
 subst e
 have hb' : (⟨t, ob⟩ : FSt).ob id = ⟨ver, .own, E, sz, es⟩ := hb
 have := Ret.ow (c := c) (fn := fn) (s := ⟨t, ob⟩) hr h (by rw [hb']) (by rw [hb']) (by rw [hb']; exact hn) (by rw [hb']; exact hp) (by rw [hb']; exact hf)
 rw [hb'] at this
 exact this
theorem zj {c : Ctx} {fn : Func} {s : FSt} {d : Nat} {f f' : FV} (hr : fn.results.toList = [.tmp d]) (h : s.get d = f) (e : f = f') (hf : f'.flat = true) : Ret c fn s .fr f' := by
 subst e
 exact .flat (fs := [f]) (by rw [hr]; exact .cons (.tmp d h (FV.flat_hand hf)) .nil) rfl hf
theorem Typ.flatsM {α : Type} {sz : Nat} {vals : α → List Value} {fv : α → List FV} (T : Typ sz vals fv) (l : List α) : ∀ e ∈ l.map fv, FV.flat.flats e = true := fun e he => by
 obtain ⟨x, _, rfl⟩ := List.mem_map.1 he
 exact T.flat x
theorem xW {c : Ctx} {t : List (Nat × FV)} {ob : List (Nat × zt)} {d T id ver E sz by_ : Nat} {kk : TK} {z cs : List FV} {lf : yb} (h : look .undef t d = .ptr id ver 0 0) (hb : look {} ob id = ⟨ver, lf, E, sz, [cs]⟩) (hl : lf.row = true) (hT : c.ty T = ⟨kk, sz, by_, z⟩) (hk : kk.agg? = some true)
  (hlen : cs.length = sz) (hp : 0 < sz) : ziA c ⟨t, ob⟩ (.cell d T) (.agg cs) := by
 have hb' : (⟨t, ob⟩ : FSt).ob id = ⟨ver, lf, E, sz, [cs]⟩ := hb
 have hk' : (c.ty T).k.agg? = some true := by rw [hT]; exact hk
 have := ziA.cell (c := c) (s := ⟨t, ob⟩) d T hk' h (zZ hb (yb.row_ne hl)) (by rw [hb']; exact hl) (by rw [hb']; exact Nat.zero_lt_one) (by rw [hb', hT]; simp) (by rw [hb']; exact hp)
 rw [hb'] at this
 unfold Zs at this
 rw [hk'] at this
 dsimp only at this
 rw [hT, List.drop_zero] at this
 simpa [List.take_of_length_le (Nat.le_of_eq hlen)] using this
end Go.Proofs.Ytokmanfcndelfaa
/-
 What history.Check looks at, told by indices.
-/
namespace Go.Proofs.Ytokmanfcndelfaa
set_option linter.unusedVariables false

theorem VW {l : List OpV} : ∀ {k : Nat} {p : Int} {o : OpV}, xG l k p = some o → ∃ m, m < k ∧ nth l m = o ∧ o.p = p
 | 0, _, _, h => by simp [xG] at h
 | k + 1, p, o, h => by
  simp only [xG] at h
  split at h
  ·rename_i hp
   injection h with h
   exact ⟨k, by omega, h, by rw [← h, hp]⟩
  ·obtain ⟨m, h1, h2⟩ := VW h
   exact ⟨m, by omega, h2⟩
theorem zdI {l : List OpV} {k : Nat} {f : OpV → Bool} (h : (l.take k).any f = true) : ∃ m, m < k ∧ m < l.length ∧ f (nth l m) = true := by
 obtain ⟨o, ho, hf⟩ := List.any_eq_true.1 h
 obtain ⟨m, hm, rfl⟩ := List.getElem_of_mem ho
 have hm' : m < k ∧ m < l.length := by simp at hm; omega
 refine ⟨m, hm'.1, hm'.2, ?_⟩
 rw [nth_eq hm'.2]
 simpa using hf

theorem Yn {l : List OpV} : ∀ (n k : Nat), (∀ j, k ≤ j → j < k + n → zc8 l j = 0) → yr l k n = 0
 | 0, _, _ => rfl
 | n + 1, k, h => by
  rw [XL (h k (Nat.le_refl _) (by omega))]
  exact Yn n (k + 1) fun j h1 h2 => h j (by omega) (by omega)

end Go.Proofs.Ytokmanfcndelfaa
/-
 simproofref01.Around: a number reduced below a bound.
-/
namespace Go.Proofs.Ytokmanfcndelfaa
set_option linter.unusedVariables false
open Go.RowKit

def xj (n most : Int) : Int := (if n < 0 then -(n + 1) else n) % most
theorem Yh {n most : Int} (h : 0 < most) : 0 ≤ xj n most := Int.emod_nonneg _ (by omega)
theorem Vm {n most : Int} (h : 0 < most) : xj n most < most := Int.emod_lt_of_pos _ h
set_option maxHeartbeats 400000 in
theorem zev (n most : Int) (w : World) (hn : I64 n) (h1 : 1 ≤ most) (h2 : most ≤ 4611686018427387904) :
  Calls Try.prog 11 #[.int .i64 n, .int .i64 most] w fun e w' => e = .returned (.int .i64 (xj n most)) ∧ w = w' := by
 unfold I64 at hn
 obtain ⟨g1, g2⟩ := hn
 by_cases hneg : n < 0
 ·have e : xj n most = (-(n + 1)) % most := by simp [xj, hneg]
  rw [e]
  clear e
  go_enter Try.func11, Try.ntmps11
  go_wp2
  go_ret
  have e2 : -(n + 1).tmod most = (-(n + 1)) % most := by rw [← Int.neg_tmod, Int.tmod_eq_emod_of_nonneg (by omega)]
  exact ⟨by simp [e2], rfl⟩
 ·have e : xj n most = n % most := by simp [xj, hneg]
  rw [e]
  clear e
  go_enter Try.func11, Try.ntmps11
  go_wp2
  go_ret
  exact ⟨rfl, rfl⟩
end Go.Proofs.Ytokmanfcndelfaa
/-
 The contracts of Around and history.Check, at plain values.
-/
namespace Go.Proofs.Ytokmanfcndelfaa
set_option linter.unusedVariables false
open Go.RowKit

theorem ZO (n most : Int) (hn : I64 n) (h1 : 1 ≤ most) (h2 : most ≤ 4611686018427387904) : yc Try.prog 11 [.int .i64 n, .int .i64 most] .fr (.int .i64 (xj n most)) where
 go := by kernel_rfl
 hand := rfl
 calls w I vs hI hv := by
  obtain ⟨_, _, rfl, e1, e2⟩ := hv.inv2
  rw [e1.int_inv, e2.int_inv]
  refine (zev n most w hn h1 h2).mono ?_
  rintro e w' ⟨rfl, rfl⟩
  exact ⟨_, rfl, Below.refl _ _, .int _ _⟩
theorem VP (l : List OpV) (hin : ∀ o ∈ l, zcS o) (hlen : l.length ≤ 1000000000) : yc Try.prog 12 [.list 8 (l.map OpV.fv)] .fr (.int .i64 (VO l)) where
 go := by kernel_rfl
 hand := rfl
 calls w I vs hI hv := by
  obtain ⟨_, rfl, e1⟩ := hv.inv1
  obtain ⟨A, c, rfl, _, hs⟩ := opT.of e1 hI
  refine (zeP A c l w hs hin hlen).mono ?_
  rintro e w' ⟨rfl, hb⟩
  exact ⟨_, rfl, hb, .int _ _⟩
end Go.Proofs.Ytokmanfcndelfaa
/-
 The library's Sort and Compact of numbers, over this program.
-/
namespace Go.Proofs.Ytokmanfcndelfaa
open Go.Shelf
def zjm : Go.Shelf.Ren :=
{
 f := fun x =>
  match x with
  | 189 => 53
  | 125 => 62
  | 257 => 61
  | 128 => 73
  | 129 => 74
  | 294 => 64
  | 295 => 65
  | 296 => 66
  | 297 => 67
  | 298 => 68
  | 299 => 69
  | 216 => 70
  | 300 => 71
  | 301 => 72
  | 328 => 77
  | 329 => 78
  | 330 => 79
  | 331 => 80
  | 332 => 81
  | 215 => 56
  | 343 => 82
  | n => n,
 t := fun x =>
  match x with
  | 28 => 22
  | 3 => 3
  | 46 => 94
  | 0 => 0
  | 51 => 115
  | 53 => 117
  | 4 => 4
  | 183 => 109
  | 182 => 108
  | 131 => 55
  | 5 => 5
  | 9 => 9
  | 218 => 122
  | 222 => 126
  | 228 => 128
  | 229 => 129
  | n => n,
 g := fun x =>
  have n := x;
  n }
theorem zgD : Lays.n189 Try.prog zjm where
 mixed := by kernel_rfl
 f125 := by kernel_rfl
 f128 := by kernel_rfl
 f129 := by kernel_rfl
 f189 := by kernel_rfl
 f215 := by kernel_rfl
 f216 := by kernel_rfl
 f257 := by kernel_rfl
 f294 := by kernel_rfl
 f295 := by kernel_rfl
 f296 := by kernel_rfl
 f297 := by kernel_rfl
 f298 := by kernel_rfl
 f299 := by kernel_rfl
 f300 := by kernel_rfl
 f301 := by kernel_rfl
 f328 := by kernel_rfl
 f329 := by kernel_rfl
 f330 := by kernel_rfl
 f331 := by kernel_rfl
 f332 := by kernel_rfl
 f343 := by kernel_rfl
 t0 := by kernel_rfl
 a0 := fun _ => by kernel_rfl
 z0 := fun _ => by kernel_rfl
 v0 := fun _ => by kernel_rfl
 t3 := by kernel_rfl
 a3 := fun _ => by kernel_rfl
 z3 := fun _ => by kernel_rfl
 v3 := fun _ => by kernel_rfl
 t4 := by kernel_rfl
 a4 := fun _ => by kernel_rfl
 z4 := fun _ => by kernel_rfl
 v4 := fun _ => by kernel_rfl
 t5 := by kernel_rfl
 a5 := fun _ => by kernel_rfl
 z5 := fun _ => by kernel_rfl
 v5 := fun _ => by kernel_rfl
 t9 := by kernel_rfl
 a9 := fun _ => by kernel_rfl
 z9 := fun _ => by kernel_rfl
 v9 := fun _ => by kernel_rfl
 t28 := by kernel_rfl
 a28 := fun _ => by kernel_rfl
 z28 := fun _ => by kernel_rfl
 v28 := fun _ => by kernel_rfl
 t46 := by kernel_rfl
 a46 := fun _ => by kernel_rfl
 z46 := fun _ => by kernel_rfl
 v46 := fun _ => by kernel_rfl
 t51 := by kernel_rfl
 a51 := fun _ => by kernel_rfl
 z51 := fun _ => by kernel_rfl
 v51 := fun _ => by kernel_rfl
 t53 := by kernel_rfl
 a53 := fun _ => by kernel_rfl
 z53 := fun _ => by kernel_rfl
 v53 := fun _ => by kernel_rfl
 t131 := by kernel_rfl
 a131 := fun _ => by kernel_rfl
 z131 := fun _ => by kernel_rfl
 v131 := fun _ => by kernel_rfl
 t182 := by kernel_rfl
 a182 := fun _ => by kernel_rfl
 z182 := fun _ => by kernel_rfl
 v182 := fun _ => by kernel_rfl
 t183 := by kernel_rfl
 a183 := fun _ => by kernel_rfl
 z183 := fun _ => by kernel_rfl
 v183 := fun _ => by kernel_rfl
 t218 := by kernel_rfl
 a218 := fun _ => by kernel_rfl
 z218 := fun _ => by kernel_rfl
 v218 := fun _ => by kernel_rfl
 t222 := by kernel_rfl
 a222 := fun _ => by kernel_rfl
 z222 := fun _ => by kernel_rfl
 v222 := fun _ => by kernel_rfl
 t228 := by kernel_rfl
 a228 := fun _ => by kernel_rfl
 z228 := fun _ => by kernel_rfl
 v228 := fun _ => by kernel_rfl
 t229 := by kernel_rfl
 a229 := fun _ => by kernel_rfl
 z229 := fun _ => by kernel_rfl
 v229 := fun _ => by kernel_rfl
def zjJ : Go.Shelf.Ren :=
{
 f := fun x =>
  match x with
  | 20 => 54
  | n => n,
 t := fun x =>
  match x with
  | 22 => 22
  | 3 => 3
  | 4 => 4
  | 0 => 0
  | n => n,
 g := fun x =>
  have n := x;
  n }
theorem zis : Lays2.n20 Try.prog zjJ where
 mixed := by kernel_rfl
 f20 := by kernel_rfl
 t0 := by kernel_rfl
 a0 := fun _ => by kernel_rfl
 z0 := fun _ => by kernel_rfl
 v0 := fun _ => by kernel_rfl
 t3 := by kernel_rfl
 a3 := fun _ => by kernel_rfl
 z3 := fun _ => by kernel_rfl
 v3 := fun _ => by kernel_rfl
 t4 := by kernel_rfl
 a4 := fun _ => by kernel_rfl
 z4 := fun _ => by kernel_rfl
 v4 := fun _ => by kernel_rfl
 t22 := by kernel_rfl
 a22 := fun _ => by kernel_rfl
 z22 := fun _ => by kernel_rfl
 v22 := fun _ => by kernel_rfl
 i3 := by kernel_rfl
end Go.Proofs.Ytokmanfcndelfaa
/-
 The library's sort and compaction of numbers, on an object of the caller's.
-/
namespace Go.Proofs.Ytokmanfcndelfaa
set_option linter.unusedVariables false
open Go.RowKit Go.Sort

theorem Ud {w : World} {n b E : Nat} {cur : Array Value} {ys : List Int} {os : Array Obj} (hb : w.heap[b]? = some (.cells cur E (0, 0))) (hlen : ys.length ≤ cur.size) :
  w.grownBy (Go.Sort.grow (putRow (Value.int .i64) (Sort.ahead w n) b 0 ys.toArray) os) (some b) ∧
   ∃ cur', (Go.Sort.grow (putRow (Value.int .i64) (Sort.ahead w n) b 0 ys.toArray) os).heap[b]? = some (.cells cur' E (0, 0)) ∧ cur'.size = cur.size ∧ ∀ m, m ≤ ys.length → cur'.toList.take m = (ys.take m).map (Value.int .i64) := by
 have hlt : b < w.heap.size := (Array.getElem?_eq_some_iff.1 hb).1
 have hsz : (putRow (Value.int .i64) (Sort.ahead w n) b 0 ys.toArray).heap.size = w.heap.size := by simp
 refine ⟨⟨rfl, rfl, rfl, by simp, fun k hk hne => ?_⟩, putCells (Value.int .i64) 0 ys.toArray cur, ?_, by simp [putCells], fun m hm => ?_⟩
 ·rw [heap_grow_old _ _ (by rw [hsz]; exact hk)]
  simp only [putRow, mapBlock, Array.getElem?_modify, heap_ahead]
  rw [if_neg (fun e => hne (by rw [e]))]
 ·rw [heap_grow_old _ _ (by rw [hsz]; exact hlt)]
  simp only [putRow, mapBlock, Array.getElem?_modify, heap_ahead, hb, if_true, Option.map_some, onCells]
 ·apply List.ext_getElem
  ·simp [putCells]; omega
  ·intro i h1 h2
   have hi : i < m := by simp at h1; omega
   have hi2 : i < ys.length := by omega
   simp [putCells, hi2]

section
variable {N : Nat} {w0 w : World} {J : JJ} {s s' : FSt} {a : Act} {β : Nat → Option Nat}
theorem za6 (h : FR N w0 J s a w β) {id ver E b : Nat} {zs : List Int} (hob : s.ob id = ⟨ver, .own, E, 1, zs.map zp⟩) (hb : β id = some b) :
  ∃ cur cap, w.heap[b]? = some (.cells cur E (0, 0)) ∧ zs.length ≤ cap ∧ cap ≤ maxLen ∧ cur.size = cap ∧ w0.heap.size ≤ b ∧ b < w.heap.size ∧ cur.toList.take zs.length = zs.map (Value.int .i64) := by
 have hl : (s.ob id).life ≠ .dead := by rw [hob]; exact (by decide : yb.own ≠ .dead)
 have hO := (h.obj id hl).rowR (by rw [hob]; rfl)
 have hlt := (h.obj id hl).lt hb
 obtain ⟨v, us, r1, r2, r3⟩ := hO.row
 rw [hob] at r1 r3
 dsimp only at r1 r3
 rcases r1.2 with ⟨rfl, _⟩ | ⟨g', cap, cur, rfl, _, hgg, hn, hm, hcs, htk⟩
 ·rw [← r2] at hb; simp [Value.ownBlock] at hb
 ·have hgb : g' = b := by rw [← r2] at hb; simpa [Value.ownBlock] using hb
  subst hgb
  have := zhm.flatInv w _ zs us r3
  refine ⟨cur, cap, hgg, by simpa using hn, hm, by simpa using hcs, hlt.1, hlt.2, ?_⟩
  rw [List.length_map, Nat.mul_one] at htk
  rw [htk, this, ZF]
theorem zaq {id b E : Nat} {cur : Array Value} {zs : List Int} (hb : w.heap[b]? = some (.cells cur E (0, 0))) (ht : cur.toList.take zs.length = zs.map (Value.int .i64)) : Holds (Value.int .i64) w b 0 zs.toArray := by
 intro j hj
 have hj' : j < zs.length := by simpa using hj
 have hjc : (cur.toList.take zs.length)[j]? = some (Value.int .i64 zs[j]) := by rw [ht]; simp [hj']
 rw [List.getElem?_take, if_pos hj'] at hjc
 refine ⟨?_, ?_⟩
 ·simp only [World.cell?, hb, Nat.zero_add]
  rw [← Array.getElem?_toList]
  simp [hjc, hj']
 ·simp [World.frozen?, hb]
theorem FR.reput (h : FR N w0 J s a w β) {id ver E b n : Nat} {zs ys : List Int} {os : Array Obj} (hob : s.ob id = ⟨ver, .own, E, 1, zs.map zp⟩) (hb : β id = some b) (hl : ys.length = zs.length)
  (hs : ∀ k, s'.ob k = if id = k then ⟨ver, .own, E, 1, ys.map zp⟩ else s.ob k) (hst : ∀ k, s'.get k = s.get k) : FR N w0 J s' a (Go.Sort.grow (putRow (Value.int .i64) (Sort.ahead w n) b 0 ys.toArray) os) β := by
 obtain ⟨cur, cap, h1, h2, h3, h4, h5, h6, h7⟩ := za6 h hob hb
 obtain ⟨hg, cur', g1, g2, g3⟩ := Ud (n := n) (ys := ys) (os := os) h1 (by omega)
 have hobE : (s.ob id).E = E := by rw [hob]
 have hobs : (s.ob id).sz = 1 := by rw [hob]
 have hobe : (s.ob id).es = zs.map zp := by rw [hob]
 refine h.write id (es := ys.map zp) (v := .slice (some ⟨b, 0, none⟩) ys.length cap) (xs := flat zir ys) (by rw [hob]) (by rw [hb]; exact hg) (by rw [hobs]; exact zhm.wideM ys) (zhm.oneM ys) ?_ (by rw [hb]; rfl) (zhm.flatRd w _ ys) (by rw [hobe]; simpa using hl) ?_ (fun k => ?_) hst
 ·rw [hobE, hobs]
  refine ⟨by rw [ZF]; simp, .inr ⟨b, cap, cur', by simp, h5, g1, by rw [List.length_map]; omega, h3, by omega, ?_⟩⟩
  rw [List.length_map, Nat.mul_one, g3 _ (Nat.le_refl _), List.take_length, ZF]
 ·intro b' c1 c2 e1 e2 e3
  rw [hb] at e1
  injection e1 with e1
  subst e1
  rw [hobE] at e2 e3
  rw [h1] at e2
  rw [g1] at e3
  injection e2 with e2; injection e2 with e2 _ _
  injection e3 with e3; injection e3 with e3 _ _
  rw [← e2, ← e3, g2]
 ·rw [hs, hob]
theorem FR.recut (h : FR N w0 J s a w β) {id ver E b n k : Nat} {zs ys : List Int} {os : Array Obj} (hob : s.ob id = ⟨ver, .own, E, 1, zs.map zp⟩) (hb : β id = some b) (hl : ys.length = zs.length) (hk : k ≤ ys.length)
  (hs : ∀ i, s'.ob i = if id = i then ⟨ver + 1, .own, E, 1, (ys.take k).map zp⟩ else s.ob i) (hst : ∀ k, s'.get k = s.get k) :
  ∃ β', FR N w0 J s' a (Go.Sort.grow (putRow (Value.int .i64) (Sort.ahead w n) b 0 ys.toArray) os) β' ∧ β' id = some b := by
 obtain ⟨cur, cap, h1, h2, h3, h4, h5, h6, h7⟩ := za6 h hob hb
 obtain ⟨hg, cur', g1, g2, g3⟩ := Ud (n := n) (ys := ys) (os := os) h1 (by omega)
 refine ⟨_, h.make (some id) id (E := E) (sz := 1) (es := (ys.take k).map zp) (v := .slice (some ⟨b, 0, none⟩) k cap) (xs := flat zir (ys.take k)) (fun i e => by injection e with e; subst e; rw [hob]; rfl) (by simpa [hb] using hg) (zhm.wideM _) (zhm.oneM _) ?_ (zhm.flatRd w _ _)
  (.inl (by simp [hb, Value.ownBlock])) (fun i => ?_) hst, by simp [Xf, Value.ownBlock]⟩
 ·have hlen : (ys.take k).length = k := by rw [List.length_take]; omega
  refine ⟨by rw [ZF]; simp, .inr ⟨b, cap, cur', by rw [List.length_map, hlen], h5, g1, by rw [List.length_map, hlen]; omega, h3, by omega, ?_⟩⟩
  rw [List.length_map, hlen, Nat.mul_one, g3 k hk, ZF]
 ·rw [hs, hob]
  by_cases e : id = i
  ·subst e; simp
  ·rw [if_neg e, if_neg e, if_neg (by intro e2; injection e2 with e2; exact e e2)]
end

theorem zbx (n : Int) (h0 : 0 ≤ n) (h1 : n ≤ 18446744073709551615) : yc Try.prog 62 [.int .u64 n] .fr (.int .i64 (Lib.bitLen n.toNat)) where
 go := by kernel_rfl
 hand := rfl
 calls w I vs hI hv := by
  obtain ⟨_, rfl, e1⟩ := hv.inv1
  rw [e1.int_inv]
  refine (calls_of_every_depth fun D => AnyS.bits_LenIn { zgD with } D n w h0 h1).mono ?_
  rintro e w' ⟨rfl, rfl⟩
  exact ⟨_, rfl, Below.refl _ _, .int _ _⟩
theorem za5 : yc Try.prog 64 [.list 1 [], .int .i64 0, .int .i64 0] .fr (.tup []) := by
 refine yc.of_body (c := (xB Try.prog zE zq 49)) ⟨Try.func64, rfl, Try.ntmps64, by kernel_rfl⟩ (by simp [FV.hand]) (by exact Nat.le_of_ble_eq_true rfl) rfl ?_
 change FW _ _ _ ⟨[(0, .list 1 []), (1, .int .i64 0), (2, .int .i64 0)], []⟩
 (repeat (first | refine FW.seq ?_ | refine FW.region ?_ | refine FW.block ?_ | refine zd.nil ?_ | refine zb rfl rfl rfl ?_ | refine zw rfl rfl (by omega) rfl rfl ?_ | refine za rfl rfl rfl ?_))
 refine FW.loop (fun _ : Unit => ⟨[(2, .int .i64 0), (6, .int .i64 1)], []⟩) (fun _ => True) (fun _ => 0) () trivial (FLe.cv [] (by repeat (first | exact .nil)) (by repeat (first | exact .nil | refine .cons (.plain rfl rfl rfl) ?_))) ?_
 intro _ _
 (repeat (first | refine FW.seq ?_ | refine FW.region ?_ | refine FW.exit ?_ | refine FW.condF rfl ?_ | refine zd.nil ?_ | refine zb rfl rfl rfl ?_ | refine zN rfl rfl rfl rfl ?_))
 exact ⟨.inr rfl, .flat .nil rfl rfl⟩
theorem zgO (n : Int) : yc Try.prog 61 [.list 1 [], .int .i64 0, .int .i64 0, .int .i64 n] .fr (.tup []) := by
 refine yc.of_body (c := (xB Try.prog zE zq 134)) ⟨Try.func61, rfl, Try.ntmps61, by kernel_rfl⟩ (by simp [FV.hand]) (by exact Nat.le_of_ble_eq_true rfl) rfl ?_
 change FW _ _ _ ⟨[(0, .list 1 []), (1, .int .i64 0), (2, .int .i64 0), (3, .int .i64 n)], []⟩
 (repeat (first | refine FW.seq ?_ | refine FW.region ?_ | refine FW.block ?_ | refine zd.nil ?_ | refine za rfl rfl rfl ?_))
 refine FW.loop (fun _ : Unit => ⟨[(0, .list 1 []), (1, .int .i64 0), (2, .int .i64 0)], []⟩) (fun _ => True) (fun _ => 0) () trivial (FLe.cv [] (by repeat (first | exact .nil)) (by repeat (first | exact .nil | refine .cons (.plain rfl rfl rfl) ?_))) ?_
 intro _ _
 (repeat (first | refine FW.seq ?_ | refine FW.region ?_ | refine FW.block ?_ | refine FW.condT rfl ?_ | refine zd.nil ?_ | refine za rfl rfl rfl ?_ | refine zb rfl rfl rfl ?_ | refine Yv rfl rfl (by omega) rfl rfl ?_ | refine zg1 rfl rfl rfl rfl ?_))
 refine zX za5 (by repeat (first | exact zx.nil | refine zx.cons (by exact yI.plain rfl rfl) ?_)) rfl rfl ?_
 (repeat (first | refine zd.nil ?_))
 exact FW.ret ⟨.inl rfl, .flat .nil rfl rfl⟩
theorem zfD : yc Try.prog 53 [.list 1 []] .fr (.tup []) := by
 refine yc.of_body (c := (xB Try.prog zE zq 11)) ⟨Try.func53, rfl, Try.ntmps53, by kernel_rfl⟩ (by simp [FV.hand]) (by exact Nat.le_of_ble_eq_true rfl) rfl ?_
 change FW _ _ _ ⟨[(0, .list 1 [])], []⟩
 (repeat (first | refine FW.seq ?_ | refine FW.region ?_ | refine zd.nil ?_ | refine zb rfl rfl rfl ?_ | refine zg rfl rfl (by first | rfl | (simp; done)) rfl rfl ?_ | refine za rfl rfl rfl ?_ | refine zbh rfl rfl rfl (by simp; done) rfl rfl ?_))
 refine zX (zbx 0 (by decide) (by decide)) (by repeat (first | exact zx.nil | refine zx.cons (by exact yI.plain rfl rfl) ?_)) rfl rfl ?_
 skip
 refine zX (zgO _) (by repeat (first | exact zx.nil | refine zx.cons (by exact yI.plain rfl rfl) ?_)) rfl rfl ?_
 (repeat (first | refine zd.nil ?_))
 exact ⟨.inr rfl, .flat .nil rfl rfl⟩
theorem UC (t : List (Nat × FV)) (args : List FV) (k : Nat) (b b' : zt) (i : Nat) : (⟨t, [(k, b')]⟩ : FSt).ob i = if k = i then b' else (yP args [(k, b)]).ob i := by
 show look ({} : zt) [(k, b')] i = if k = i then b' else look ({} : zt) [(k, b)] i
 rw [zC, zC]
 split <;> rfl
theorem zg6 {N : Nat} {w0 w : World} {J : JJ} {s : FSt} {a : Act} {β : Nat → Option Nat} (h : FR N w0 J s a w β) {id ver E : Nat} {zs : List Int} (hob : s.ob id = ⟨ver, .own, E, 1, zs.map zp⟩) (hb : β id = none) : zs = [] := by
 have hO := (h.obj id (by rw [hob]; exact (by decide : yb.own ≠ .dead))).rowR (by rw [hob]; rfl)
 obtain ⟨v, us, r1, r2, r3⟩ := hO.row
 rw [hob] at r1
 dsimp only at r1
 rcases r1.2 with ⟨rfl, h0⟩ | ⟨g', cap, cur, rfl, _⟩
 ·simpa using h0
 ·rw [hb] at r2; simp [Value.ownBlock] at r2
theorem Yq {v : Nat} {b : zt} {res : FV} {o : Nat → zt} {k : Nat} (hr : res.cl [k] = true) (hl : (o k).life = .own) (hs : (o k).sz = b.sz) (hb : b.life = .own) : Xy [(k, b)] [] res o where
 old q hq _ := by
  obtain rfl : q = k := by simpa using hq
  exact ⟨by rw [hl]; rfl, by rw [hs, zC, if_pos rfl], by rw [hl, zC, if_pos rfl, hb]⟩
 new q hq := by cases hq
 cl q hq := by
  obtain rfl : q = k := by simpa using hq
  unfold zt.cl; rw [hl]
 res := hr
theorem zfE (v : Nat) (zs : List Int) (hz : zs.length < 4611686018427387904) : xh Try.prog 53 [.own 5000 v 0 zs.length] [(5000, ⟨v, .own, 3, 1, zs.map zp⟩)] []
  (fun res o => res = .tup [] ∧ o 5000 = ⟨v, .own, 3, 1, (zs.mergeSort fun x y => decide (x ≤ y)).map zp⟩) where
 go := by kernel_rfl
 post res o h := by obtain ⟨rfl, h⟩ := h; exact Yq (v := v) rfl (by rw [h]) (by rw [h]) rfl
 calls w0 J w β vs hF := by
  obtain ⟨v0, rfl⟩ : ∃ v0, vs = [v0] := by
   have := hF.size
   match vs, this with
   | [v0], _ => exact ⟨v0, rfl⟩
  have hob : (yP [.own 5000 v 0 zs.length] [(5000, ⟨v, .own, 3, 1, zs.map zp⟩)]).ob 5000 = ⟨v, .own, 3, 1, zs.map zp⟩ := rfl
  have h0 := hF.slot 0
  have hO : YY w (β 5000) _ v0 0 zs.length := h0 (by rw [hob]; exact (by decide : yb.own ≠ .dead)) rfl
  obtain ⟨A, c, e1, e2, e3, e4, e5⟩ := hO.ex
  subst e1
  cases hb : β 5000 with
  | none =>
   obtain rfl := zg6 hF hob hb
   obtain ⟨rfl, rfl⟩ := e4 hb
   refine (zfD.calls w (fun _ => False) [.slice none 0 0] (fun b h => h.elim) (RdL.cons (.list none 0 0 1 [] [] rfl (Nat.le_refl _) (by simp) (by simp) (by simp) (by simp) (by simp)) .nil)).mono ?_
   rintro e w' ⟨v1, rfl, hB, hr⟩
   have hG := hF.grow hB
   refine ⟨v1, .tup [], _, β, rfl, ⟨rfl, by simp [look]⟩, hG.slots rfl hF.defers fun d => ?_⟩
   cases d with
   | zero => exact VR.plain (hr.flat rfl _ _) rfl
   | succ d => exact VR.plain (.undef _) rfl
  | some b =>
   obtain ⟨o', rfl, k2, k3⟩ := e5 b hb
   have ho' := k2 (.inr rfl)
   have : o' = 0 := by rw [ho']; exact Nat.zero_mul _
   subst this
   obtain ⟨cur, cap, q1, q2, q3, q4, q5, q6, q7⟩ := za6 hF hob hb
   refine (Any.slices_Sort_int zgD b 0 c zs w (zaq (id := 0) q1 q7) q6 hz).mono ?_
   rintro e w' ⟨rfl, n, os, rfl⟩
   have hlen : (zs.mergeSort fun x y => decide (x ≤ y)).length = zs.length := List.length_mergeSort zs
   have hR := hF.reput (n := n) (os := os) (s' := ⟨(yP [.own 5000 v 0 zs.length] [(5000, ⟨v, .own, 3, 1, zs.map zp⟩)]).t, [(5000, ⟨v, .own, 3, 1, (zs.mergeSort fun x y => decide (x ≤ y)).map zp⟩)]⟩) hob hb hlen (fun k => UC _ _ _ _ _ k) (fun k => rfl)
   refine ⟨.tuple #[], .tup [], _, β, rfl, ⟨rfl, rfl⟩, hR.slots rfl hF.defers fun d => ?_⟩
   cases d with
   | zero => exact VR.plain (.tup [] [] rfl (by simp)) rfl
   | succ d => exact VR.plain (.undef _) rfl
theorem zaU (v : Nat) (zs : List Int) (hz : zs.length ≤ 9223372036854775807) : xh Try.prog 54 [.own 5000 v 0 zs.length] [(5000, ⟨v, .own, 3, 1, zs.map zp⟩)] []
  (fun res o => res = .own 5000 (v + 1) 0 (Lib.compact zs).length ∧ o 5000 = ⟨v + 1, .own, 3, 1, (Lib.compact zs).map zp⟩) where
 go := by kernel_rfl
 post res o h := by obtain ⟨rfl, h⟩ := h; exact Yq (v := v) rfl (by rw [h]) (by rw [h]) rfl
 calls w0 J w β vs hF := by
  obtain ⟨v0, rfl⟩ : ∃ v0, vs = [v0] := by
   have := hF.size
   match vs, this with
   | [v0], _ => exact ⟨v0, rfl⟩
  have hob : (yP [.own 5000 v 0 zs.length] [(5000, ⟨v, .own, 3, 1, zs.map zp⟩)]).ob 5000 = ⟨v, .own, 3, 1, zs.map zp⟩ := rfl
  have h0 := hF.slot 0
  have hO : YY w (β 5000) _ v0 0 zs.length := h0 (by rw [hob]; exact (by decide : yb.own ≠ .dead)) rfl
  obtain ⟨A, c, e1, e2, e3, e4, e5⟩ := hO.ex
  subst e1
  cases hb : β 5000 with
  | none =>
   obtain rfl := zg6 hF hob hb
   obtain ⟨rfl, rfl⟩ := e4 hb
   refine (Any.slices_Compact_int_empty zis none 0 w).mono ?_
   rintro e w' ⟨rfl, rfl⟩
   have hR := hF.make (some 5000) 5000 (E := 3) (sz := 1) (es := []) (v := .slice none 0 0) (xs := []) (s' := ⟨(yP [.own 5000 v 0 ([] : List Int).length] [(5000, ⟨v, .own, 3, 1, ([] : List Int).map zp⟩)]).t, [(5000, ⟨v + 1, .own, 3, 1, []⟩)]⟩)
    (fun i e => by injection e with e; subst e; rfl) ⟨rfl, rfl, rfl, Nat.le_refl _, fun _ _ _ => rfl⟩ (by simp) (by simp) (World.ownsRow_nil _ _ _ _) RdL.nil (.inl hb.symm) (fun k => by
     refine (UC _ [.own 5000 v 0 ([] : List Int).length] 5000 ⟨v, .own, 3, 1, ([] : List Int).map zp⟩ _ k).trans ?_
     by_cases e : 5000 = k
     ·rw [if_pos e, if_pos e]; rfl
     ·rw [if_neg e, if_neg e, if_neg (by intro e2; injection e2 with e2; exact e e2)]) (fun k => rfl)
   refine ⟨.slice none 0 0, .own 5000 (v + 1) 0 0, _, _, rfl, ⟨rfl, rfl⟩, hR.slots rfl hF.defers fun d => ?_⟩
   cases d with
   | zero =>
    refine ⟨fun _ _ => ⟨rfl, none, 0, rfl, Nat.le_refl _, by simp, fun _ => ⟨rfl, rfl⟩, fun b2 e => by simp [Xf, Value.ownBlock] at e⟩, fun id ver hm => ?_⟩
    have hm' := List.mem_singleton.1 hm
    injection hm' with m1 m2
    subst m1; subst m2
    exact Nat.le_refl _
   | succ d => exact VR.plain (.undef _) rfl
  | some b =>
   obtain ⟨o', rfl, k2, k3⟩ := e5 b hb
   have ho' := k2 (.inr rfl)
   have : o' = 0 := by rw [ho']; exact Nat.zero_mul _
   subst this
   obtain ⟨cur, cap, q1, q2, q3, q4, q5, q6, q7⟩ := za6 hF hob hb
   refine (Any.slices_Compact_int zis b 0 c zs w (zaq (id := 0) q1 q7) hz e2).mono ?_
   rintro e w' ⟨rfl, n, rfl⟩
   have hle : (Lib.compact zs).length ≤ zs.length := by
    unfold Lib.compact Lib.compactUpTo
    rw [List.length_map]
    exact Nat.le_trans (List.length_filter_le _ _) (by simp)
   have hlen : (Lib.compact zs ++ List.replicate (zs.length - (Lib.compact zs).length) 0).length = zs.length := by simp; omega
   obtain ⟨β', hR, hb'⟩ := hF.recut (n := n) (os := #[]) (k := (Lib.compact zs).length) (s' := ⟨(yP [.own 5000 v 0 zs.length] [(5000, ⟨v, .own, 3, 1, zs.map zp⟩)]).t, [(5000, ⟨v + 1, .own, 3, 1, (Lib.compact zs).map zp⟩)]⟩) hob hb hlen (by simp) (fun k => by
    rw [List.take_left]
    exact UC _ _ _ _ _ k) (fun k => rfl)
   rw [grow_empty] at hR
   have hcs : cur.size = (0 + c) * 1 := k3 cur q1
   refine ⟨.slice (some ⟨b, 0, none⟩) (Lib.compact zs).length c, .own 5000 (v + 1) 0 (Lib.compact zs).length, _, β', rfl, ⟨rfl, rfl⟩, hR.slots rfl hF.defers fun d => ?_⟩
   cases d with
   | zero =>
    refine ⟨fun _ _ => ⟨rfl, some ⟨b, 0, none⟩, c, rfl, by omega, ?_, fun e => ?_, fun b2 e => ?_⟩, fun id ver hm => ?_⟩
    ·show 0 + (Lib.compact zs).length ≤ ((Lib.compact zs).map zp).length
     simp
    ·rw [hb'] at e; cases e
    ·rw [hb'] at e
     injection e with e
     subst e
     refine ⟨0, rfl, fun _ => by simp, fun cur2 hc2 => ?_⟩
     obtain ⟨_, cur', g1, g2, _⟩ := Ud (w := w) (n := n) (ys := Lib.compact zs ++ List.replicate (zs.length - (Lib.compact zs).length) 0) (os := #[]) q1 (by rw [hlen]; omega)
     rw [grow_empty] at g1
     have hc2' : (putRow (Value.int .i64) (Sort.ahead w n) b 0 (Lib.compact zs ++ List.replicate (zs.length - (Lib.compact zs).length) 0).toArray).heap[b]? = some (.cells cur2 3 (0, 0)) := hc2
     rw [g1] at hc2'
     injection hc2' with hc2'
     injection hc2' with hc2' _ _
     rw [← hc2', g2]
     exact hcs
    ·have hm' := List.mem_singleton.1 hm
     injection hm' with m1 m2
     subst m1; subst m2
     exact Nat.le_refl _
   | succ d => exact VR.plain (.undef _) rfl
end Go.Proofs.Ytokmanfcndelfaa
