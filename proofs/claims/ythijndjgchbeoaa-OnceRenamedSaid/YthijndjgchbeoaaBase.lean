/-
  General words for memory: a slice that reads as a list of values of a fixed number of cells; a row of the call's own; worlds that only grow.
-/
import Derived.WalkKit
import Derived.WalkLawsBesides
import Derived.WalkSpells
import Derived.BigQuiet
import Derived.Deep.QuietTactic
import Derived.Handy
import Derived.Lib.Hide
import Derived.Maps.AppendAt
import Derived.StillTailTactics
import Derived.Deep.Draws
namespace Go.Proofs.Ythijndjgchbeoaa
set_option linter.unusedVariables false
open Go.RowKit

/-- The cells of a list, element by element. -/
def flat {α : Type} (vals : α → List Value) (l : List α) : List Value := l.flatMap vals

/-- Each element takes sz cells. -/
def Wide {α : Type} (sz : Nat) (vals : α → List Value) : Prop := ∀ a, (vals a).length = sz

section
variable {α : Type} {sz : Nat} {vals : α → List Value}
theorem flat_len (h : Wide sz vals) (l : List α) : (flat vals l).length = l.length * sz := by
  induction l with
  | nil => simp [flat]
  | cons a l ih => simp only [flat, List.flatMap_cons, List.length_append, List.length_cons] at *; rw [ih, h a, Nat.add_mul]; omega
theorem flat_append (l m : List α) : flat vals (l ++ m) = flat vals l ++ flat vals m := by simp [flat]
theorem flat_one (a : α) : flat vals [a] = vals a := by simp [flat]
theorem flat_get (h : Wide sz vals) : ∀ (l : List α) (i j : Nat) (hi : i < l.length), j < sz → (flat vals l)[i * sz + j]? = (vals l[i])[j]?
  | [], i, _, hi, _ => by simp at hi
  | a :: l, 0, j, _, hj => by
    simp only [flat, List.flatMap_cons, Nat.zero_mul, Nat.zero_add, List.getElem_cons_zero]
    rw [List.getElem?_append_left (by rw [h a]; exact hj)]
  | a :: l, i + 1, j, hi, hj => by
    have ih := flat_get h l i j (by simpa using hi) hj
    simp only [flat, List.flatMap_cons, List.getElem_cons_succ] at *
    rw [List.getElem?_append_right (by rw [h a, Nat.add_mul]; omega), h a, ← ih]
    congr 1
    rw [Nat.add_mul]; omega

theorem flat_set (h : Wide sz vals) : ∀ (l : List α) (i j : Nat) (u : Value) (a' : α) (hi : i < l.length), j < sz → vals a' = (vals l[i]).set j u → (flat vals l).set (i * sz + j) u = flat vals (l.set i a')
  | [], i, _, _, _, hi, _, _ => by simp at hi
  | a :: l, 0, j, u, a', _, hj, ha => by
    simp only [flat, List.flatMap_cons, Nat.zero_mul, Nat.zero_add, List.set_cons_zero, List.getElem_cons_zero] at *
    rw [List.set_append_left _ _ (by rw [h a]; exact hj), ha]
  | a :: l, i + 1, j, u, a', hi, hj, ha => by
    have ih := flat_set h l i j u a' (by simpa using hi) hj (by simpa using ha)
    simp only [flat, List.flatMap_cons, List.set_cons_succ] at *
    rw [List.set_append_right _ _ (by rw [h a, Nat.add_mul]; omega), h a, ← ih]
    congr 2
    rw [Nat.add_mul]; omega

/-- The slice with address A (its length is the list's) reads as the list, in blocks below B. -/
def Sl (vals : α → List Value) (w : World) (B : Nat) (A : Option Addr) (l : List α) : Prop :=
  l ≠ [] → ∃ b off, A = some ⟨b, off, none⟩ ∧ b < B ∧ ∀ j u, (flat vals l)[j]? = some u → w.cell? ⟨b, off + j, none⟩ = some u

variable {w w' : World} {B B' : Nat} {A : Option Addr} {l : List α}
theorem Sl.nil_ (vals : α → List Value) (w : World) (B : Nat) (A : Option Addr) : Sl vals w B A [] := fun h => absurd rfl h
theorem Sl.keep (h : Sl vals w B A l) (hk : ∀ p : Addr, p.block < B → w'.cell? p = w.cell? p) : Sl vals w' B A l := fun hl => by
  obtain ⟨b, off, ha, hb, hc⟩ := h hl
  exact ⟨b, off, ha, hb, fun j u hu => (hk _ hb).trans (hc j u hu)⟩
theorem Sl.more (h : Sl vals w B A l) (hB : B ≤ B') : Sl vals w B' A l := fun hl => by
  obtain ⟨b, off, ha, hb, hc⟩ := h hl
  exact ⟨b, off, ha, by omega, hc⟩
theorem Sl.below (h : Sl vals w B A l) (hb : Below B w w') : Sl vals w' B A l := h.keep fun _ hp => hb.cell hp
theorem Sl.ext (h : Sl vals w w.heap.size A l) (hb : Below w.heap.size w w') : Sl vals w' w'.heap.size A l := (h.below hb).more hb.size
theorem Sl.ext' (h : Sl vals w B A l) (hB : B ≤ w.heap.size) (hb : Below w.heap.size w w') : Sl vals w' B A l := h.below (hb.mono hB)
theorem Sl.get (h : Sl vals w B A l) (hs : Wide sz vals) {i : Nat} (hi : i < l.length) : ∃ b off, A = some ⟨b, off, none⟩ ∧ b < B ∧ ∀ j u, j < sz → (vals l[i])[j]? = some u → w.cell? ⟨b, off + i * sz + j, none⟩ = some u := by
  obtain ⟨b, off, ha, hb, hc⟩ := h (by rintro rfl; simp at hi)
  refine ⟨b, off, ha, hb, fun j u hj hu => ?_⟩
  rw [Nat.add_assoc]
  exact hc _ u (by rw [flat_get hs l i j hi hj]; exact hu)

/-- A row of the call's own, read. -/
theorem Sl.of_own {base : Nat} {e : TypeId} {n c : Nat} (h : w.ownsRow base e sz (.slice A n c) n (flat vals l)) (hl : n = l.length) : Sl vals w w.heap.size A l := fun hne => by
  rcases h.2 with ⟨hv, h0⟩ | ⟨g, cap, cur, hv, hg, hh, hn, hm, hc, ht⟩
  · subst h0; exact absurd (List.eq_nil_of_length_eq_zero hl.symm) hne
  · have hA : A = some ⟨g, 0, none⟩ := by injection hv
    subst hA
    have hlt : g < w.heap.size := (Array.getElem?_eq_some_iff.1 hh).1
    refine ⟨g, 0, rfl, hlt, fun j u hu => ?_⟩
    rw [Nat.zero_add, cell_of_row w g j cur e (0, 0) hh]
    rw [← ht, List.getElem?_take] at hu
    split at hu
    · simpa using hu
    · cases hu
theorem own_form {base : Nat} {e : TypeId} {v : Value} {n : Nat} {xs : List Value} (h : w.ownsRow base e sz v n xs) : ∃ A c, v = .slice A n c := by
  rcases h.2 with ⟨hv, h0⟩ | ⟨g, cap, cur, hv, _⟩
  · subst h0; exact ⟨none, 0, hv⟩
  · exact ⟨_, _, hv⟩
theorem own_cap {base : Nat} {e : TypeId} {A : Option Addr} {n c : Nat} {xs : List Value} (h : w.ownsRow base e sz (.slice A n c) n xs) : n ≤ c := by
  rcases h.2 with ⟨hv, h0⟩ | ⟨g, cap, cur, hv, _, _, hn, _⟩
  · omega
  · injection hv with _ _ hc; omega
theorem own_addr {base : Nat} {e : TypeId} {A : Option Addr} {n c : Nat} {xs : List Value} (h : w.ownsRow base e sz (.slice A n c) n xs) (hn : 0 < n) : ∃ g, A = some ⟨g, 0, none⟩ ∧ base ≤ g ∧ g < w.heap.size := by
  rcases h.2 with ⟨hv, h0⟩ | ⟨g, cap, cur, hv, hb, hg, _⟩
  · omega
  · injection hv with hA
    exact ⟨g, hA, hb, (Array.getElem?_eq_some_iff.1 hg).1⟩
/-- What is owned stays owned while only new blocks, or blocks from its heap's end on, turn. -/
theorem own_below {base : Nat} {e : TypeId} {v : Value} {n : Nat} {xs : List Value} (h : w.ownsRow base e sz v n xs) (hb : Below w.heap.size w w') : w'.ownsRow base e sz v n xs := by
  refine ⟨h.1, ?_⟩
  rcases h.2 with hn | ⟨g, cap, cur, rfl, hb', hgg, rest⟩
  · exact .inl hn
  · exact .inr ⟨g, cap, cur, rfl, hb', (hb.block g (Array.getElem?_eq_some_iff.1 hgg).1).trans hgg, rest⟩
theorem own_mono {base base' : Nat} {e : TypeId} {v : Value} {n : Nat} {xs : List Value} (h : w.ownsRow base e sz v n xs) (hb : base' ≤ base) : w.ownsRow base' e sz v n xs := by
  refine ⟨h.1, ?_⟩
  rcases h.2 with hn | ⟨g, cap, cur, rfl, hb', r⟩
  · exact .inl hn
  · exact .inr ⟨g, cap, cur, rfl, by omega, r⟩
end

/-- worlds that only grow -/
theorem bdrewN {B : Nat} {a w : World} (h : Below B a w) (n : Nat) : Below B a (w.drewN n) := ⟨h.os, h.tape, h.output, h.size, h.block⟩
theorem bdrew {B : Nat} {a w : World} (h : Below B a w) : Below B a w.drew := ⟨h.os, h.tape, h.output, h.size, h.block⟩
theorem bext {w w1 w2 : World} (h : Below w.heap.size w w1) (k : Below w1.heap.size w1 w2) : Below w.heap.size w w2 := h.trans (k.mono h.size)
theorem bgrown {B : Nat} {w w' : World} {v : Value} {e : TypeId} {sz n : Nat} {xs : List Value} (h : w.ownsRow B e sz v n xs) (hB : B ≤ w.heap.size) (hg : w.grownBy w' v.ownBlock) : Below B w w' :=
  (Below.refl B w).grown hg hB fun k hk => (h.lt k hk).1

/-- Block g is just the cells cs of type t, none frozen. -/
def Blk (w : World) (g : Nat) (t : TypeId) (cs : List Value) : Prop := w.heap[g]? = some (.cells cs.toArray t (0, 0))
section
variable {w w' : World} {g : Nat} {t : TypeId} {cs : List Value}
theorem Blk.lt (h : Blk w g t cs) : g < w.heap.size := by
  rcases Nat.lt_or_ge g w.heap.size with hlt | hge
  · exact hlt
  · unfold Blk at h; rw [Array.getElem?_eq_none hge] at h; cases h
theorem Blk.cell (h : Blk w g t cs) (i : Nat) : w.cell? ⟨g, i, none⟩ = cs[i]? := by rw [cell_of_row w g i cs.toArray t (0, 0) h]; simp
theorem Blk.frozen (h : Blk w g t cs) (i : Nat) : w.frozen? ⟨g, i, none⟩ = false := by
  unfold Blk at h
  simp [World.frozen?, h]
theorem Blk.new (w : World) (t : TypeId) (cs : List Value) : Blk (w.alloc (.cells cs.toArray t)) w.heap.size t cs := heap_alloc_new w _
theorem Blk.drew (h : Blk w g t cs) : Blk w.drew g t cs := h
theorem Blk.drewN (h : Blk w g t cs) (n : Nat) : Blk (w.drewN n) g t cs := h
theorem Blk.alloc (h : Blk w g t cs) (o : Obj) : Blk (w.alloc o) g t cs := (Below.heap_alloc w o g h.lt).trans h
theorem Blk.set_ (h : Blk w g t cs) (i : Nat) (u : Value) : Blk (w.setCell ⟨g, i, none⟩ u) g t (cs.set i u) := by
  unfold Blk at h ⊢
  simp [World.setCell, Array.getElem?_modify, h]
theorem Blk.far (h : Blk w g t cs) {p : Addr} (hp : g ≠ p.block) (u : Value) : Blk (w.setCell p u) g t cs := (Below.heap_setCell w p u g hp).trans h
theorem Blk.below {B : Nat} (h : Blk w g t cs) (hb : Below B w w') (hg : g < B) : Blk w' g t cs := (hb.block g hg).trans h
theorem Blk.grown {row : Option Nat} (h : Blk w g t cs) (hb : w.grownBy w' row) (hg : some g ≠ row) : Blk w' g t cs := (hb.block g h.lt hg).trans h
end

/-- the element at a place, the type's own first value beyond the end: closed to the walk -/
def nth {α : Type} [Inhabited α] (l : List α) (i : Nat) : α := l.getD i default
theorem nth_eq {α : Type} [Inhabited α] {l : List α} {i : Nat} (h : i < l.length) : nth l i = l[i] := by simp [nth, h]
theorem nth_append_left {α : Type} [Inhabited α] {l m : List α} {i : Nat} (h : i < l.length) : nth (l ++ m) i = nth l i := by
  rw [nth_eq h, nth_eq (by simp; omega), List.getElem_append_left h]
theorem nth_mem {α : Type} [Inhabited α] {l : List α} {i : Nat} (h : i < l.length) : nth l i ∈ l := by rw [nth_eq h]; exact List.getElem_mem h
theorem nth_append_len {α : Type} [Inhabited α] {l : List α} {a : α} : nth (l ++ [a]) l.length = a := by rw [nth_eq (by simp)]; simp

theorem nth_set_same {α : Type} [Inhabited α] {l : List α} {i : Nat} {a : α} (h : i < l.length) : nth (l.set i a) i = a := by rw [nth_eq (by simpa using h), List.getElem_set_self]
theorem nth_set_other {α : Type} [Inhabited α] {l : List α} {i j : Nat} {a : α} (h : i ≠ j) : nth (l.set i a) j = nth l j := by
  simp only [nth, List.getD_eq_getElem?_getD, List.getElem?_set_ne h]

/-- what a counted loop holds after k rounds -/
def loopN {σ : Type} (f : Nat → σ → σ) (s : σ) : Nat → σ
  | 0 => s
  | k + 1 => f k (loopN f s k)

/-- what a loop from lo holds when its counter is hi -/
def loopFT {σ : Type} (f : Nat → σ → σ) (s : σ) (lo hi : Nat) : σ := loopN (fun m => f (lo + m)) s (hi - lo)
theorem loopFT_lo {σ : Type} (f : Nat → σ → σ) (s : σ) (lo : Nat) : loopFT f s lo lo = s := by simp [loopFT, loopN]
theorem loopFT_step {σ : Type} (f : Nat → σ → σ) (s : σ) {lo j : Nat} (h : lo ≤ j) : loopFT f s lo (j + 1) = f j (loopFT f s lo j) := by
  unfold loopFT
  rw [show j + 1 - lo = (j - lo) + 1 by omega, loopN, show lo + (j - lo) = j by omega]

/-- within int -/
def I64 (x : Int) : Prop := -9223372036854775808 ≤ x ∧ x ≤ 9223372036854775807
theorem wrap_in (x : Int) (h : I64 x) : IntKind.i64.wrap x = x := by
  unfold I64 at h
  rw [IntKind.wrap_i64]
  omega
theorem wrap_small (x : Int) (h1 : -1000000000000 ≤ x) (h2 : x ≤ 1000000000000) : IntKind.i64.wrap x = x := wrap_in x ⟨by omega, by omega⟩

/-- The facts on a slice type that append wants. -/
structure SliceT (P : Program) (T E sz by_ : Nat) : Prop where
  u : P.underlying T = some (.slice E)
  i : ∃ i z, P.info? E = some i ∧ i.zero = some z ∧ i.size = sz ∧ i.bytes = by_ ∧ z.cells.size = sz
  pos : 0 < sz

/-- append of one element: the element lies in the block that was just made. -/
theorem wpList_app1 {P : Program} {T E sz by_ : Nat} (hT : SliceT P T E sz by_) {W : World} {ops : Array Oper} {rest : List Oper} {o : Oper} {a : Act} {Q : Exit → Act → World → Prop}
    {base : Nat} {v : Value} {n : Nat} {xs : List Value} (hown : W.ownsRow base E sz v n xs) {cs : List Value} {E' : TypeId}
    (hgd : o.guard = none) (s x : Operand) (ho : o.op = .call { callee := .builtin .append, args := #[s, x], argTypes := #[T, T] })
    (hs : a.eval s = v) (hx : a.eval x = .slice (some ⟨W.heap.size, 0, none⟩) 1 1) (hl : cs.length = sz) (h1 : ∀ u ∈ cs, u.oneCell' = true)
    (hn : n ≤ 1000000000) (hby : by_ ≤ 100000) (hbase : base ≤ W.heap.size)
    (h : ∀ A' c' w', w'.ownsRow base E sz (.slice A' (n + 1) c') (n + 1) (xs ++ cs) → Below base W w' → W.grownBy w' v.ownBlock → ((Value.slice A' (n + 1) c').ownBlock = v.ownBlock ∨ (∃ g, (Value.slice A' (n + 1) c').ownBlock = some g ∧ W.heap.size ≤ g)) →
      wpList P ops Q rest (a.put o.dst (.slice A' (n + 1) c')) w') :
    wpList P ops Q (o :: rest) a (W.alloc (.cells cs.toArray E')) := by
  obtain ⟨i, z, hi, hz, hsz, hbz, hzs⟩ := hT.i
  have hown1 := hown.alloc (.cells cs.toArray E')
  refine wpList_append_own_at _ hgd s x T ho base E i z sz by_ hT.u hi hz hsz hbz hzs hT.pos v n xs hs hown1 ⟨W.heap.size, 0, none⟩ 1 1 cs hx (by omega) ?_ h1 ?_ ?_ ?_ ?_
  · intro j u hu
    have e : (⟨W.heap.size, 0, none⟩ : Addr).add j = ⟨W.heap.size, j, none⟩ := by unfold Addr.add; split <;> simp_all
    rw [e, cell_of_row _ _ j cs.toArray E' (0, 0) (heap_alloc_new W _)]
    simpa using hu
  · unfold maxLen; omega
  · have : (n + 1) * by_ ≤ 1000000001 * 100000 := Nat.mul_le_mul (by omega) hby
    omega
  · simp; omega
  · intro v' w' ho' hg _ hloc
    obtain ⟨A', c', rfl⟩ := own_form ho'
    have hall := (World.grownBy_alloc W (.cells cs.toArray E') v.ownBlock).trans hg
    refine h A' c' w' ho' (bgrown hown hbase hall) hall (hloc.imp id fun hh => ⟨_, hh, by simp⟩)

/-- append of one element at a step of a region that draws its order: the world bears a draw. -/
theorem step_app1 {P : Program} {T E sz by_ : Nat} (hT : SliceT P T E sz by_) {W : World} {ops : Array Oper} {o : Oper} {a : Act} {K : Act → World → Prop} {Q : Exit → Act → World → Prop} {Z : Prop}
    {base : Nat} {v : Value} {n : Nat} {xs : List Value} (hown : W.ownsRow base E sz v n xs) {cs : List Value} {E' : TypeId}
    (hgd : o.guard = none) (s x : Operand) (ho : o.op = .call { callee := .builtin .append, args := #[s, x], argTypes := #[T, T] })
    (hs : a.eval s = v) (hx : a.eval x = .slice (some ⟨W.heap.size, 0, none⟩) 1 1) (hl : cs.length = sz) (h1 : ∀ u ∈ cs, u.oneCell' = true)
    (hn : n ≤ 1000000000) (hby : by_ ≤ 100000) (hbase : base ≤ W.heap.size)
    (h : ∀ A' c' w', w'.ownsRow base E sz (.slice A' (n + 1) c') (n + 1) (xs ++ cs) → Below base W w' → W.grownBy w' v.ownBlock → ((Value.slice A' (n + 1) c').ownBlock = v.ownBlock ∨ (∃ g, (Value.slice A' (n + 1) c').ownBlock = some g ∧ W.heap.size ≤ g)) →
      K (a.put o.dst (.slice A' (n + 1) c')) w') :
    if Region.wanted o (yielded ops a.tmps) = true then Oper.wp P o a (W.alloc (.cells cs.toArray E')).drew K Q else Z := by
  have hw : Region.wanted o (yielded ops a.tmps) = true := by simp [Region.wanted, hgd]
  rw [if_pos hw]
  obtain ⟨i, z, hi, hz, hsz, hbz, hzs⟩ := hT.i
  have hown1 := (hown.alloc (.cells cs.toArray E')).drew
  have hnews : ∀ j u, cs[j]? = some u → (W.alloc (.cells cs.toArray E')).drew.cell? ((⟨W.heap.size, 0, none⟩ : Addr).add j) = some u := by
    intro j u hu
    have e : (⟨W.heap.size, 0, none⟩ : Addr).add j = ⟨W.heap.size, j, none⟩ := by unfold Addr.add; split <;> simp_all
    rw [e]
    show (W.alloc (.cells cs.toArray E')).cell? _ = _
    rw [cell_of_row _ _ j cs.toArray E' (0, 0) (heap_alloc_new W _)]
    simpa using hu
  have hby2 : (n + 1) * by_ ≤ 1000000001 * 100000 := Nat.mul_le_mul (by omega) hby
  obtain ⟨v', w', hr, ho', hg, _, hloc⟩ := run_append_own_at (P := P) (W.alloc (.cells cs.toArray E')).drew base T o.type E i z sz by_ hT.u hi hz hsz hbz hzs hT.pos v n xs hown1 ⟨W.heap.size, 0, none⟩ 1 1 cs (by omega) hnews h1 (by unfold maxLen; omega) (by omega) (by simp; omega)
  obtain ⟨A', c', rfl⟩ := own_form ho'
  have hall : W.grownBy w' v.ownBlock := (World.grownBy_alloc W (.cells cs.toArray E') v.ownBlock).trans ⟨hg.os, hg.tape, hg.output, hg.size, hg.block⟩
  unfold Oper.wp execOp
  simp only [ho, resolve, invoke, builtin, Sem.run_bind, Sem.run_pure, Result.andThen_ok, List.map_toArray, List.map_cons, List.map_nil, hs, hx, hr]
  exact h A' c' w' ho' (bgrown hown hbase hall) hall (hloc.imp id fun hh => ⟨_, hh, by simp⟩)
theorem own_blk_ne {w : World} {g : Nat} {t : TypeId} {cs : List Value} {base : Nat} {e : TypeId} {size n : Nat} {v : Value} {xs : List Value} (h : w.ownsRow base e size v n xs) (hg : Blk w g t cs) (hne : e ≠ t) : some g ≠ v.ownBlock := by
  rcases h.2 with ⟨rfl, _⟩ | ⟨g', cap, cur, rfl, _, hh, _⟩
  · simp [Value.ownBlock]
  · intro he
    have : g = g' := by simpa [Value.ownBlock] using he
    subst this
    unfold Blk at hg
    rw [hg] at hh
    injection hh with hh
    injection hh with _ ht
    exact hne ht.symm
theorem own_own_ne {w : World} {base base' : Nat} {e e' : TypeId} {sz sz' n n' : Nat} {v v' : Value} {xs xs' : List Value} (h : w.ownsRow base e sz v n xs) (h' : w.ownsRow base' e' sz' v' n' xs') (hne : e ≠ e') : v.ownBlock = none ∨ v.ownBlock ≠ v'.ownBlock := by
  rcases h.2 with ⟨rfl, _⟩ | ⟨g, cap, cur, rfl, _, hh, _⟩
  · exact .inl rfl
  · rcases h'.2 with ⟨rfl, _⟩ | ⟨g', cap', cur', rfl, _, hh', _⟩
    · right; simp [Value.ownBlock]
    · right
      intro he
      have : g = g' := by simpa [Value.ownBlock] using he
      subst this
      rw [hh] at hh'
      injection hh' with hh'
      injection hh' with _ ht
      exact hne ht
theorem Blk.int {w : World} {g : Nat} {t : TypeId} {l : List Int} (h : Blk w g t (flat (fun x => [Value.int .i64 x]) l)) {i : Nat} (hi : i < l.length) : w.cell? ⟨g, i, none⟩ = some (.int .i64 (nth l i)) := by
  rw [h.cell i]
  have := flat_get (sz := 1) (vals := fun x => [Value.int .i64 x]) (fun _ => rfl) l i 0 hi (by omega)
  rw [nth_eq hi]
  simpa using this
end Go.Proofs.Ythijndjgchbeoaa
