/-
  A map of the call's own, read as a partial function on typed keys.
-/
import Derived.Test.YthijndjgchbeoaaTypes
import Derived.Maps.OwnSet
import Derived.DeepKeys4
namespace Go.Proofs.Ythijndjgchbeoaa
set_option linter.unusedVariables false
open Go.RowKit Go.Maps Go.MapKept Go.ChangeMaps

/-- The keys of a map's type as values of κ: closed to equality. -/
structure KeyT (P : Program) (k : TypeId) (κ : Type) (ek : κ → Value) (ok : κ → Prop) : Prop where
  K : Keyed P k
  of : ∀ x, ok x → ∃ l, keyOf P k (ek x) = some l
  inj : ∀ x y, ek x = ek y → x = y

/-- Block b is a map of at most n entries that answers f. -/
def MapK {κ : Type} (ek : κ → Value) (ok : κ → Prop) (w : World) (b n : Nat) (f : κ → Option Value) : Prop :=
  ∃ es clock, w.heap[b]? = some (.map es clock) ∧ es.size ≤ n ∧ Stamped es clock ∧ (∀ e ∈ es.toList, ∃ x, ok x ∧ e.key = ek x) ∧ ∀ x u, f x = some u ↔ ∃ e ∈ es.toList, e.key = ek x ∧ e.val = u

open Classical in
/-- f with u at x -/
noncomputable def upd {κ : Type} (f : κ → Option Value) (x : κ) (u : Value) : κ → Option Value := fun y => if y = x then some u else f y
theorem upd_same {κ : Type} (f : κ → Option Value) (x : κ) (u : Value) : upd f x u x = some u := by simp [upd]
theorem upd_other {κ : Type} (f : κ → Option Value) {x y : κ} (u : Value) (h : y ≠ x) : upd f x u y = f y := by simp [upd, h]

section
variable {κ : Type} {ek : κ → Value} {ok : κ → Prop} {P : Program} {k : TypeId} {w w' : World} {b n : Nat} {f : κ → Option Value}
theorem MapK.made (w : World) : MapK ek ok (w.alloc (.map #[] 0)) w.heap.size 0 (fun _ => none) :=
  ⟨#[], 0, heap_alloc_new w _, Nat.le_refl _, stamped_empty _, by simp, by simp⟩
theorem MapK.lt (h : MapK ek ok w b n f) : b < w.heap.size := by
  obtain ⟨es, clock, hb, _⟩ := h
  exact (Array.getElem?_eq_some_iff.1 hb).1
theorem MapK.mono (h : MapK ek ok w b n f) {n' : Nat} (hn : n ≤ n') : MapK ek ok w b n' f := by
  obtain ⟨es, clock, hb, hs, r⟩ := h
  exact ⟨es, clock, hb, by omega, r⟩
theorem MapK.of_block (h : MapK ek ok w b n f) (hb : w'.heap[b]? = w.heap[b]?) : MapK ek ok w' b n f := by
  obtain ⟨es, clock, hh, r⟩ := h
  exact ⟨es, clock, hb.trans hh, r⟩
theorem MapK.drewN (h : MapK ek ok w b n f) (m : Nat) : MapK ek ok (w.drewN m) b n f := h
theorem MapK.drew (h : MapK ek ok w b n f) : MapK ek ok w.drew b n f := h
theorem MapK.alloc (h : MapK ek ok w b n f) (o : Obj) : MapK ek ok (w.alloc o) b n f := h.of_block (Below.heap_alloc w o b h.lt)
theorem MapK.setCell (h : MapK ek ok w b n f) {p : Addr} (hp : b ≠ p.block) (u : Value) : MapK ek ok (w.setCell p u) b n f := h.of_block (Below.heap_setCell w p u b hp)
theorem MapK.grown {row : Option Nat} (h : MapK ek ok w b n f) (hg : w.grownBy w' row) (hr : some b ≠ row) : MapK ek ok w' b n f := h.of_block (hg.block b h.lt hr)
theorem MapK.ext (h : MapK ek ok w b n f) (hb : Below w.heap.size w w') : MapK ek ok w' b n f := h.of_block (hb.block b h.lt)
theorem MapK.below {B : Nat} (h : MapK ek ok w b n f) (hb : Below B w w') (hB : b < B) : MapK ek ok w' b n f := h.of_block (hb.block b hB)
/-- a map is no row -/
theorem MapK.ne_own (h : MapK ek ok w b n f) {base : Nat} {e : TypeId} {sz m : Nat} {v : Value} {xs : List Value} (ho : w.ownsRow base e sz v m xs) : some b ≠ v.ownBlock := by
  obtain ⟨es, clock, hb, _⟩ := h
  rcases ho.2 with ⟨rfl, _⟩ | ⟨g, cap, cur, rfl, _, hh, _⟩
  · simp [Value.ownBlock]
  · intro he
    have : b = g := by simpa [Value.ownBlock] using he
    subst this
    rw [hb] at hh
    cases hh
theorem MapK.ne_blk (h : MapK ek ok w b n f) {g : Nat} {t : TypeId} {cs : List Value} (ho : Blk w g t cs) : b ≠ g := by
  obtain ⟨es, clock, hb, _⟩ := h
  rintro rfl
  unfold Blk at ho
  rw [hb] at ho
  cases ho

theorem run_look {e t : TypeId} {z : Value} (T : KeyT P k κ ek ok) (ht : P.underlying t = some (.map k e)) (hz : (zeroValue e).run P w = .ok z w) (h : MapK ek ok w b n f) (c : Bool) (x : κ) (hx : ok x) :
    (Instr.lookup t (.map (some b)) (ek x) c).run P w = .ok (if c then .tuple #[(f x).getD z, .bool (f x).isSome] else (f x).getD z) w := by
  obtain ⟨es, clock, hb, hs, hst, hkeys, hf⟩ := h
  obtain ⟨l, hl⟩ := T.of x hx
  have hks : ∀ e ∈ es.toList, ∃ l, keyOf P k e.key = some l := fun e he => by
    obtain ⟨y, hy, he⟩ := hkeys e he
    obtain ⟨l, hl⟩ := T.of y hy
    exact ⟨l, by rw [he]; exact hl⟩
  rcases T.K.find w hl es.toList hks with ⟨h1, h2⟩ | ⟨j, e0, h1, h2, h3⟩
  · have hn : f x = none := by
      cases hfx : f x with
      | none => rfl
      | some u =>
        obtain ⟨e, he, hk, _⟩ := (hf x u).1 hfx
        exact absurd hk (h2 e he)
    cases c <;> simp [Instr.lookup, run_underlying ht, MapKept.run_getObj_map hb, T.K.check w _ hl, h1, hz, Result.andThen, hn]
  · have hn : f x = some e0.val := (hf x _).2 ⟨e0, List.mem_of_getElem? h2, h3, rfl⟩
    cases c <;> simp [Instr.lookup, run_underlying ht, MapKept.run_getObj_map hb, T.K.check w _ hl, h1, Result.andThen, hn]

theorem run_upd {e t : TypeId} (T : KeyT P k κ ek ok) (ht : P.underlying t = some (.map k e)) (h : MapK ek ok w b n f) (x : κ) (hx : ok x) (u : Value) :
    ∃ w', (Instr.mapUpdate t (.map (some b)) (ek x) u).run P w = .ok () w' ∧ MapK ek ok w' b (n + 1) (upd f x u) ∧ w.grownBy w' (some b) := by
  obtain ⟨es, clock, hb, hs, hst, hkeys, hf⟩ := h
  obtain ⟨l, hl⟩ := T.of x hx
  have hks : ∀ e ∈ es.toList, ∃ l, keyOf P k e.key = some l := fun e he => by
    obtain ⟨y, hy, he⟩ := hkeys e he
    obtain ⟨l, hl⟩ := T.of y hy
    exact ⟨l, by rw [he]; exact hl⟩
  have gr : ∀ o, w.grownBy (setBlock w b o) (some b) := fun o => ⟨rfl, rfl, rfl, by simp [setBlock], fun i _ hi => heap_setBlock_other hb _ (fun e => hi (by rw [e]))⟩
  rcases T.K.find w hl es.toList hks with ⟨h1, h2⟩ | ⟨j, e0, h1, h2, h3⟩
  · refine ⟨setBlock w b (.map (es.push ⟨ek x, u, clock⟩) (clock + 1)), ?_, ⟨_, _, heap_setBlock_same hb _, by simp; omega, stamped_push hst h2, ?_, ?_⟩, gr _⟩
    · simp [Instr.mapUpdate, run_underlying ht, MapKept.run_getObj_map hb, T.K.check w false hl, h1, MapKept.run_setObj_map _ hb, Result.andThen, setBlock]
    · intro e he
      simp only [Array.toList_push, List.mem_append, List.mem_singleton] at he
      rcases he with he | rfl
      · exact hkeys e he
      · exact ⟨x, hx, rfl⟩
    · intro y v
      by_cases hy : y = x
      · subst hy
        rw [upd_same]
        constructor
        · intro hv; injection hv with hv; exact ⟨⟨ek y, u, clock⟩, by simp, rfl, hv⟩
        · rintro ⟨e, he, hk, hv⟩
          simp only [Array.toList_push, List.mem_append, List.mem_singleton] at he
          rcases he with he | rfl
          · exact absurd hk (h2 e he)
          · rw [← hv]
      · rw [upd_other f u hy, hf]
        constructor
        · rintro ⟨e, he, hk, hv⟩; exact ⟨e, by simp [he], hk, hv⟩
        · rintro ⟨e, he, hk, hv⟩
          simp only [Array.toList_push, List.mem_append, List.mem_singleton] at he
          rcases he with he | rfl
          · exact ⟨e, he, hk, hv⟩
          · exact absurd (T.inj _ _ hk).symm hy
  · have hj : es[j]? = some e0 := by simpa using h2
    have hjl : j < es.toList.length := (List.getElem?_eq_some_iff.1 h2).1
    have hkeyf : ∀ e', es[j]? = some e' → ({ e' with key := ek x, val := u } : MapEntry).key = e'.key := fun e' he' => by rw [hj] at he'; cases he'; exact h3.symm
    have hlist : (es.modify j (fun e' => { e' with key := ek x, val := u })).toList = es.toList.set j { e0 with key := ek x, val := u } := by rw [Array.toList_modify, modify_eq_set _ _ _ _ h2]
    have hd := ((stamped_iff es clock).1 hst).2.2
    have other : ∀ i e, es.toList[i]? = some e → i ≠ j → e.key ≠ ek x := by
      intro i e hi hne
      rw [← h3]
      obtain ⟨hil, rfl⟩ := List.getElem?_eq_some_iff.1 hi
      obtain ⟨_, rfl⟩ := List.getElem?_eq_some_iff.1 h2
      rcases Nat.lt_or_gt_of_ne hne with hlt | hgt
      · exact List.pairwise_iff_getElem.1 hd i j hil hjl hlt
      · exact (List.pairwise_iff_getElem.1 hd j i hjl hil hgt).symm
    have who : ∀ y ∈ es.toList.set j { e0 with key := ek x, val := u }, y = { e0 with key := ek x, val := u } ∨ (y ∈ es.toList ∧ y.key ≠ ek x) := by
      intro y hy
      obtain ⟨i, hi, ex⟩ := List.getElem_of_mem hy
      rw [List.getElem_set] at ex
      split at ex
      · exact Or.inl ex.symm
      · rename_i hne
        have hi' : i < es.toList.length := by simpa using hi
        exact Or.inr ⟨ex ▸ List.getElem_mem hi', other i y (by rw [List.getElem?_eq_getElem hi', ex]) (fun e1 => hne e1.symm)⟩
    refine ⟨setBlock w b (.map (es.modify j (fun e' => { e' with key := ek x, val := u })) clock), ?_, ⟨_, _, heap_setBlock_same hb _, by simp; omega, stamped_modify hst _ _ (fun _ _ => rfl) (fun e' _ he' => hkeyf e' he'), ?_, ?_⟩, gr _⟩
    · simp [Instr.mapUpdate, run_underlying ht, MapKept.run_getObj_map hb, T.K.check w false hl, h1, hj, h3, T.K.stays w hl, MapKept.run_setObj_map _ hb, Result.andThen, setBlock]
    · intro e he
      rw [hlist] at he
      rcases who e he with rfl | ⟨he, _⟩
      · exact ⟨x, hx, rfl⟩
      · exact hkeys e he
    · intro y v
      rw [hlist]
      by_cases hy : y = x
      · subst hy
        rw [upd_same]
        constructor
        · intro hv; injection hv with hv
          exact ⟨{ e0 with key := ek y, val := u }, List.mem_iff_getElem.2 ⟨j, by simpa using hjl, by simp⟩, rfl, hv⟩
        · rintro ⟨e, he, hk, hv⟩
          rcases who e he with rfl | ⟨_, hne⟩
          · rw [← hv]
          · exact absurd hk hne
      · rw [upd_other f u hy, hf]
        constructor
        · rintro ⟨e, he, hk, hv⟩
          obtain ⟨i, hi, rfl⟩ := List.getElem_of_mem he
          have hij : i ≠ j := by
            rintro rfl
            obtain ⟨_, h2'⟩ := List.getElem?_eq_some_iff.1 h2
            rw [h2', h3] at hk
            exact hy (T.inj _ _ hk).symm
          exact ⟨es.toList[i], List.mem_iff_getElem.2 ⟨i, by simpa using hi, by rw [List.getElem_set, if_neg (fun e => hij e.symm)]⟩, hk, hv⟩
        · rintro ⟨e, he, hk, hv⟩
          rcases who e he with rfl | ⟨he, _⟩
          · exact absurd (T.inj _ _ hk).symm hy
          · exact ⟨e, he, hk, hv⟩

/-- 'm[x]' at the operation. -/
theorem wpList_look {e t : TypeId} {z : Value} {ops : Array Oper} {rest : List Oper} {o : Oper} {a : Act} {Q : Exit → Act → World → Prop}
    (T : KeyT P k κ ek ok) (ht : P.underlying t = some (.map k e)) (hz : (zeroValue e).run P w = .ok z w) (h : MapK ek ok w b n f) (x : κ) (hx : ok x)
    (hg : o.guard = none) (m i : Operand) (hop : o.op = Op.lookup t m i false) (hm : a.eval m = .map (some b)) (hi : a.eval i = ek x)
    (hK : wpList P ops Q rest (a.put o.dst ((f x).getD z)) w) : wpList P ops Q (o :: rest) a w := by
  refine wpList_plain hg fun K' hK' => ?_
  have hrun := run_look T ht hz h false x hx
  unfold Oper.wp
  simp [execOp, hop, hm, hi, hrun, Result.andThen]
  exact hK' _ _ hK
/-- 'v, ok := m[x]' at the operation. -/
theorem wpList_look_ok {e t : TypeId} {z : Value} {ops : Array Oper} {rest : List Oper} {o : Oper} {a : Act} {Q : Exit → Act → World → Prop}
    (T : KeyT P k κ ek ok) (ht : P.underlying t = some (.map k e)) (hz : (zeroValue e).run P w = .ok z w) (h : MapK ek ok w b n f) (x : κ) (hx : ok x)
    (hg : o.guard = none) (m i : Operand) (hop : o.op = Op.lookup t m i true) (hm : a.eval m = .map (some b)) (hi : a.eval i = ek x)
    (hK : wpList P ops Q rest (a.put o.dst (.tuple #[(f x).getD z, .bool (f x).isSome])) w) : wpList P ops Q (o :: rest) a w := by
  refine wpList_plain hg fun K' hK' => ?_
  have hrun := run_look T ht hz h true x hx
  unfold Oper.wp
  simp [execOp, hop, hm, hi, hrun, Result.andThen]
  exact hK' _ _ hK
/-- 'm[x] = u' at the operation. -/
theorem wpList_upd {e t : TypeId} {ops : Array Oper} {rest : List Oper} {o : Oper} {a : Act} {Q : Exit → Act → World → Prop}
    (T : KeyT P k κ ek ok) (ht : P.underlying t = some (.map k e)) (h : MapK ek ok w b n f) (x : κ) (hx : ok x) (u : Value)
    (hg : o.guard = none) (m i v : Operand) (hop : o.op = Op.mapUpdate t m i v) (hm : a.eval m = .map (some b)) (hi : a.eval i = ek x) (hv : a.eval v = u)
    (hK : ∀ w', MapK ek ok w' b (n + 1) (upd f x u) → w.grownBy w' (some b) → wpList P ops Q rest (a.put o.dst undef) w') : wpList P ops Q (o :: rest) a w := by
  refine wpList_plain hg fun K' hK' => ?_
  obtain ⟨w', hrun, h1, h2⟩ := run_upd T ht h x hx u
  unfold Oper.wp
  simp [execOp, hop, hm, hi, hv, hrun, Result.andThen]
  exact hK' _ _ (hK w' h1 h2)
end

/-- int keys -/
def ikey (x : Int) : Value := .int .i64 x
theorem i64_wf {x : Int} (h : I64 x) : (Lit.int .i64 x).wf = true := WalkArith.wf_i64 (by unfold I64 at h; omega)
theorem intKeys : KeyT Try.prog 3 Int ikey I64 := ⟨int_keyed Try.underlying3, fun x hx => ⟨_, keyOf_int_mk Try.underlying3 (i64_wf hx)⟩, fun x y h => by injection h⟩
end Go.Proofs.Ythijndjgchbeoaa
