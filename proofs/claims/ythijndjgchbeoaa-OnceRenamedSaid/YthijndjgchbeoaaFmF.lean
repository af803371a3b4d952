/-
  The operations of the machine of plain values that write or make memory.
-/
import Derived.Test.YthijndjgchbeoaaFmE
namespace Go.Proofs.Ythijndjgchbeoaa
set_option linter.unusedVariables false
open Go.RowKit

/-- a piece of a list replaced -/
def splice {α : Type} (cs : List α) (o : Nat) (ds : List α) : List α := cs.take o ++ ds ++ cs.drop (o + ds.length)
theorem splice_len {α : Type} {cs ds : List α} {o : Nat} (h : o + ds.length ≤ cs.length) : (splice cs o ds).length = cs.length := by
  unfold splice; simp; omega
theorem RdL.splice {w : World} {I : Nat → Prop} {us vs : List Value} {fs gs : List FV} (h : RdL w I us fs) (k : RdL w I vs gs) (o : Nat) : RdL w I (splice us o vs) (splice fs o gs) := by
  unfold Ythijndjgchbeoaa.splice
  rw [k.1]
  exact ((h.take o).append k).append (h.drop _)
theorem flat_splice {α : Type} {sz : Nat} : ∀ (es : List (List α)), (∀ e ∈ es, e.length = sz) → ∀ (i o : Nat) (ds : List α), i < es.length → o + ds.length ≤ sz →
    (es.set i (splice (es.getD i []) o ds)).flatten = splice es.flatten (i * sz + o) ds
  | [], _, i, _, _, hi, _ => by simp at hi
  | e :: es, he, 0, o, ds, _, ho => by
    have h1 := he e (by simp)
    simp only [List.set_cons_zero, List.getD_cons_zero, List.flatten_cons, Nat.zero_mul, Nat.zero_add]
    unfold splice
    rw [List.take_append_of_le_length (by omega), List.drop_append_of_le_length (by omega)]
    simp [List.append_assoc]
  | e :: es, he, i + 1, o, ds, hi, ho => by
    have h1 := he e (by simp)
    have ih := flat_splice es (fun x hx => he x (by simp [hx])) i o ds (by simpa using hi) ho
    simp only [List.set_cons_succ, List.getD_cons_succ, List.flatten_cons]
    rw [ih]
    unfold splice
    have e1 : (i + 1) * sz + o = e.length + (i * sz + o) := by rw [Nat.add_mul, h1]; omega
    rw [e1, List.take_length_add_append, show e.length + (i * sz + o) + ds.length = e.length + (i * sz + o + ds.length) by omega, List.drop_length_add_append]
    simp [List.append_assoc]
theorem set_wide {α : Type} {sz : Nat} {es : List (List α)} (he : ∀ e ∈ es, e.length = sz) {i o : Nat} {ds : List α} (hi : i < es.length) (ho : o + ds.length ≤ sz) : ∀ e ∈ es.set i (splice (es.getD i []) o ds), e.length = sz := by
  intro e hm
  rcases List.mem_or_eq_of_mem_set hm with h | h
  · exact he e h
  · subst h
    have := getD_len he hi
    rw [splice_len (by omega), this]
theorem mem_splice {α : Type} {cs ds : List α} {o : Nat} {x : α} (h : x ∈ splice cs o ds) : x ∈ cs ∨ x ∈ ds := by
  unfold splice at h
  simp only [List.mem_append] at h
  rcases h with (h | h) | h
  · exact .inl (List.mem_of_mem_take h)
  · exact .inr h
  · exact .inl (List.mem_of_mem_drop h)

section
variable {c : Ctx} {w0 w : World} {J : Nat → Prop} {s : FS} {a : Act} {β : Nat → Option Nat} {dst : Option Nat} {ty : TypeId} {pos : String} {after : Array Edge} {g : Option (Nat × Bool)}

theorem heap_setRow_ne (w : World) (g k : Nat) (cs : Array Value) (h : k ≠ g) : (w.setRow g cs).heap[k]? = w.heap[k]? := by
  simp only [World.setRow, Array.getElem?_modify]
  rw [if_neg (fun e => h e.symm)]
theorem heap_setRow_same (w : World) (g : Nat) (cs cur : Array Value) (E : TypeId) (h : w.heap[g]? = some (.cells cur E (0, 0))) : (w.setRow g cs).heap[g]? = some (.cells cs E (0, 0)) := by
  simp [World.setRow, Array.getElem?_modify, h]

/-- A store through a pointer into an object of the call's own. -/
theorem good_store (h : FR c.N w0 J s a w β) {T : Nat} (hk : (c.ty T).k ≠ .other) (x y : Operand) {id ver j o : Nat} (ex : s.ev x = .ptr id ver j o) (hl : (s.ob id).life = .own) (hv : (s.ob id).ver = ver) {f : FV} (ey : s.ev y = f)
    (hf : f.cells.all FV.one = true) (hfl : f.cells.length = (c.ty T).size) (hj : j < (s.ob id).es.length) (ho : o + (c.ty T).size ≤ (s.ob id).sz) :
    ∃ w', (execOp a.eval ⟨dst, .store T x y, ty, pos, after, g⟩).run c.P w = .ok .skip w' ∧
      FR c.N w0 J (s.wr [(id, { s.ob id with es := (s.ob id).es.set j (splice ((s.ob id).es.getD j []) o f.cells) })]) a w' β := by
  have hlive : (s.ob id).life ≠ .dead := by rw [hl]; decide
  have hrl : (s.ob id).life.row = true := by rw [hl]; rfl
  obtain ⟨_, b, hb, hvx⟩ := h.ev_ptr ex hlive hv
  obtain ⟨cur, cap, hblk, hn, hm, hcs, hr, hrow⟩ := h.block hlive hrl hb
  have hw := ((h.obj id hlive).rowR hrl).wide
  have hone := ((h.obj id hlive).rowR hrl).one
  have hrd := h.ev_rd ey (Rd.nohand hf)
  obtain ⟨hc1, hc2⟩ := hrd.cells hf
  generalize hy : a.eval y = v at hc1 hc2
  generalize hes : (s.ob id).es = es at hj hn hr hrow hw hone ⊢
  generalize hsz : (s.ob id).sz = sz at ho hcs hr hrow hw hvx ⊢
  have hvl : v.cells.toList.length = (c.ty T).size := by rw [hc1.1, hfl]
  have hle : j * sz + sz ≤ es.length * sz := by
    have : (j + 1) * sz ≤ es.length * sz := Nat.mul_le_mul_right sz (by omega)
    rw [Nat.add_mul] at this; omega
  have hle2 : es.length * sz ≤ cap * sz := Nat.mul_le_mul_right sz hn
  have hst := run_storeCells_at c.P b (j * sz + o) (s.ob id).E v.cells.toList 0 cur w hblk (by omega) hc2
  simp only [Nat.add_zero] at hst
  have hcl : cur.toList.length = cap * sz := by simpa using hcs
  have hvl2 : v.cells.toList.length = f.cells.length := hc1.1
  have htl : (cur.toList.take (es.length * sz)).length = es.length * sz := by rw [List.length_take, hcl]; omega
  obtain ⟨W, hW⟩ : ∃ W, W = w.setRow b (splice cur.toList (j * sz + o) v.cells.toList).toArray := ⟨_, rfl⟩
  have hWb : W.heap[b]? = some (.cells (splice cur.toList (j * sz + o) v.cells.toList).toArray (s.ob id).E (0, 0)) := by rw [hW]; exact heap_setRow_same w b _ cur _ hblk
  have hgrown : w.grownBy W (β id) := by
    subst hW
    refine ⟨rfl, rfl, rfl, by simp [World.setRow], fun k hk hne => heap_setRow_ne w b k _ (fun e => hne (by rw [e, hb]))⟩
  have hrow' : W.ownsRow w0.heap.size (s.ob id).E sz (.slice (some ⟨b, 0, none⟩) es.length cap) es.length (splice (cur.toList.take (es.length * sz)) (j * sz + o) v.cells.toList) := by
    refine ⟨?_, .inr ⟨b, cap, _, rfl, ((h.obj id hlive).lt hb).1, hWb, hn, hm, ?_, ?_⟩⟩
    · rw [splice_len (by omega), htl]
    · simp only [List.size_toArray]; rw [splice_len (by omega), hcl]
    · have key : ∀ (L p : Nat) (cs ds : List Value), p + ds.length ≤ L → L ≤ cs.length → (splice cs p ds).take L = splice (cs.take L) p ds := by
        intro L p cs ds h1 h2
        unfold splice
        rw [List.append_assoc, List.append_assoc, List.take_append, List.length_take, Nat.min_eq_left (by omega), List.take_append, List.take_take, List.take_take, Nat.min_eq_right (by omega), Nat.min_eq_left (by omega), List.take_of_length_le (by omega : ds.length ≤ L - p), List.drop_take]
        congr 3
        omega
      exact key _ _ _ _ (by omega) (by omega)
  have hone' : ∀ f' ∈ (es.set j (splice (es.getD j []) o f.cells)).flatten, f'.one = true := by
    intro f' hf'
    obtain ⟨e, he, hfe⟩ := List.mem_flatten.1 hf'
    rcases List.mem_or_eq_of_mem_set he with h' | h'
    · exact hone f' (List.mem_flatten.2 ⟨e, h', hfe⟩)
    · subst h'
      rcases mem_splice hfe with h' | h'
      · rw [List.getD_eq_getElem?_getD, List.getElem?_eq_getElem hj] at h'
        exact hone f' (List.mem_flatten.2 ⟨_, List.getElem_mem hj, h'⟩)
      · exact List.all_eq_true.1 hf f' h'
  refine ⟨W, ?_, ?_⟩
  · have hs := run_sizeOf (c := c) hk w
    have hsz' : v.cells.size = (c.ty T).size := by simpa using hvl
    have hst' : (storeCells ⟨b, j * sz + o, none⟩ v.cells.toList).run c.P w = .ok () W := by rw [hW]; exact hst
    simp [execOp, Instr.storeAt, storeVar, hvx, hy, Instr.sureAddr, hs, hsz', hst']
  · refine h.write id (es := es.set j (splice (es.getD j []) o f.cells)) (v := .slice (some ⟨b, 0, none⟩) es.length cap) (xs := splice (cur.toList.take (es.length * sz)) (j * sz + o) v.cells.toList) hl hgrown ?_ hone' ?_ hb.symm ?_ ?_ ?_ (fun k => ?_) (fun k => rfl)
    · rw [hsz]; exact set_wide hw hj (by omega)
    · rw [hsz, List.length_set]; exact hrow'
    · rw [flat_splice es hw j o f.cells hj (by omega)]
      exact hr.splice hc1 _
    · rw [hes, List.length_set]
    · intro b' cur1 cur2 hb' h1 h2
      rw [hb] at hb'
      injection hb' with hb'
      subst hb'
      rw [hblk] at h1
      injection h1 with h1
      injection h1 with h1 _ _
      subst h1
      rw [hWb] at h2
      injection h2 with h2
      injection h2 with h2 _ _
      rw [← h2]
      simp only [List.size_toArray]
      rw [splice_len (by omega), hcl, hcs]
    · exact FS.ob_set s id _ k
end
end Go.Proofs.Ythijndjgchbeoaa
