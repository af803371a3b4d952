/-
  Slicing, append, tuples, and the calls of functions, on plain values.
-/
import Derived.Test.YthijndjgchbeoaaFmG
namespace Go.Proofs.Ythijndjgchbeoaa
set_option linter.unusedVariables false
open Go.RowKit

section
variable {c : Ctx} {w0 w : World} {J : Nat → Prop} {s : FS} {a : Act} {β : Nat → Option Nat} {dst : Option Nat} {ty : TypeId} {pos : String} {after : Array Edge} {g : Option (Nat × Bool)}

/-- the bounds that a slicing names -/
def FS.lo (s : FS) : Option Operand → Nat → Prop
  | none, l => l = 0
  | some y, l => ∃ k, s.ev y = .int k (l : Nat)
def FS.hi (s : FS) : Option Operand → Nat → Nat → Prop
  | none, m, u => u = m
  | some y, _, u => ∃ k, s.ev y = .int k (u : Nat)
theorem FR.lo (h : FR c.N w0 J s a w β) {lo : Option Operand} {l : Nat} (hl : s.lo lo l) : LoOk a lo l := by
  cases lo with
  | none => exact hl
  | some y => obtain ⟨k, hk⟩ := hl; exact ⟨k, h.ev_int hk⟩
theorem FR.hi (h : FR c.N w0 J s a w β) {hi : Option Operand} {m u : Nat} (hl : s.hi hi m u) : HiOk a hi m u := by
  cases hi with
  | none => exact hl
  | some y => obtain ⟨k, hk⟩ := hl; exact ⟨k, h.ev_int hk⟩

theorem good_slice_own (h : FR c.N w0 J s a w β) {T e : Nat} (hT : (c.ty T).k = .slice e) (he : (c.ty e).k ≠ .other) (x : Operand) (lo hi : Option Operand) {id ver o m l u : Nat} (ex : s.ev x = .own id ver o m) (hl : s.live id ver) (hsz : (c.ty e).size = (s.ob id).sz)
    (hlo : s.lo lo l) (hhi : s.hi hi m u) (h1 : l ≤ u) (h2 : u ≤ m) : Good c w0 J s a ⟨dst, .slice T x lo hi none, ty, pos, after, g⟩ w (.own id ver (o + l) (u - l)) [] := by
  have hrl := (h.ev_own ex hl.1 hl.2).row
  obtain ⟨A, cc, e1, e2, e3, e4, e5⟩ := (h.ev_own ex hl.1 hl.2).ex
  have hr := run_slice (c := c) (w := w) (dst := dst) (ty := ty) (pos := pos) (after := after) (g := g) hT he x lo hi e1 (h.lo hlo) (h.hi hhi) h1 (by omega)
  refine .pure h hr (fun _ _ => ⟨hrl, _, _, rfl, by omega, by omega, fun hb => ?_, fun b hb => ?_⟩) (fun id' ver' e => h.evers x (by rw [ex]; exact e))
  · obtain ⟨rfl, rfl⟩ := e4 hb
    obtain rfl : l = 0 := by omega
    simp
  · obtain ⟨o', rfl, k2, k3⟩ := e5 b hb
    by_cases hcl : cc = l
    · rw [if_pos hcl]
      refine ⟨o', rfl, fun hor => ?_, fun cur hc => ?_⟩
      · rcases hor with hor | hor
        · omega
        · have : o = 0 := by omega
          have hl0 : l = 0 := by omega
          rw [k2 (.inr this), this, hl0]
      · rw [k3 cur hc]; congr 1; omega
    · rw [if_neg hcl]
      have := k2 (.inl (by omega))
      subst this
      refine ⟨(o + l) * (s.ob id).sz, by rw [hsz]; simp [add_none, Nat.add_mul], fun _ => rfl, fun cur hc => ?_⟩
      rw [k3 cur hc]; congr 1; omega

theorem good_slice_list (h : FR c.N w0 J s a w β) {T e : Nat} (hT : (c.ty T).k = .slice e) (he : (c.ty e).k ≠ .other) (x : Operand) (lo hi : Option Operand) {sz l u : Nat} {es : List (List FV)} (ex : s.ev x = .list sz es) (hsz : (c.ty e).size = sz)
    (hlo : s.lo lo l) (hhi : s.hi hi es.length u) (h1 : l ≤ u) (h2 : u ≤ es.length) : Good c w0 J s a ⟨dst, .slice T x lo hi none, ty, pos, after, g⟩ w (.list sz ((es.drop l).take (u - l))) [] := by
  have hr := h.ev_rd ex rfl
  generalize hx : a.eval x = v at hr
  cases hr with
  | list A m cc sz es us hn hc hw ho hA hl hrr =>
    subst hn
    have hrun := run_slice (c := c) (w := w) (dst := dst) (ty := ty) (pos := pos) (after := after) (g := g) hT he x lo hi hx (h.lo hlo) (h.hi hhi) h1 (by omega)
    have hwd : ∀ e ∈ es.drop l, e.length = sz := fun e he => hw e (List.mem_of_mem_drop he)
    have hfl : ((es.drop l).take (u - l)).flatten = (es.flatten.drop (l * sz)).take ((u - l) * sz) := by rw [flat_take _ hwd, flat_dropE _ hw]
    have hR : RdL w (Imm J w β s) ((us.drop (l * sz)).take ((u - l) * sz)) ((es.drop l).take (u - l)).flatten := by
      rw [hfl]; exact (RdL.drop ⟨hl, hrr⟩ _).take _
    refine .rd h hrun (.list _ _ _ sz _ ((us.drop (l * sz)).take ((u - l) * sz)) (by simp; omega) (by omega) (fun e he => hwd e (List.mem_of_mem_take he)) (fun f hf => ?_) (fun h0 => ?_) hR.1 hR.2) rfl
    · rw [hfl] at hf; exact ho f (List.mem_of_mem_drop (List.mem_of_mem_take hf))
    · obtain ⟨b, off, rfl, hI, hcell⟩ := hA (by omega)
      rw [if_neg (by omega)]
      refine ⟨b, off + l * sz, by rw [hsz]; simp [add_none], hI, fun j u' hu => ?_⟩
      rw [List.getElem?_take] at hu
      split at hu
      · rw [List.getElem?_drop] at hu
        have := hcell _ u' hu
        rwa [show off + (l * sz + j) = off + l * sz + j by omega] at this
      · cases hu
theorem good_slice_nil (h : FR c.N w0 J s a w β) {T e : Nat} (hT : (c.ty T).k = .slice e) (he : (c.ty e).k ≠ .other) (x : Operand) (lo hi : Option Operand) (ex : s.ev x = .nil)
    (hlo : s.lo lo 0) (hhi : s.hi hi 0 0) : Good c w0 J s a ⟨dst, .slice T x lo hi none, ty, pos, after, g⟩ w .nil [] := by
  have hrun := run_slice (c := c) (w := w) (dst := dst) (ty := ty) (pos := pos) (after := after) (g := g) hT he x lo hi (h.ev_nil ex) (h.lo hlo) (h.hi hhi) (Nat.le_refl _) (Nat.le_refl _)
  exact .rd h hrun (by simpa using Rd.nil) rfl

theorem good_extract (h : FR c.N w0 J s a w β) (x : Operand) {i : Nat} {fs : List FV} {f : FV} (ex : s.ev x = .tup fs) (hf : fs[i]? = some f) (hn : f.hand = none) : Good c w0 J s a ⟨dst, .extract x i, ty, pos, after, g⟩ w f [] := by
  have hr := h.ev_rd ex rfl
  generalize hx : a.eval x = v at hr
  cases hr with
  | tup us fs hl hr =>
    have hi : i < us.length := by rw [hl]; exact (List.getElem?_eq_some_iff.1 hf).1
    have hu : us[i]? = some us[i] := by simp [hi]
    exact .rd h (v := us[i]) (by simp [execOp, Instr.extract, hx, hu]) (hr i _ f hu hf) hn
theorem good_nilCheck_ptr (h : FR c.N w0 J s a w β) (x : Operand) {id ver i o : Nat} (ex : s.ev x = .ptr id ver i o) (hl : s.live id ver) : Good c w0 J s a ⟨dst, .nilCheck x, ty, pos, after, g⟩ w (.ptr id ver i o) [] := by
  obtain ⟨_, b, hb, hv⟩ := h.ev_ptr ex hl.1 hl.2
  refine .pure h (v := a.eval x) (by simp [execOp, hv]) ?_ (fun id' ver' e => h.evers x (by rw [ex]; exact e))
  have := h.ev x
  rwa [ex] at this
theorem good_nilCheck_eptr (h : FR c.N w0 J s a w β) (x : Operand) {sz i o : Nat} {es : List (List FV)} (ex : s.ev x = .eptr sz es i o) : Good c w0 J s a ⟨dst, .nilCheck x, ty, pos, after, g⟩ w (.eptr sz es i o) [] := by
  obtain ⟨b, off, us, hv, _⟩ := h.ev_eptr ex
  refine .rd h (v := a.eval x) (by simp [execOp, hv]) (h.ev_rd ex rfl) rfl

/-- what an append's source reads as -/
inductive Src (s : FS) : FV → Nat → List (List FV) → Prop where
  | nil (sz : Nat) : Src s .nil sz []
  | list (sz : Nat) (es : List (List FV)) : Src s (.list sz es) sz es
  | own (id ver o n : Nat) (hl : s.live id ver) (hrl : (s.ob id).life.row = true) : Src s (.own id ver o n) (s.ob id).sz (((s.ob id).es.drop o).take n)

theorem FR.src (h : FR c.N w0 J s a w β) {x : Operand} {f : FV} {sz : Nat} {es : List (List FV)} (ex : s.ev x = f) (hs : Src s f sz es) : (∀ e ∈ es, e.length = sz) ∧ (∀ f ∈ es.flatten, f.one = true) ∧
    ∃ A cc us, a.eval x = .slice A es.length cc ∧ es.length ≤ cc ∧ RdL w (Imm J w β s) us es.flatten ∧ (A = none → us = [] ∧ es = []) ∧ (∀ ad, A = some ad → ∀ (j : Nat) u, us[j]? = some u → w.cell? (ad.add j) = some u) := by
  cases hs with
  | nil sz => exact ⟨by simp, by simp, none, 0, [], h.ev_nil ex, Nat.le_refl _, RdL.nil, fun _ => ⟨rfl, rfl⟩, fun _ e => by cases e⟩
  | list sz es =>
    have hr := h.ev_rd ex rfl
    generalize hx : a.eval x = v at hr
    cases hr with
    | list A m cc sz es us hn hc hw ho hA hl hrr =>
      subst hn
      refine ⟨hw, ho, A, cc, us, rfl, hc, ⟨hl, hrr⟩, fun hA0 => ?_, fun ad had j u hu => ?_⟩
      · have : es.length = 0 := by
          rcases Nat.eq_zero_or_pos es.length with h0 | h0
          · exact h0
          · obtain ⟨b, off, e, _⟩ := hA (by omega); rw [hA0] at e; cases e
        have : es = [] := List.eq_nil_of_length_eq_zero this
        subst this
        exact ⟨by simpa using hl, rfl⟩
      · have h0 : es.length ≠ 0 := fun h0 => by
          have : es = [] := List.eq_nil_of_length_eq_zero h0
          subst this
          have : us = [] := by simpa using hl
          subst this
          simp at hu
        obtain ⟨b, off, e, _, hcell⟩ := hA h0
        rw [had] at e
        injection e with e
        subst e
        rw [add_none]
        exact hcell j u hu
  | own id ver o n hl hrl =>
    obtain ⟨A, cc, e1, e2, e3, e4, e5⟩ := (h.ev_own ex hl.1 hl.2).ex
    have hw := ((h.obj id hl.1).rowR hrl).wide
    have hone := ((h.obj id hl.1).rowR hrl).one
    have hwd : ∀ e ∈ (s.ob id).es.drop o, e.length = (s.ob id).sz := fun e he => hw e (List.mem_of_mem_drop he)
    have hlen : (((s.ob id).es.drop o).take n).length = n := by simp; omega
    have hfl : (((s.ob id).es.drop o).take n).flatten = ((s.ob id).es.flatten.drop (o * (s.ob id).sz)).take (n * (s.ob id).sz) := by rw [flat_take _ hwd, flat_dropE _ hw]
    refine ⟨fun e he => hwd e (List.mem_of_mem_take he), fun f hf => by rw [hfl] at hf; exact hone f (List.mem_of_mem_drop (List.mem_of_mem_take hf)), ?_⟩
    cases hb : β id with
    | none =>
      obtain ⟨rfl, rfl⟩ := e4 hb
      obtain rfl : n = 0 := by omega
      exact ⟨none, 0, [], by simpa using e1, by simp, by simpa using RdL.nil, fun _ => ⟨rfl, by simp⟩, fun _ e => by cases e⟩
    | some b =>
      obtain ⟨o', rfl, k2, k3⟩ := e5 b hb
      obtain ⟨cur, cap, hblk, hn, hm, hcs, hr, hrow⟩ := h.block hl.1 hrl hb
      refine ⟨_, cc, ((cur.toList.take ((s.ob id).es.length * (s.ob id).sz)).drop (o * (s.ob id).sz)).take (n * (s.ob id).sz), by rw [hlen]; exact e1, by omega, by rw [hfl]; exact (hr.drop _).take _, (fun e => by cases e), fun ad had j u hu => ?_⟩
      injection had with had
      subst had
      rw [add_none, cell_of_row w b _ cur _ (0, 0) hblk]
      rw [List.getElem?_take] at hu
      split at hu
      · rename_i hj
        have hn0 : n ≠ 0 := by rintro rfl; simp at hj
        have := k2 (.inl (by omega))
        subst this
        rw [List.getElem?_drop, List.getElem?_take] at hu
        split at hu
        · simpa using hu
        · cases hu
      · cases hu

/-- what an append's base is: nil, or the whole of an object of the call's own -/
inductive Bas (s : FS) : FV → Nat → List (List FV) → Option Nat → Prop where
  | nil (sz : Nat) : Bas s .nil sz [] none
  | own (id ver : Nat) (hl : (s.ob id).life = .own) (hv : (s.ob id).ver = ver) (n : Nat) (hn : n = (s.ob id).es.length) : Bas s (.own id ver 0 n) (s.ob id).sz (s.ob id).es (some id)

/-- what an append turns -/
def appWr (s : FS) (d : Nat) (E sz : Nat) (es : List (List FV)) : Option Nat → List (Nat × FObj)
  | none => [(d, ⟨(s.ob d).ver + 1, .own, E, sz, es⟩)]
  | some i => [(i, { s.ob i with life := .dead }), (d, ⟨(s.ob d).ver + 1, .own, E, sz, es⟩)]

theorem append_none_any (P : Program) (t ty : TypeId) (v : Value) (cc : Nat) (w : World) : (Builtin.append_ #[t, t] ty #[v, .slice none 0 cc]).run P w = (Builtin.append_ #[t, t] ty #[v, .slice none 0 0]).run P w := rfl

theorem good_append (h : FR c.N w0 J s a w β) (d : Nat) {T e : Nat} (hT : (c.ty T).k = .slice e) (he : (c.ty e).k ≠ .other) (hpos : 0 < (c.ty e).size) (x y : Operand) {f1 f2 : FV} {es1 es2 : List (List FV)} {i : Option Nat} (ex : s.ev x = f1) (ey : s.ev y = f2)
    (h1 : Bas s f1 (c.ty e).size es1 i) (hE : ∀ k, i = some k → (s.ob k).E = e) (h2 : Src s f2 (c.ty e).size es2) (hb : (es1.length + es2.length) * (c.ty e).bytes ≤ 140737488355328) (hm : es1.length + es2.length ≤ 140737488355328) :
    Good c w0 J s a ⟨some d, .call { callee := .builtin .append, args := #[x, y], argTypes := #[T, T] }, ty, pos, after, g⟩ w (.own d ((s.ob d).ver + 1) 0 (es1 ++ es2).length) (appWr s d e (c.ty e).size (es1 ++ es2) i) := by
  obtain ⟨dd, ii, z, ht⟩ := c.get hT (by simp)
  have hd := ht.k
  rw [hT] at hd
  obtain rfl := kind_slice hd
  obtain ⟨d', i', z', ht'⟩ := c.get rfl he
  have hzs : z'.cells.size = (c.ty e).size := by
    have := (RdL.zeros (w := w) (I := Imm J w β s) ht'.zr).1
    rw [ht'.zl] at this; simpa using this
  obtain ⟨hw2, ho2, A2, c2, us2, hy, hc2, hr2, hA2, hcell2⟩ := h.src ey h2
  -- the base's row
  obtain ⟨v1, us1, hv1, hrow1, hr1, hw1, ho1, hblk1⟩ : ∃ v1 us1, a.eval x = v1 ∧ w.ownsRow w0.heap.size e (c.ty e).size v1 es1.length us1 ∧ RdL w (Imm J w β s) us1 es1.flatten ∧ (∀ q ∈ es1, q.length = (c.ty e).size) ∧ (∀ f ∈ es1.flatten, f.one = true) ∧ v1.ownBlock = i.bind β := by
    generalize hsz : (c.ty e).size = sz at h1 ⊢
    cases h1 with
    | nil sz => exact ⟨_, [], h.ev_nil ex, World.ownsRow_nil _ _ _ _, RdL.nil, by simp, by simp, rfl⟩
    | own id ver hl hv n hn =>
      have hlive : (s.ob id).life ≠ .dead := by rw [hl]; decide
      have hEe := hE id rfl
      obtain ⟨A, cc, e1, e2, e3, e4, e5⟩ := (h.ev_own ex hlive hv).ex
      have hrl : (s.ob id).life.row = true := by rw [hl]; rfl
      obtain ⟨v, us, r1, r2, r3⟩ := ((h.obj id hlive).rowR hrl).row
      have hw := ((h.obj id hlive).rowR hrl).wide
      have hone := ((h.obj id hlive).rowR hrl).one
      rw [hEe] at r1
      refine ⟨v, us, ?_, r1, r3, hw, hone, r2⟩
      rw [e1]
      rcases r1.2 with ⟨rfl, h0⟩ | ⟨b, cap, cur, rfl, _, hgg, _, _, hcs, _⟩
      · have hb0 : β id = none := by rw [← r2]; rfl
        obtain ⟨rfl, rfl⟩ := e4 hb0
        rw [hn, h0]
      · have hb0 : β id = some b := by rw [← r2]; rfl
        obtain ⟨o', rfl, k2, k3⟩ := e5 b hb0
        have := k3 cur (by rw [hEe]; exact hgg)
        rw [hcs, Nat.zero_add] at this
        have hcc : cap = cc := Nat.eq_of_mul_eq_mul_right (by rw [hsz] at hpos; exact hpos) this
        rw [k2 (.inr rfl), hcc, hn]
        simp
  have hl1 : ∀ k, i = some k → (s.ob k).life = .own := by
    intro k hk
    generalize (c.ty e).size = sz at h1
    cases h1 with
    | nil => cases hk
    | own id ver hl hv n hn => injection hk with hk; subst hk; exact hl
  have hlen2 : us2.length = es2.length * (c.ty e).size := by rw [hr2.1, flat_length hw2]
  have h1u : ∀ u ∈ us2, u.oneCell' = true := by
    intro u hu
    obtain ⟨j, hj, rfl⟩ := List.getElem_of_mem hu
    have hj2 : j < es2.flatten.length := by rw [← hr2.1]; exact hj
    exact (hr2.2 j _ es2.flatten[j] (by simp [hj]) (by simp)).oneCell (ho2 _ (List.getElem_mem hj2))
  -- the run
  obtain ⟨v', w', hrun, hrow', hgr, hloc⟩ : ∃ v' w', (Builtin.append_ #[T, T] ty #[v1, .slice A2 es2.length c2]).run c.P w = .ok v' w' ∧ w'.ownsRow w0.heap.size e (c.ty e).size v' (es1.length + es2.length) (us1 ++ us2) ∧ w.grownBy w' v1.ownBlock ∧
      (v'.ownBlock = v1.ownBlock ∨ v'.ownBlock = some w.heap.size) := by
    cases hA : A2 with
    | none =>
      obtain ⟨rfl, rfl⟩ := hA2 hA
      rw [List.length_nil, append_none_any]
      refine ⟨v1, w, run_append_owned_none (P := c.P) (w := w) w0.heap.size T ty e i' (c.ty e).size ht.u ht'.info v1 es1.length us1 hrow1, by simpa using hrow1, ⟨rfl, rfl, rfl, Nat.le_refl _, fun _ _ _ => rfl⟩, .inl rfl⟩
    | some ad =>
      obtain ⟨v', w', q1, q2, q3, _, q5⟩ := run_append_own_at (P := c.P) w w0.heap.size T ty e i' z' (c.ty e).size (c.ty e).bytes ht.u ht'.info ht'.zo ht'.size ht'.bytes hzs hpos v1 es1.length us1 hrow1 ad es2.length c2 us2 hlen2 (hcell2 ad hA) h1u (by unfold maxLen; omega) hb h.bel.size
      exact ⟨v', w', q1, q2, q3, q5⟩
  have hexec : (execOp a.eval ⟨some d, .call { callee := .builtin .append, args := #[x, y], argTypes := #[T, T] }, ty, pos, after, g⟩).run c.P w = .ok (.value v') w' := by
    simp [execOp, resolve, invoke, builtin, hv1, hy, hrun]
  rw [← List.length_append] at hrow'
  have hFR : FR c.N w0 J (s.wr (appWr s d e (c.ty e).size (es1 ++ es2) i)) a w' (updB β d v'.ownBlock) := by
    refine h.make i d (es := es1 ++ es2) (fun k hk => by rw [hl1 k hk]; rfl) (by rw [← hblk1]; exact hgr) ?_ ?_ hrow' ?_ ?_ (fun k => ?_) (fun k => FS.wr_get _ _ _)
    · intro q hq
      rcases List.mem_append.1 hq with h' | h'
      · exact hw1 q h'
      · exact hw2 q h'
    · intro f hf
      rw [List.flatten_append] at hf
      rcases List.mem_append.1 hf with h' | h'
      · exact ho1 f h'
      · exact ho2 f h'
    · rw [List.flatten_append]; exact hr1.append hr2
    · rw [← hblk1]
      rcases hloc with e | e
      · exact .inl e
      · exact .inr (.inr ⟨_, e, Nat.le_refl _⟩)
    · cases i with
      | none =>
        show (FS.set s d _).ob k = _
        rw [FS.ob_set]
        split
        · rfl
        · simp
      | some i =>
        show (FS.set (FS.set s i _) d _).ob k = _
        rw [FS.ob_set, FS.ob_set]
        by_cases hdk : d = k
        · rw [if_pos hdk, if_pos hdk]
        · rw [if_neg hdk, if_neg hdk]
          by_cases hik : i = k
          · subst hik; simp
          · rw [if_neg hik, if_neg (by simpa using hik)]
  have hobd : (s.wr (appWr s d e (c.ty e).size (es1 ++ es2) i)).ob d = ⟨(s.ob d).ver + 1, .own, e, (c.ty e).size, es1 ++ es2⟩ := by
    cases i with
    | none => show (FS.set s d _).ob d = _; rw [FS.ob_set, if_pos rfl]
    | some i => show (FS.set (FS.set s i _) d _).ob d = _; rw [FS.ob_set, if_pos rfl]
  refine ⟨v', w', _, hexec, hFR, fun _ _ => ?_, fun id ver e => ?_⟩
  · rw [hobd, updB_same]
    exact OwnV.of_row hrow' rfl rfl rfl rfl
  · simp only [FV.hand, Option.some.injEq, Prod.mk.injEq] at e
    obtain ⟨rfl, rfl⟩ := e
    rw [hobd]
    exact Nat.le_refl _
end
end Go.Proofs.Ythijndjgchbeoaa
