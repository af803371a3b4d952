/-
  Append of a whole list, which may be nil, to a row of one's own.
-/
import Derived.Test.YthijndjgchbeoaaTypes
namespace Go.Proofs.Ythijndjgchbeoaa
set_option linter.unusedVariables false
open Go.RowKit

theorem run_app_none {P : Program} {T E sz by_ : Nat} (hT : SliceT P T E sz by_) {w : World} {base : Nat} {v : Value} {n : Nat} {xs : List Value} (hown : w.ownsRow base E sz v n xs) (ty : TypeId) (c : Nat) :
    (Builtin.append_ #[T, T] ty #[v, .slice none 0 c]).run P w = .ok v w := by
  obtain ⟨i, z, hi, hz, hsz, hbz, hzs⟩ := hT.i
  have ht := hT.u
  rcases hown.2 with ⟨rfl, rfl⟩ | ⟨g, cap, cur, rfl, hbg, hg, hnc, hcm, hcs, htake⟩
  · simp [Builtin.append_, run_underlying ht, sizeOf, typeInfo, hi, Builtin.lenOf, Builtin.firstCells, loadCells, loadCellsFrom]
  · simp [Builtin.append_, run_underlying ht, sizeOf, typeInfo, hi, Builtin.lenOf, Builtin.firstCells, loadCells, loadCellsFrom, hnc, storeCells]

theorem wpList_appL {P : Program} {T E sz by_ : Nat} (hT : SliceT P T E sz by_) {W : World} {ops : Array Oper} {rest : List Oper} {o : Oper} {a : Act} {Q : Exit → Act → World → Prop}
    {base : Nat} {v : Value} {n : Nat} {xs : List Value} (hown : W.ownsRow base E sz v n xs) {α : Type} {vals : α → List Value} (hw : Wide sz vals) (h1 : ∀ a, ∀ u ∈ vals a, u.oneCell' = true) {B : Nat} {A : Option Addr} {l : List α} (hsl : Sl vals W B A l)
    (hgd : o.guard = none) (s x : Operand) (ho : o.op = .call { callee := .builtin .append, args := #[s, x], argTypes := #[T, T] })
    {m c : Nat} (hs : a.eval s = v) (hx : a.eval x = .slice A m c) (hm : m = l.length)
    (hn : n + l.length ≤ 1000000000) (hby : by_ ≤ 100000) (hbase : base ≤ W.heap.size)
    (h : ∀ A' c' w', w'.ownsRow base E sz (.slice A' (n + l.length) c') (n + l.length) (xs ++ flat vals l) → Below base W w' → W.grownBy w' v.ownBlock → wpList P ops Q rest (a.put o.dst (.slice A' (n + l.length) c')) w') :
    wpList P ops Q (o :: rest) a W := by
  obtain ⟨i, z, hi, hz, hsz, hbz, hzs⟩ := hT.i
  subst hm
  cases hA : A with
  | none =>
    subst hA
    have hl0 : l = [] := by
      cases l with
      | nil => rfl
      | cons b t => obtain ⟨_, _, e, _⟩ := hsl (by simp); cases e
    subst hl0
    have hr := run_app_none hT hown o.type c
    refine wpList_plain hgd fun K hK => ?_
    unfold Oper.wp execOp
    simp only [ho, resolve, invoke, builtin, Sem.run_bind, Sem.run_pure, Result.andThen_ok, List.map_toArray, List.map_cons, List.map_nil, hs, hx, List.length_nil, hr]
    obtain ⟨A', c', rfl⟩ := own_form hown
    refine hK _ _ (h A' c' W (by simpa [flat] using hown) (Below.refl _ _) ⟨rfl, rfl, rfl, Nat.le_refl _, fun _ _ _ => rfl⟩)
  | some ad =>
    subst hA
    have hnews : ∀ j u, (flat vals l)[j]? = some u → W.cell? (ad.add j) = some u := by
      intro j u hu
      have hne : l ≠ [] := by intro e; subst e; simp [flat] at hu
      obtain ⟨b, off, e, _, hc⟩ := hsl hne
      injection e with e
      subst e
      have e2 : (⟨b, off, none⟩ : Addr).add j = ⟨b, off + j, none⟩ := by unfold Addr.add; split <;> simp_all
      rw [e2]
      exact hc j u hu
    refine wpList_append_own_at (P := P) _ hgd s x T ho base E i z sz by_ hT.u hi hz hsz hbz hzs hT.pos v n xs hs hown ad l.length c (flat vals l) hx (flat_len hw l) hnews ?_ ?_ ?_ hbase ?_
    · intro u hu
      obtain ⟨b, _, hb⟩ := List.mem_flatMap.1 hu
      exact h1 b u hb
    · unfold maxLen; omega
    · have : (n + l.length) * by_ ≤ 1000000000 * 100000 := Nat.mul_le_mul hn hby
      omega
    · intro v' w' ho' hg _ _
      obtain ⟨A', c', rfl⟩ := own_form ho'
      exact h A' c' w' ho' (bgrown hown hbase hg) hg
end Go.Proofs.Ythijndjgchbeoaa
