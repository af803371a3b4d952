/-
  simproofref20.Bent, walked.
-/
import Derived.Test.YthijndjgchbeoaaBent20
namespace Go.Proofs.Ythijndjgchbeoaa
set_option linter.unusedVariables false
open Go.RowKit
attribute [local go_sem ↓] Go.wp_at_zero Go.wp_at_succ

theorem own_field {w : World} {base : Nat} {t : TypeId} {v : Value} {n : Nat} {l : List OpV} (h : w.ownsRow base t 8 v n (flat OpV.vals l)) {g : Nat} (hv : v.ownBlock = some g) {j m : Nat} (hj : j < l.length) (hm : m < 8) (u : Value) (o : OpV) (ho : o.vals = (nth l j).vals.set m u) :
    (w.setCell ⟨g, j * 8 + m, none⟩ u).ownsRow base t 8 v n (flat OpV.vals (l.set j o)) := by
  rcases h.2 with ⟨rfl, _⟩ | ⟨g', cap, cur, rfl, _⟩
  · simp [Value.ownBlock] at hv
  · obtain rfl : g' = g := by simpa [Value.ownBlock] using hv
    have s := (h.stored (j * 8 + m) u).1
    rw [flat_set OpV.wide l j m u o hj hm (by rw [← nth_eq hj]; exact ho)] at s
    exact s

set_option maxHeartbeats 2000000 in
set_option maxRecDepth 100000 in
theorem bent20_any (A : Option Addr) (c : Nat) (l : List OpV) (at_ how v : Int) (w : World) (h1 : Sl OpV.vals w w.heap.size A l) (hlen : l.length ≤ 1000000) (ha : I64 at_) (hh : I64 how) :
    Calls Try.prog 22 #[.slice A l.length c, .int .i64 at_, .int .i64 how, .int .i64 v] w fun e w' => ∃ A1 c1, e = .returned (.slice A1 (bent20 l at_ how v).length c1) ∧
      w'.ownsRow w.heap.size 33 8 (.slice A1 (bent20 l at_ how v).length c1) (bent20 l at_ how v).length (flat OpV.vals (bent20 l at_ how v)) ∧ Below w.heap.size w w' := by
  rw [bent20_len]
  have hmade : (w.alloc (.cells #[] 33)).ownsRow w.heap.size 33 8 (.slice (some ⟨w.heap.size, 0, none⟩) 0 0) 0 [] := World.ownsRow_made w #[] 0 (Nat.le_refl _) (by unfold maxLen; omega) rfl
  have hba := below8 (w := w) (.cells #[] 33)
  have hsa := h1.below hba
  have hsz : w.heap.size ≤ (w.alloc (.cells #[] 33)).heap.size := hba.size
  go_enter Try.func22, Try.ntmps22
  go_upto_region 2 with (at_builtin; go_loud (refine wpList_appL slOp hmade OpV.wide OpV.one hsa rfl (.tmp 11) (.tmp 12) rfl rfl rfl rfl (by omega) (by omega) hsz ?_; intro A3 c3 w2 ho hb hg))
  have ho2 : w2.ownsRow w.heap.size 33 8 (.slice A3 l.length c3) l.length (flat OpV.vals l) := by simpa using ho
  have hb2 : Below w.heap.size w w2 := hba.trans hb
  clear ho hb hg hmade hba hsa h1
  by_cases hl0 : l = []
  · subst hl0
    go_wp2_with fail
    go_ret
    exact ⟨A3, c3, rfl, ho2, hb2⟩
  · have hpos : 0 < l.length := List.length_pos_iff.2 hl0
    have hnz : ((l.length : Int) == 0) = false := beq_eq_false_iff_ne.2 (by omega)
    obtain ⟨j, hj⟩ : ∃ j : Nat, around at_ l.length = j := ⟨(around at_ l.length).toNat, by have := around_lo (n := at_) (most := (l.length : Int)) (by omega); omega⟩
    have hjl : j < l.length := by have := around_hi (n := at_) (most := (l.length : Int)) (by omega); omega
    have hj0 : (0 : Int) ≤ (j : Int) := by omega
    have hj1 : (j : Int) < (l.length : Int) := by omega
    obtain ⟨d, hd⟩ : ∃ d, around how 8 = d := ⟨_, rfl⟩
    have hd0 : 0 ≤ d := hd ▸ around_lo (by omega)
    have hd1 : d < 8 := hd ▸ around_hi (by omega)
    have hspec : bent20 l at_ how v = l.set j (bentOp d v (nth l j)) := by rw [bent20, hj, hd]; rfl
    have Hspec := Lib.hid hspec
    clear hspec
    obtain ⟨g, rfl, hg1, hg2⟩ := own_addr ho2 hpos
    obtain ⟨e0, e1, e2, e3, e4, e5, e6, e7⟩ := (Sl.of_own ho2 rfl).op' hjl
    simp only [Nat.zero_add] at e0 e1 e2 e3 e4 e5 e6 e7
    have f0 : w2.frozen? ⟨g, j * 8, none⟩ = false := ho2.frozenAt _
    have f1 := ho2.frozenAt (j * 8 + 1)
    have f2 := ho2.frozenAt (j * 8 + 2)
    have f3 := ho2.frozenAt (j * 8 + 3)
    have f4 := ho2.frozenAt (j * 8 + 4)
    have f5 := ho2.frozenAt (j * 8 + 5)
    have f6 := ho2.frozenAt (j * 8 + 6)
    have f7 := ho2.frozenAt (j * 8 + 7)
    have q1 : (1 : Int) ≤ (l.length : Int) := by omega
    have q2 : (l.length : Int) ≤ 4611686018427387904 := by omega
    have q3 : (1 : Int) ≤ 8 := by omega
    have q4 : (8 : Int) ≤ 4611686018427387904 := by omega
    go_upto_region 5 with (go_at_call 23; refine (around_any _ _ _ ha q1 q2).mono ?_; rintro e w' ⟨rfl, rfl⟩; rw [hj])
    go_upto_region 7 with (go_at_call 23; refine (around_any _ _ _ hh q3 q4).mono ?_; rintro e w' ⟨rfl, rfl⟩; rw [hd])
    by_cases nd0 : d = 0
    · subst nd0
      go_wp2_with fail
      go_ret
      refine ⟨some ⟨g, 0, none⟩, c3, rfl, ?_, hb2.setCell (by simp; omega) _⟩
      rw [Hspec.out]
      have hq := own_field ho2 rfl hjl (m := 0) (by omega) (.int .i64 v) { nth l j with p := v } rfl
      rw [Nat.add_zero] at hq
      rw [show bentOp 0 v (nth l j) = { nth l j with p := v } from by simp [bentOp]]
      exact hq
    by_cases nd1 : d = 1
    · subst nd1
      go_wp2_with fail
      go_ret
      refine ⟨some ⟨g, 0, none⟩, c3, rfl, ?_, hb2.setCell (by simp; omega) _⟩
      rw [Hspec.out]
      have hq := own_field ho2 rfl hjl (m := 1) (by omega) (.int .i64 v) { nth l j with k := v } rfl
      rw [show bentOp 1 v (nth l j) = { nth l j with k := v } from by simp [bentOp]]
      exact hq
    by_cases nd2 : d = 2
    · subst nd2
      go_wp2_with fail
      go_ret
      refine ⟨some ⟨g, 0, none⟩, c3, rfl, ?_, hb2.setCell (by simp; omega) _⟩
      rw [Hspec.out]
      have hq := own_field ho2 rfl hjl (m := 2) (by omega) (.int .i64 v) { nth l j with key := v } rfl
      rw [show bentOp 2 v (nth l j) = { nth l j with key := v } from by simp [bentOp]]
      exact hq
    by_cases nd3 : d = 3
    · subst nd3
      go_wp2_with fail
      go_ret
      refine ⟨some ⟨g, 0, none⟩, c3, rfl, ?_, hb2.setCell (by simp; omega) _⟩
      rw [Hspec.out]
      have hq := own_field ho2 rfl hjl (m := 3) (by omega) (.int .i64 v) { nth l j with arg := v } rfl
      rw [show bentOp 3 v (nth l j) = { nth l j with arg := v } from by simp [bentOp]]
      exact hq
    by_cases nd4 : d = 4
    · subst nd4
      go_wp2_with fail
      go_ret
      refine ⟨some ⟨g, 0, none⟩, c3, rfl, ?_, hb2.setCell (by simp; omega) _⟩
      rw [Hspec.out]
      have hq := own_field ho2 rfl hjl (m := 4) (by omega) (.int .i64 v) { nth l j with res := v } rfl
      rw [show bentOp 4 v (nth l j) = { nth l j with res := v } from by simp [bentOp]]
      exact hq
    by_cases nd5 : d = 5
    · subst nd5
      go_wp2_with fail
      go_ret
      refine ⟨some ⟨g, 0, none⟩, c3, rfl, ?_, hb2.setCell (by simp; omega) _⟩
      rw [Hspec.out]
      have hq := own_field ho2 rfl hjl (m := 5) (by omega) (.int .i64 v) { nth l j with call := v } rfl
      rw [show bentOp 5 v (nth l j) = { nth l j with call := v } from by simp [bentOp]]
      exact hq
    by_cases nd6 : d = 6
    · subst nd6
      go_wp2_with fail
      go_ret
      refine ⟨some ⟨g, 0, none⟩, c3, rfl, ?_, hb2.setCell (by simp; omega) _⟩
      rw [Hspec.out]
      have hq := own_field ho2 rfl hjl (m := 6) (by omega) (.int .i64 v) { nth l j with ret := v } rfl
      rw [show bentOp 6 v (nth l j) = { nth l j with ret := v } from by simp [bentOp]]
      exact hq
    obtain rfl : d = 7 := by omega
    go_wp2_with fail
    go_ret
    refine ⟨some ⟨g, 0, none⟩, c3, rfl, ?_, hb2.setCell (by simp; omega) _⟩
    rw [Hspec.out]
    have hq := own_field ho2 rfl hjl (m := 7) (by omega) (.bool (!(nth l j).done)) { nth l j with done := !(nth l j).done } rfl
    rw [show bentOp 7 v (nth l j) = { nth l j with done := !(nth l j).done } from by simp [bentOp]]
    exact hq
end Go.Proofs.Ythijndjgchbeoaa
