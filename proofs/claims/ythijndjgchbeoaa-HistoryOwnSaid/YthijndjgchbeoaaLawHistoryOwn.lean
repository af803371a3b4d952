/-
  simprooflaw20.HistoryOwn answers true for every list of numbers.
-/
import Derived.Test.YthijndjgchbeoaaHistPlain
import Derived.Test.YthijndjgchbeoaaLives20
import Derived.Test.YthijndjgchbeoaaSame
namespace Go.Proofs.Ythijndjgchbeoaa
set_option linter.unusedVariables false
open Go.RowKit

theorem own_cells {w : World} {base : Nat} {e : TypeId} {sz n c g : Nat} {xs : List Value} (h : w.ownsRow base e sz (.slice (some ⟨g, 0, none⟩) n c) n xs) {j : Nat} (hj : j < n * sz) : ∃ u, w.cell? ⟨g, j, none⟩ = some u := by
  have hl : j < xs.length := by have := h.1; omega
  exact ⟨xs[j], by rw [h.cellAt j hj, List.getElem?_eq_getElem hl]⟩

set_option maxHeartbeats 1000000 in
set_option maxRecDepth 100000 in
theorem historyOwn_any (A : Option Addr) (c : Nat) (l : List Int) (w : World) (h1 : Sl intv w w.heap.size A l) (hl : ∀ x ∈ l, I64 x) (hlen : l.length ≤ 9223372036854775807) :
    Calls Try.prog 4 #[.slice A l.length c] w fun e w' => e = .returned (.bool true) ∧ Below w.heap.size w w' := by
  obtain ⟨obs, hobs⟩ : ∃ x, x = (observed l).obs := ⟨_, rfl⟩
  obtain ⟨reqs, hreqs⟩ : ∃ x, x = (observed l).reqs := ⟨_, rfl⟩
  have hok := observed_ok l
  have hsq := observed_seq l
  have hsame := observed_same l
  have hc := fun A c w h1 => observed_any A c l w h1 hl hlen
  rw [← hobs] at hok hsq hsame
  rw [← hobs] at hc
  rw [← hreqs] at hok hsame
  rw [← hreqs] at hc
  have hl1 := hok.1
  have hl2 := hok.2.1
  obtain ⟨ops, hops⟩ : ∃ x, x = refOf obs reqs := ⟨_, rfl⟩
  have hlen2 : ops.length ≤ 100000 := by rw [hops]; exact Nat.le_trans (refOfTo_len obs reqs _) hl1
  have c1 := fun A1 A2 c1 c2 w h1 h2 => hOf_any A1 A2 c1 c2 obs reqs w h1 h2 hok hsq
  have c2 := fun A1 A2 c1 c2 w h1 h2 => refOf_any A1 A2 c1 c2 obs reqs w h1 h2 hok
  rw [hsame, ← hops] at c1
  rw [← hops] at c2
  have C0 := Lib.hid hc
  have C1 := Lib.hid c1
  have C2 := Lib.hid c2
  clear hc c1 c2 hok hsq hsame hobs hreqs hops hl
  go_enter Try.func4, Try.ntmps4
  go_wp2_with fail
  refine (C0.out _ _ _ h1).mono ?_
  rintro e w1 ⟨A1, c1, A2, c2, rfl, ho1, ho2, hb1⟩
  have s1 := Sl.of_own ho1 rfl
  have s2 := Sl.of_own ho2 rfl
  clear ho1 ho2
  go_wp2_with fail
  refine (C1.out _ _ _ _ _ s1 s2).mono ?_
  rintro e w2 ⟨A3, c3, rfl, ho3, hb2⟩
  go_wp2_with fail
  go_loopw [6] (fun i wr => ∃ (k : Nat) (xs : List Value), k ≤ ops.length ∧ i = .int .i64 k ∧ wr.ownsRow w1.heap.size 33 8 (.slice A3 ops.length c3) ops.length xs ∧ Below w1.heap.size w1 wr) (fun i _ => ops.length - (intOf i).toNat)
  case atStart => exact ⟨0, _, by omega, rfl, ho3, hb2⟩
  case round =>
    obtain ⟨k, xs, hk, rfl, hown, hb⟩ := hrel
    by_cases hlt : k < ops.length
    · obtain ⟨g, rfl, hgb, hgs⟩ := own_addr hown (by omega)
      obtain ⟨u0, e0⟩ := own_cells hown (j := k * 8) (by omega)
      obtain ⟨u1, e1⟩ := own_cells hown (j := k * 8 + 1) (by omega)
      obtain ⟨u2, e2⟩ := own_cells hown (j := k * 8 + 2) (by omega)
      obtain ⟨u3, e3⟩ := own_cells hown (j := k * 8 + 3) (by omega)
      obtain ⟨u4, e4⟩ := own_cells hown (j := k * 8 + 4) (by omega)
      obtain ⟨u5, e5⟩ := own_cells hown (j := k * 8 + 5) (by omega)
      obtain ⟨u6, e6⟩ := own_cells hown (j := k * 8 + 6) (by omega)
      obtain ⟨u7, e7⟩ := own_cells hown (j := k * 8 + 7) (by omega)
      have f0 := hown.frozenAt (k * 8)
      have f1 := hown.frozenAt (k * 8 + 1)
      have f2 := hown.frozenAt (k * 8 + 2)
      have f3 := hown.frozenAt (k * 8 + 3)
      have f4 := hown.frozenAt (k * 8 + 4)
      have f5 := hown.frozenAt (k * 8 + 5)
      have f6 := hown.frozenAt (k * 8 + 6)
      have f7 := hown.frozenAt (k * 8 + 7)
      go_wp2_with fail
      go_roundw
      case rel =>
        have t0 := (hown.stored (k * 8) (.int .i64 (-7))).1
        have t1 := (t0.stored (k * 8 + 1) (.int .i64 0)).1
        have t2 := (t1.stored (k * 8 + 2) (.int .i64 0)).1
        have t3 := (t2.stored (k * 8 + 3) (.int .i64 0)).1
        have t4 := (t3.stored (k * 8 + 4) (.int .i64 0)).1
        have t5 := (t4.stored (k * 8 + 5) (.int .i64 0)).1
        have t6 := (t5.stored (k * 8 + 6) (.int .i64 0)).1
        have t7 := (t6.stored (k * 8 + 7) (.bool false)).1
        exact ⟨k + 1, _, by omega, by go_num, t7, (((((((hb.setCell (p := ⟨g, _, none⟩) hgb _).setCell (p := ⟨g, _, none⟩) hgb _).setCell (p := ⟨g, _, none⟩) hgb _).setCell (p := ⟨g, _, none⟩) hgb _).setCell (p := ⟨g, _, none⟩) hgb _).setCell (p := ⟨g, _, none⟩) hgb _).setCell (p := ⟨g, _, none⟩) hgb _).setCell (p := ⟨g, _, none⟩) hgb _⟩
      case measure => simp [intOf]; omega
    · obtain rfl : k = ops.length := by omega
      obtain ⟨w3, rfl⟩ : ∃ w3 : World, w3 = wr := ⟨_, rfl⟩
      go_wp2_with fail
      refine (C0.out _ _ _ ((h1.ext hb1).ext hb)).mono ?_
      rintro e w4 ⟨A5, c5, A6, c6, rfl, ho5, ho6, hb4⟩
      have s5 := Sl.of_own ho5 rfl
      have s6 := Sl.of_own ho6 rfl
      have r1 := (s1.ext hb).ext hb4
      have r2 := (s2.ext hb).ext hb4
      clear ho5 ho6 hown s1 s2
      go_wp2_with fail
      go_loopw [9] (fun i wr => ∃ k : Nat, k ≤ obs.length ∧ i = .int .i64 k ∧ Below w4.heap.size w4 wr) (fun i _ => obs.length - (intOf i).toNat)
      case atStart => exact ⟨0, by omega, rfl, Below.refl _ _⟩
      case round =>
        obtain ⟨k, hk, rfl, hb5⟩ := hrel
        by_cases hlt : k < obs.length
        · obtain ⟨b1, o1, rfl, -, p0, p1, p2, p3, p4⟩ := (r1.below hb5).obs hlt
          obtain ⟨b2, o2, rfl, -, q0, q1, q2, q3, q4⟩ := (s5.below hb5).obs hlt
          have he : obsEq (nth obs k) (nth obs k) = true := obsEq_true.2 rfl
          clear r1 s5
          go_wp2_with fail
          go_quiet (fail)
          go_wp2_with fail
          go_roundw
          case rel => exact ⟨k + 1, by omega, by go_num, bdrewN hb5 _⟩
          case measure => simp [intOf]; omega
        · obtain rfl : k = obs.length := by omega
          obtain ⟨w5, rfl⟩ : ∃ w5 : World, w5 = wr := ⟨_, rfl⟩
          go_wp2_with fail
          go_loopw [10] (fun i wr => ∃ k : Nat, k ≤ reqs.length ∧ i = .int .i64 k ∧ Below w5.heap.size w5 wr) (fun i _ => reqs.length - (intOf i).toNat)
          case atStart => exact ⟨0, by omega, rfl, Below.refl _ _⟩
          case round =>
            obtain ⟨k, hk, rfl, hb6⟩ := hrel
            by_cases hlt : k < reqs.length
            · obtain ⟨b1, o1, rfl, -, p0, p1, p2, p3⟩ := ((r2.ext hb5).below hb6).req hlt
              obtain ⟨b2, o2, rfl, -, q0, q1, q2, q3⟩ := ((s6.ext hb5).below hb6).req hlt
              have he : reqEq (nth reqs k) (nth reqs k) = true := reqEq_true.2 rfl
              clear r2 s6
              go_wp2_with fail
              go_quiet (fail)
              go_wp2_with fail
              go_roundw
              case rel => exact ⟨k + 1, by omega, by go_num, bdrewN hb6 _⟩
              case measure => simp [intOf]; omega
            · obtain ⟨w6, rfl⟩ : ∃ w6 : World, w6 = wr := ⟨_, rfl⟩
              have u1 := (r1.ext hb5).ext hb6
              have u2 := (r2.ext hb5).ext hb6
              clear r1 r2 s5 s6
              go_wp2_with fail
              refine (C1.out _ _ _ _ _ u1 u2).mono ?_
              rintro e w7 ⟨A7, c7, rfl, ho7, hb7⟩
              go_wp2_with fail
              refine (C2.out _ _ _ _ _ (u1.ext hb7) (u2.ext hb7)).mono ?_
              rintro e w8 ⟨A8, c8, rfl, ho8, hb8⟩
              go_wp2_with fail
              refine (same_any _ _ _ _ ops ops _ ((Sl.of_own ho7 rfl).ext hb8) (Sl.of_own ho8 rfl) (by omega) (by omega)).mono ?_
              rintro e w9 ⟨rfl, hb9⟩
              go_wp2_with fail
              refine (lives20_any _).mono ?_
              rintro e w10 ⟨rfl, hb10⟩
              go_wp2_with fail
              go_ret
              exact ⟨by simp, bext (bext (bext (bext (bext (bext (bext (bext (bext hb1 hb) hb4) hb5) hb6) hb7) hb8) hb9) hb10) (Below.refl _ _)⟩
end Go.Proofs.Ythijndjgchbeoaa
