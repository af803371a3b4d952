/-
  simprooflaw20.HistoryOf answers true for every list of numbers.
-/
import Derived.Test.YthijndjgchbeoaaHistPlain
import Derived.Test.YthijndjgchbeoaaLives20
import Derived.Test.YthijndjgchbeoaaSame
namespace Go.Proofs.Ythijndjgchbeoaa
set_option linter.unusedVariables false
open Go.RowKit

set_option maxHeartbeats 400000 in
set_option maxRecDepth 100000 in
theorem historyOf_any (A : Option Addr) (c : Nat) (l : List Int) (w : World) (h1 : Sl intv w w.heap.size A l) (hl : ∀ x ∈ l, I64 x) (hlen : l.length ≤ 9223372036854775807) :
    Calls Try.prog 3 #[.slice A l.length c] w fun e w' => e = .returned (.bool true) ∧ Below w.heap.size w w' := by
  obtain ⟨obs, hobs⟩ : ∃ x, x = (observed l).obs := ⟨_, rfl⟩
  obtain ⟨reqs, hreqs⟩ : ∃ x, x = (observed l).reqs := ⟨_, rfl⟩
  have hok := observed_ok l
  have hsq := observed_seq l
  have hsame := observed_same l
  have hc := observed_any A c l w h1 hl hlen
  rw [← hobs] at hok hsq hsame hc
  rw [← hreqs] at hok hsame hc
  have hl1 := hok.1
  obtain ⟨ops, hops⟩ : ∃ x, x = refOf obs reqs := ⟨_, rfl⟩
  have hlen2 : ops.length ≤ 100000 := by rw [hops]; exact Nat.le_trans (refOfTo_len obs reqs _) hl1
  have c1 := fun A1 A2 c1 c2 w h1 h2 => hOf_any A1 A2 c1 c2 obs reqs w h1 h2 hok hsq
  have c2 := fun A1 A2 c1 c2 w h1 h2 => refOf_any A1 A2 c1 c2 obs reqs w h1 h2 hok
  rw [hsame, ← hops] at c1
  rw [← hops] at c2
  have C0 := Lib.hid hc
  have C1 := Lib.hid c1
  have C2 := Lib.hid c2
  clear hc c1 c2 hok hsq hsame hobs hreqs hops h1 hl
  go_enter Try.func3, Try.ntmps3
  go_wp2_with fail
  refine C0.out.mono ?_
  rintro e w1 ⟨A1, c1, A2, c2, rfl, ho1, ho2, hb1⟩
  have s1 := Sl.of_own ho1 rfl
  have s2 := Sl.of_own ho2 rfl
  clear ho1 ho2
  go_wp2_with fail
  refine (C1.out _ _ _ _ _ s1 s2).mono ?_
  rintro e w2 ⟨A3, c3, rfl, ho3, hb2⟩
  go_wp2_with fail
  refine (C2.out _ _ _ _ _ (s1.ext hb2) (s2.ext hb2)).mono ?_
  rintro e w3 ⟨A4, c4, rfl, ho4, hb3⟩
  go_wp2_with fail
  refine (same_any _ _ _ _ ops ops _ ((Sl.of_own ho3 rfl).ext hb3) (Sl.of_own ho4 rfl) (by omega) (by omega)).mono ?_
  rintro e w4 ⟨rfl, hb4⟩
  go_wp2_with fail
  refine (lives20_any _).mono ?_
  rintro e w5 ⟨rfl, hb5⟩
  go_wp2_with fail
  go_ret
  exact ⟨by simp, bext (bext (bext (bext hb1 hb2) hb3) hb4) hb5⟩
end Go.Proofs.Ythijndjgchbeoaa
