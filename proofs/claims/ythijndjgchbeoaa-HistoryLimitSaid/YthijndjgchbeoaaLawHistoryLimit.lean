/-
  simprooflaw20.HistoryLimit answers true for every two numbers.
-/
import Derived.Test.YthijndjgchbeoaaHCheck
import Derived.Test.YthijndjgchbeoaaAround
import Derived.Test.YthijndjgchbeoaaLives20
namespace Go.Proofs.Ythijndjgchbeoaa
set_option linter.unusedVariables false
open Go.RowKit

def limOp (p : Int) (i : Nat) : OpV := ⟨p, 0, 0, 0, 0, 2 * i, 2 * i + 1, true⟩
def limOps (p : Int) (k : Nat) : List OpV := (List.range k).map (limOp p)
theorem limOps_len (p : Int) (k : Nat) : (limOps p k).length = k := by simp [limOps]
theorem limOps_succ (p : Int) (k : Nat) : limOps p (k + 1) = limOps p k ++ [limOp p k] := by simp [limOps, List.range_succ]
theorem limOps_at {p : Int} {k j : Nat} (h : j < k) : nth (limOps p k) j = limOp p j := by rw [nth_eq (by rw [limOps_len]; exact h)]; simp [limOps]
theorem lim_any {l : List OpV} {k : Nat} {f : OpV → Bool} (h : (l.take k).any f = true) : ∃ m, m < k ∧ m < l.length ∧ f (nth l m) = true := by
  obtain ⟨o, ho, hf⟩ := List.any_eq_true.1 h
  obtain ⟨m, hm, rfl⟩ := List.getElem_of_mem ho
  have hm' : m < k ∧ m < l.length := by simp at hm; omega
  refine ⟨m, hm'.1, hm'.2, ?_⟩
  rw [nth_eq hm'.2]
  simpa using hf
theorem lim_last {l : List OpV} : ∀ {k : Nat} {p : Int} {o : OpV}, lastOf l k p = some o → ∃ m, m < k ∧ nth l m = o ∧ o.p = p
  | 0, _, _, h => by simp [lastOf] at h
  | k + 1, p, o, h => by
    simp only [lastOf] at h
    split at h
    · rename_i hp
      injection h with h
      exact ⟨k, by omega, h, by rw [← h, hp]⟩
    · obtain ⟨m, h1, h2⟩ := lim_last h
      exact ⟨m, by omega, h2⟩
theorem lim_zero {l : List OpV} : ∀ (n k : Nat), (∀ j, k ≤ j → j < k + n → errK l j = 0) → hCheckFrom l k n = 0
  | 0, _, _ => rfl
  | n + 1, k, h => by
    rw [hCheckFrom_ok (h k (Nat.le_refl _) (by omega))]
    exact lim_zero n (k + 1) fun j h1 h2 => h j (by omega) (by omega)

theorem lim_ok {p : Int} {k : Nat} (hp : 0 ≤ p) (hk : k ≤ 300) : hCheck (limOps p k) = 0 := by
  rw [hCheck, if_neg (by rw [limOps_len]; omega), limOps_len]
  refine lim_zero _ _ fun j _ hj => ?_
  have hj : j < k := by omega
  unfold errK
  rw [limOps_at hj, if_neg, if_neg, if_neg, if_neg]
  · rintro ⟨hs, hb⟩
    obtain ⟨o, ho⟩ := Option.isSome_iff_exists.1 hs
    rw [ho] at hb
    obtain ⟨m, hm, hmo, _⟩ := lim_last ho
    rw [limOps_at (by omega)] at hmo
    subst hmo
    simp only [Option.getD_some, limOp] at hb
    rcases hb with h | h
    · cases h
    · omega
  · intro h
    simp only [Bool.or_eq_true, Bool.and_eq_true] at h
    rcases h with h | ⟨_, h | h⟩
    · obtain ⟨m, h1, h2, h3⟩ := lim_any h
      rw [limOps_len] at h2
      rw [limOps_at h2] at h3
      simp [limOp] at h3
      omega
    · obtain ⟨m, h1, h2, h3⟩ := lim_any h
      rw [limOps_len] at h2
      rw [limOps_at h2] at h3
      simp [limOp] at h3
      omega
    · obtain ⟨m, h1, h2, h3⟩ := lim_any h
      rw [limOps_len] at h2
      rw [limOps_at h2] at h3
      simp [limOp] at h3
      omega
  · rintro ⟨h0, h1⟩
    rw [limOps_at (by omega)] at h1
    simp only [limOp] at h1
    omega
  · have : wfB (limOp p j) = true := by
      simp only [wfB, limOp, Bool.and_eq_true, Bool.or_eq_true]
      refine ⟨⟨⟨⟨⟨decide_eq_true hp, decide_eq_true (by omega)⟩, decide_eq_true (by omega)⟩, decide_eq_true (by omega)⟩, decide_eq_true (by omega)⟩, .inl trivial⟩
    rw [this]; simp

set_option maxHeartbeats 1000000 in
set_option maxRecDepth 100000 in
theorem historyLimit_any (n p : Int) (w : World) (hn : I64 n) (hp : I64 p) :
    Calls Try.prog 7 #[.int .i64 n, .int .i64 p] w fun e w' => e = .returned (.bool true) ∧ Below w.heap.size w w' := by
  obtain ⟨d, hd⟩ : ∃ d : Nat, around n 11 = d := ⟨(around n 11).toNat, by have := around_lo (n := n) (most := 11) (by omega); omega⟩
  have hd2 : d < 11 := by have := around_hi (n := n) (most := 11) (by omega); omega
  obtain ⟨q, hq⟩ : ∃ q, around p 100 = q := ⟨_, rfl⟩
  have hq0 : 0 ≤ q := hq ▸ around_lo (by omega)
  have hq1 : q < 100 := hq ▸ around_hi (by omega)
  have hIn : ∀ k, k ≤ 305 → ∀ o ∈ limOps q k, OpIn o := fun k hk o ho => by
    obtain ⟨i, hi, rfl⟩ := List.mem_map.1 ho
    have : i < k := by simpa using hi
    unfold OpIn I64 limOp
    dsimp only
    omega
  have HIn := Lib.hid hIn
  clear hIn
  go_enter Try.func7, Try.ntmps7
  go_wp2_with (go_at_call 23; refine (around_any _ _ _ hn (by omega) (by omega)).mono ?_; rintro e w' ⟨rfl, rfl⟩)
  go_loopw [5, 7] (fun v i wr => ∃ (k : Nat) (A : Option Addr) (c : Nat), k ≤ 295 + d ∧ i = .int .i64 k ∧ v = .slice A (limOps q k).length c ∧ wr.ownsRow w.heap.size 33 8 (.slice A (limOps q k).length c) (limOps q k).length (flat OpV.vals (limOps q k)) ∧ Below w.heap.size w wr) (fun _ i _ => 295 + d - (intOf i).toNat)
  case atStart => exact ⟨0, none, 0, by omega, rfl, rfl, World.ownsRow_nil _ _ _ _, Below.refl _ _⟩
  case round =>
    obtain ⟨k, A, c, hk, rfl, rfl, hown, hb⟩ := hrel
    have hsz := hb.size
    by_cases hlt : k < 295 + d
    · have hll : (limOps q k).length ≤ 305 := by rw [limOps_len]; omega
      have hint : (k : Int) < 295 + (d : Int) := by omega
      go_wp2_with (first | (go_at_call 23; refine (around_any _ _ _ hp (by omega) (by omega)).mono ?_; rintro e w' ⟨rfl, rfl⟩; rw [hq]) | (at_builtin; go_loud (refine wpList_app1 slOp hown rfl (.tmp 16) (.tmp 25) rfl rfl rfl rfl (by simp [Value.oneCell']) (by omega) (by omega) (by omega) ?_; intro A3 c3 w2 ho3 hb3 hg3 hl3)))
      go_roundw
      case rel =>
        refine ⟨k + 1, A3, c3, by omega, by go_num, by rw [limOps_succ]; simp, ?_, hb.trans hb3⟩
        rw [limOps_succ, flat_append, flat_one]
        simpa [OpV.vals, limOp] using ho3
      case measure => simp [intOf]; omega
    · obtain rfl : k = 295 + d := by omega
      have hint : ¬ ((295 + d : Nat) : Int) < 295 + (d : Int) := by omega
      have hs := Sl.of_own hown rfl
      have hll : (limOps q (295 + d)).length ≤ 1000000000 := by rw [limOps_len]; omega
      by_cases hbig : 300 < 295 + d
      · have hc : hCheck (limOps q (295 + d)) = 2 := by rw [hCheck, if_pos (by rw [limOps_len]; exact hbig)]
        have hbi : (300 : Int) < 295 + (d : Int) := by omega
        have Hc := Lib.hid hc
        clear hc
        go_wp2_with fail
        refine (hCheck_any _ _ _ _ hs (HIn.out _ (by omega)) hll).mono ?_
        rintro e w3 ⟨rfl, hb3⟩
        rw [Hc.out]
        go_wp2_with fail
        refine (lives20_any _).mono ?_
        rintro e w4 ⟨rfl, hb4⟩
        go_wp2_with fail
        go_ret
        exact ⟨by simp, bext (bext hb hb3) hb4⟩
      · have hc : hCheck (limOps q (295 + d)) = 0 := lim_ok hq0 (by omega)
        have hbi : ¬ (300 : Int) < 295 + (d : Int) := by omega
        have Hc := Lib.hid hc
        clear hc
        go_wp2_with fail
        refine (hCheck_any _ _ _ _ hs (HIn.out _ (by omega)) hll).mono ?_
        rintro e w3 ⟨rfl, hb3⟩
        rw [Hc.out]
        go_wp2_with fail
        refine (lives20_any _).mono ?_
        rintro e w4 ⟨rfl, hb4⟩
        go_wp2_with fail
        go_ret
        exact ⟨by simp, bext (bext hb hb3) hb4⟩
end Go.Proofs.Ythijndjgchbeoaa
