/-
  Small functions of the references: Has, Pick, SameInts, Ints; chosen and popped.
-/
import Derived.Test.YthijndjgchbeoaaAround
import Derived.Test.YthijndjgchbeoaaSame
import Derived.Deep.RegionHeld3
import Derived.Deep.DrawnRows
import Derived.Deep.DeepCutAuto
namespace Go.Proofs.Ythijndjgchbeoaa
set_option linter.unusedVariables false
open Go.RowKit
attribute [local go_sem ↓] Go.wp_at_zero Go.wp_at_succ

theorem mem_take_step {l : List Int} {k : Nat} (h : k < l.length) {n : Int} : n ∈ l.take (k + 1) ↔ n ∈ l.take k ∨ nth l k = n := by
  rw [List.take_succ_eq_append_getElem h, List.mem_append, nth_eq h]
  simp [eq_comm]

set_option maxHeartbeats 400000 in
set_option maxRecDepth 100000 in
theorem has_any (A : Option Addr) (c : Nat) (l : List Int) (n : Int) (w : World) (h1 : Sl intv w w.heap.size A l) (hlen : l.length ≤ 1000000000) :
    Calls Try.prog 34 #[.slice A l.length c, .int .i64 n] w fun e w' => e = .returned (.bool (decide (n ∈ l))) ∧ w = w' := by
  go_enter Try.func34, Try.ntmps34
  go_wp2_with fail
  go_loop [5] (fun v => ∃ k : Nat, k ≤ l.length ∧ v = .int .i64 k ∧ ¬ n ∈ l.take k) (fun v => l.length - (intOf v).toNat)
  case atStart => exact ⟨0, by omega, rfl, by simp⟩
  case round =>
    obtain ⟨k, hk, rfl, hno⟩ := hrel
    have Hno := Lib.hid hno
    clear hno
    by_cases hlt : k < l.length
    · obtain ⟨b, o, rfl, hbl, q0⟩ := h1.int hlt
      cases hc : (nth l k == n) with
      | true =>
        have hm : n ∈ l := by have := nth_mem hlt; rw [show nth l k = n by simpa using hc] at this; exact this
        have Hm := Lib.hid hm
        clear hm
        go_wp2_with fail
        go_ret
        exact ⟨by simp [Hm.out], rfl⟩
      | false =>
        go_wp2_with fail
        go_round
        case rel => exact ⟨k + 1, by omega, by go_num, by rw [mem_take_step hlt]; rintro (h | h); exact Hno.out h; simp [h] at hc⟩
        case measure => simp [intOf]; omega
    · obtain rfl : k = l.length := by omega
      go_wp2_with fail
      go_ret
      have := Hno.out
      rw [List.take_length] at this
      exact ⟨by simp [this], rfl⟩

set_option maxHeartbeats 400000 in
set_option maxRecDepth 100000 in
theorem sameInts_any (A1 A2 : Option Addr) (c1 c2 : Nat) (x y : List Int) (w : World) (h1 : Sl intv w w.heap.size A1 x) (h2 : Sl intv w w.heap.size A2 y) (hx : x.length ≤ 1000000000) (hy : y.length ≤ 1000000000) :
    Calls Try.prog 32 #[.slice A1 x.length c1, .slice A2 y.length c2] w fun e w' => e = .returned (.bool (decide (x = y))) ∧ Below w.heap.size w w' := by
  by_cases hl : x.length = y.length
  · go_enter Try.func32, Try.ntmps32
    go_wp2
    go_loopw [5] (fun i wr => ∃ k : Nat, k ≤ x.length ∧ i = .int .i64 k ∧ Below w.heap.size w wr ∧ x.take k = y.take k) (fun i _ => x.length - (intOf i).toNat)
    case atStart => exact ⟨0, by omega, rfl, Below.refl _ _, rfl⟩
    case round =>
      obtain ⟨k, hk, rfl, hb, ht⟩ := hrel
      have Ht := Lib.hid ht
      clear ht
      by_cases hlt : k < x.length
      · have hlt2 : k < y.length := by omega
        obtain ⟨b1, o1, rfl, -, p0⟩ := (h1.below hb).int hlt
        obtain ⟨b2, o2, rfl, -, q0⟩ := (h2.below hb).int hlt2
        clear h1 h2
        go_wp2
        go_quiet (fail)
        go_wp2
        · have he : (nth x k != nth y k) = true := by assumption
          go_ret
          exact ⟨by simp [show ¬ x = y from fun h => by subst h; simp at he], bdrewN hb _⟩
        · have he : (nth x k != nth y k) = false := by assumption
          go_roundw
          case rel => exact ⟨k + 1, by omega, by go_num, bdrewN hb _, take_succ_eq Ht.out hlt hlt2 (by rw [← nth_eq hlt, ← nth_eq hlt2]; simpa using he)⟩
          case measure => simp [intOf]; omega
      · go_wp2
        go_ret
        have e : x = y := by have := Ht.out; rwa [List.take_of_length_le (by omega), List.take_of_length_le (by omega)] at this
        exact ⟨by simp [e], hb⟩
  · go_enter Try.func32, Try.ntmps32
    have hne : ((x.length : Int) != y.length) = true := by rw [bne_iff_ne]; omega
    go_wp2
    go_ret
    exact ⟨by simp [show ¬ x = y from fun h => hl (by rw [h])], Below.refl _ _⟩

/-- element 0 of l reduced, or 0 -/
def pick0 (l : List Int) (most : Int) : Int := if l.length = 0 then 0 else around (nth l 0) most
theorem pick0_in (l : List Int) {most : Int} (h : 0 < most) : 0 ≤ pick0 l most ∧ pick0 l most < most := by
  unfold pick0
  split
  · omega
  · exact ⟨around_lo h, around_hi h⟩
set_option maxHeartbeats 400000 in
set_option maxRecDepth 100000 in
theorem pick0_any (A : Option Addr) (c : Nat) (l : List Int) (most : Int) (w : World) (h1 : Sl intv w w.heap.size A l) (hl : ∀ x ∈ l, I64 x) (hlen : l.length ≤ 9223372036854775807) (h2 : 1 ≤ most) (h3 : most ≤ 4611686018427387904) :
    Calls Try.prog 52 #[.slice A l.length c, .int .i64 0, .int .i64 most] w fun e w' => e = .returned (.int .i64 (pick0 l most)) ∧ w = w' := by
  by_cases h : 0 < l.length
  · obtain ⟨b, o, rfl, hbl, q0⟩ := h1.int h
    simp only [Nat.add_zero] at q0
    have hI := hl _ (nth_mem h)
    have e : pick0 l most = around (nth l 0) most := by rw [pick0, if_neg (by omega)]
    rw [e]
    have hlt : (0 : Int) < (l.length : Int) := by omega
    have hne : decide (l = []) = false := by cases l with | nil => simp at h | cons a t => simp
    go_enter Try.func52, Try.ntmps52
    go_wp2_with (go_at_call 23; refine (around_any _ _ _ hI (by omega) (by omega)).mono ?_; rintro e w' ⟨rfl, rfl⟩)
    go_ret
    exact ⟨rfl, rfl⟩
  · have e : pick0 l most = 0 := by rw [pick0, if_pos (by omega)]
    rw [e]
    obtain rfl : l = [] := by cases l with | nil => rfl | cons a t => simp at h
    go_enter Try.func52, Try.ntmps52
    go_wp2_with fail
    go_ret
    exact ⟨rfl, rfl⟩

/-! ### chosen -/
def ownOf (ws : List Int) (key : Int) : Nat → List Int
  | 0 => [0]
  | k + 1 => if nth ws k = key then ownOf ws key k ++ [(k : Int) + 1] else ownOf ws key k
theorem ownOf_len (ws : List Int) (key : Int) : ∀ k, 0 < (ownOf ws key k).length ∧ (ownOf ws key k).length ≤ k + 1
  | 0 => by simp [ownOf]
  | k + 1 => by
    have := ownOf_len ws key k
    unfold ownOf
    split
    · simp; omega
    · omega
theorem ownOf_in (ws : List Int) (key : Int) : ∀ k, ∀ x ∈ ownOf ws key k, 0 ≤ x ∧ x ≤ k
  | 0, x, h => by simp [ownOf] at h; omega
  | k + 1, x, h => by
    unfold ownOf at h
    split at h
    · rcases List.mem_append.1 h with h | h
      · have := ownOf_in ws key k x h; omega
      · simp at h; omega
    · have := ownOf_in ws key k x h; omega
def chosenV (ws : List Int) (key n latest : Int) (fresh : Bool) : Int :=
  if fresh = true ∧ 0 < n % 7 then latest
  else if n % 13 = 12 then 1 + n / 13 % 12
  else nth (ownOf ws key ws.length) (n / 2 % (ownOf ws key ws.length).length).toNat
theorem chosenV_in (ws : List Int) (key n latest : Int) (fresh : Bool) (h : 0 ≤ latest) : 0 ≤ chosenV ws key n latest fresh ∧ (chosenV ws key n latest fresh ≤ latest ∨ chosenV ws key n latest fresh ≤ 12 ∨ chosenV ws key n latest fresh ≤ ws.length) := by
  unfold chosenV
  split
  · omega
  · split
    · omega
    · have h1 := ownOf_len ws key ws.length
      have h2 : (n / 2 % ((ownOf ws key ws.length).length : Int)).toNat < (ownOf ws key ws.length).length := by
        have := Int.emod_lt_of_pos (n / 2) (show (0 : Int) < ((ownOf ws key ws.length).length : Int) by omega)
        have := Int.emod_nonneg (n / 2) (show ((ownOf ws key ws.length).length : Int) ≠ 0 by omega)
        omega
      have := ownOf_in ws key ws.length _ (nth_mem h2)
      omega

set_option maxHeartbeats 1000000 in
set_option maxRecDepth 100000 in
theorem chosen_any (A : Option Addr) (c : Nat) (ws : List Int) (key n latest : Int) (fresh : Bool) (w : World) (h1 : Sl intv w w.heap.size A ws) (hlen : ws.length ≤ 1000000) (hn0 : 0 ≤ n) (hn1 : n ≤ 1000000) :
    Calls Try.prog 53 #[.slice A ws.length c, .int .i64 key, .int .i64 n, .int .i64 latest, .bool fresh] w fun e w' => e = .returned (.int .i64 (chosenV ws key n latest fresh)) ∧ Below w.heap.size w w' := by
  by_cases hf : fresh = true ∧ 0 < n % 7
  · have e : chosenV ws key n latest fresh = latest := by rw [chosenV, if_pos hf]
    rw [e]
    obtain ⟨rfl, hf2⟩ := hf
    go_enter Try.func53, Try.ntmps53
    go_wp2_with fail
    go_ret
    exact ⟨rfl, Below.refl _ _⟩
  · obtain ⟨V, hV⟩ : ∃ V, chosenV ws key n latest fresh = V := ⟨_, rfl⟩
    have hV2 := hV
    rw [chosenV, if_neg hf] at hV2
    rw [hV]
    clear hV
    go_enter Try.func53, Try.ntmps53
    go_upto_region 1 with fail
    go_cut [18] (fun s wx => s = .bool false ∧ w = wx)
    case first =>
      cases fresh with
      | false =>
        go_wp2_with fail
        go_meet
        case rel => exact ⟨rfl, rfl⟩
      | true =>
        have hf2 : ¬ 0 < n % 7 := fun h => hf ⟨rfl, h⟩
        go_wp2_with fail
        go_meet
        case rel => exact ⟨by simp, rfl⟩
    case rest =>
      obtain ⟨rfl, rfl⟩ := hcut
      clear hf
      by_cases hc : n % 13 = 12
      · rw [if_pos hc] at hV2
        have hc' : (n % 13 == 12) = true := by simpa using hc
        clear hc
        subst hV2
        go_wp2_with fail
        go_ret
        exact ⟨rfl, Below.refl _ _⟩
      · rw [if_neg hc] at hV2
        have hc' : (n % 13 == 12) = false := by simpa using hc
        clear hc
        have HV := Lib.hid hV2
        clear hV2
        go_wp2_with fail
        go_loopw [11, 12] (fun v i wr => ∃ (k : Nat) (A1 : Option Addr) (c1 : Nat), k ≤ ws.length ∧ i = .int .i64 k ∧ v = .slice A1 (ownOf ws key k).length c1 ∧
          wr.ownsRow w.heap.size 3 1 (.slice A1 (ownOf ws key k).length c1) (ownOf ws key k).length (flat intv (ownOf ws key k)) ∧ Below w.heap.size w wr) (fun _ i _ => ws.length - (intOf i).toNat)
        case atStart =>
          refine ⟨0, some ⟨w.heap.size, 0, none⟩, 1, by omega, rfl, rfl, ?_, (Below.refl _ _).alloc (Nat.le_refl _) _⟩
          refine ⟨by rfl, .inr ⟨w.heap.size, 1, #[.int .i64 0], rfl, Nat.le_refl _, heap_alloc_new w _, ?_⟩⟩
          simp [ownOf, flat, intv, maxLen]
        case round =>
          obtain ⟨k, A1, c1, hk, rfl, rfl, ho, hb⟩ := hrel
          have hsz := hb.size
          obtain ⟨hl1, hl2⟩ := ownOf_len ws key k
          by_cases hlt : k < ws.length
          · obtain ⟨b, o, rfl, hbl, q0⟩ := (h1.below hb).int hlt
            cases hc : (nth ws k == key) with
            | true =>
              have Hs := Lib.hid (show ownOf ws key (k + 1) = ownOf ws key k ++ [(k : Int) + 1] by rw [ownOf, if_pos (by simpa using hc)])
              go_wp2_with (at_builtin; go_loud (refine wpList_app1 slInt ho rfl (.tmp 40) (.tmp 43) rfl rfl rfl rfl (by simp [Value.oneCell']) (by omega) (by omega) (by omega) ?_; intro A3 c3 w2 ho3 hb3 hg3 hl3))
              go_roundw
              case rel =>
                refine ⟨k + 1, A3, c3, by omega, by go_num, by rw [Hs.out]; simp, ?_, hb.trans hb3⟩
                rw [Hs.out, flat_append, flat_one]; simpa [intv] using ho3
              case measure => simp [intOf]; omega
            | false =>
              have Hs := Lib.hid (show ownOf ws key (k + 1) = ownOf ws key k by rw [ownOf, if_neg (by simpa using hc)])
              go_wp2_with fail
              go_roundw
              case rel => exact ⟨k + 1, A1, c1, by omega, by go_num, by rw [Hs.out], by rw [Hs.out]; exact ho, hb⟩
              case measure => simp [intOf]; omega
          · obtain rfl : k = ws.length := by omega
            obtain ⟨m, hm⟩ : ∃ m : Nat, m = (ownOf ws key ws.length).length := ⟨_, rfl⟩
            obtain ⟨q, hq⟩ : ∃ q : Nat, n / 2 % (m : Int) = q := ⟨(n / 2 % (m : Int)).toNat, by have := Int.emod_nonneg (n / 2) (show (m : Int) ≠ 0 by omega); omega⟩
            have hqm : q < m := by have := Int.emod_lt_of_pos (n / 2) (show (0 : Int) < (m : Int) by omega); omega
            obtain ⟨b2, o2, rfl, hbl2, q2⟩ := (Sl.of_own ho rfl).int (i := q) (by omega)
            have hq2 := HV.out
            rw [← hm, hq] at hq2
            simp only [Int.toNat_natCast] at hq2
            rw [hq2] at q2
            rw [← hm] at hl1 hl2 ⊢
            have Hq := Lib.hid hq
            have hm0 : (0 : Int) < (m : Int) := by omega
            have hm1 : (m : Int) ≤ 1000001 := by omega
            have hq0 : (0 : Int) ≤ (q : Int) := by omega
            have hqm' : (q : Int) < (m : Int) := by omega
            clear hm hq2 ho
            go_wp2_with fail
            go_ret
            exact ⟨rfl, hb⟩

/-! ### popped -/
def popFrom (pushed taken : List Int) (key : Int) (k : Nat) : Nat → Int
  | 0 => 0
  | m + 1 => if nth pushed k = key ∧ ¬ ((k : Int) + 1) ∈ taken then (k : Int) + 1 else popFrom pushed taken key (k + 1) m
def poppedV (pushed taken : List Int) (key n : Int) : Int :=
  if n % 9 = 8 then n / 9 % 9 else if 0 < n % 5 then popFrom pushed taken key 0 pushed.length else 0
theorem popFrom_in (pushed taken : List Int) (key : Int) : ∀ m k, 0 ≤ popFrom pushed taken key k m ∧ popFrom pushed taken key k m ≤ (k : Int) + m
  | 0, k => by unfold popFrom; omega
  | m + 1, k => by
    have := popFrom_in pushed taken key m (k + 1)
    unfold popFrom
    split
    · omega
    · omega
theorem poppedV_in (pushed taken : List Int) (key n : Int) : 0 ≤ poppedV pushed taken key n ∧ (poppedV pushed taken key n ≤ 8 ∨ poppedV pushed taken key n ≤ pushed.length) := by
  unfold poppedV
  have := popFrom_in pushed taken key pushed.length 0
  split
  · omega
  · split
    · omega
    · omega

set_option maxHeartbeats 1000000 in
set_option maxRecDepth 100000 in
theorem popped_any (A1 A2 : Option Addr) (c1 c2 : Nat) (pushed taken : List Int) (key n : Int) (w : World) (h1 : Sl intv w w.heap.size A1 pushed) (h2 : Sl intv w w.heap.size A2 taken) (hl1 : pushed.length ≤ 1000000) (hl2 : taken.length ≤ 1000000) (hn0 : 0 ≤ n) (hn1 : n ≤ 1000000) :
    Calls Try.prog 54 #[.slice A1 pushed.length c1, .slice A2 taken.length c2, .int .i64 key, .int .i64 n] w fun e w' => e = .returned (.int .i64 (poppedV pushed taken key n)) ∧ Below w.heap.size w w' := by
  obtain ⟨V, hV⟩ : ∃ V, poppedV pushed taken key n = V := ⟨_, rfl⟩
  have hV2 := hV
  rw [poppedV] at hV2
  rw [hV]
  clear hV
  by_cases hc : n % 9 = 8
  · rw [if_pos hc] at hV2
    have hc' : (n % 9 == 8) = true := by simpa using hc
    clear hc
    subst hV2
    go_enter Try.func54, Try.ntmps54
    go_wp2_with fail
    go_ret
    exact ⟨rfl, Below.refl _ _⟩
  · rw [if_neg hc] at hV2
    have hc' : (n % 9 == 8) = false := by simpa using hc
    clear hc
    by_cases h5 : 0 < n % 5
    · rw [if_pos h5] at hV2
      have HV := Lib.hid hV2
      clear hV2
      go_enter Try.func54, Try.ntmps54
      go_wp2_with fail
      go_loopw [9] (fun i wr => ∃ k : Nat, k ≤ pushed.length ∧ i = .int .i64 k ∧ Below w.heap.size w wr ∧ popFrom pushed taken key k (pushed.length - k) = V) (fun i _ => pushed.length - (intOf i).toNat)
      case atStart => exact ⟨0, by omega, rfl, Below.refl _ _, by simpa using HV.out⟩
      case round =>
        obtain ⟨k, hk, rfl, hb, hno⟩ := hrel
        have Hno := Lib.hid hno
        clear hno
        have hsz := hb.size
        by_cases hlt : k < pushed.length
        · obtain ⟨b, o, rfl, hbl, q0⟩ := (h1.below hb).int hlt
          have hstep := Hno.out
          rw [show pushed.length - k = (pushed.length - (k + 1)) + 1 by omega, popFrom] at hstep
          have Hstep := Lib.hid hstep
          clear hstep
          go_upto_region 6 with fail
          obtain ⟨d, hd⟩ : ∃ d, decide (nth pushed k = key ∧ ¬ ((k : Int) + 1) ∈ taken) = d := ⟨_, rfl⟩
          have Hd := Lib.hid hd
          clear hd
          go_cut [39] (fun s wx => s = .bool d ∧ Below w.heap.size w wx)
          case first =>
            cases hc : (nth pushed k == key) with
            | false =>
              go_wp2_with fail
              go_meet
              case rel => exact ⟨by rw [← Hd.out]; simp at hc; simp [hc], hb⟩
            | true =>
              go_wp2_with (go_at_call 34; refine (has_any _ _ _ _ _ ((h2.ext hb)) (by omega)).mono ?_; rintro e w' ⟨rfl, rfl⟩)
              go_meet
              case rel => exact ⟨by rw [← Hd.out]; simp at hc; simp [hc], hb⟩
          case rest =>
            obtain ⟨rfl, hb2⟩ := hcut
            cases d with
            | true =>
              have hh := Hstep.out
              rw [if_pos (by simpa using Hd.out)] at hh
              subst hh
              go_wp2_with fail
              go_ret
              exact ⟨rfl, hb2⟩
            | false =>
              have hh := Hstep.out
              rw [if_neg (by simpa using Hd.out)] at hh
              have Hh := Lib.hid hh
              clear hh
              go_wp2_with fail
              go_roundw
              case rel => exact ⟨k + 1, by omega, by go_num, hb2, Hh.out⟩
              case measure => simp [intOf]; omega
        · obtain rfl : k = pushed.length := by omega
          have hh := Hno.out
          simp [popFrom] at hh
          subst hh
          go_wp2_with fail
          go_ret
          exact ⟨rfl, hb⟩
    · rw [if_neg h5] at hV2
      subst hV2
      have h5' : ¬ 0 < n % 5 := h5
      go_enter Try.func54, Try.ntmps54
      go_wp2_with fail
      go_loop [9] (fun i => i = .int .i64 0) (fun _ => 0)
      case atStart => rfl
      case round =>
        subst hrel
        go_wp2_with fail
        all_goals go_ret
        all_goals exact ⟨rfl, Below.refl _ _⟩
end Go.Proofs.Ythijndjgchbeoaa
